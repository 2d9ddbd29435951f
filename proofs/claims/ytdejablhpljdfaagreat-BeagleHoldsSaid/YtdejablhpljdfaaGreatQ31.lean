/-
  Texts of one claim, joined: TJoin2, TJoin3, TJoin4, TJoin5, TResult, TStream7.
-/
import Derived.Test.YtdejablhpljdfaaGreatQ30
import Derived.Test.YtdejablhpljdfaaGreatQ27
import Derived.Test.YtdejablhpljdfaaGreatQ23
import Derived.Test.YtdejablhpljdfaaGreatQ29
import Derived.Test.YtdejablhpljdfaaGreatQ02
namespace Go.Proofs.YtdejablhpljdfaaGreat
open Go.RowKit BG
attribute [local go_sem ↓] Go.wp_at_zero Go.wp_at_succ run_max_at run_min_at
set_option linter.unusedVariables false
def srv : List Int → Int → Bool
  | [], _ => true
  | x :: r, p => if x ≤ p then false else srv r x
set_option maxRecDepth 100000 in
set_option maxHeartbeats 2000000 in
theorem setright_c (A : Option Addr) (cap : Nat) (xs : List Int) (hm : xs.length ≤ 9223372036854775807) (w : World) (hr : Rd .i64 w A xs) : Calls Tryz.prog 114 #[.slice A xs.length cap] w (Ret (.bool (srv xs (-1))) w) := by
  generalize hll : xs.length = m at *
  have HM := Lib.hid hll
  clear hll
  generalize hB : srv xs (-1) = b
  have HB := Lib.hid hB
  clear hB
  go_enter Tryz.func114, Tryz.ntmps114
  go_wp2_with fail
  go_loopw [3, 8] (fun p i wr => ∃ (j : Nat) (q : Int), j ≤ m ∧ i = .int .i64 j ∧ p = .int .i64 q ∧ Kept w wr ∧ Hid (b = srv (xs.drop j) q)) (fun _ i _ => m - (intOf i).toNat)
  case atStart => exact ⟨0, -1, Nat.zero_le _, rfl, rfl, kept_refl w, HB.out.symm⟩
  case round =>
    obtain ⟨j, q, hj, rfl, rfl, hkw, HQ⟩ := hrel
    by_cases hlt : j < m
    · have hlt' : j < xs.length := by rw [HM.out]; exact hlt
      obtain ⟨ad, rfl, hc⟩ := (hr.kept hkw).2 (by omega)
      have hcj := hc j hlt'
      have hd : xs.drop j = nth xs j :: xs.drop (j + 1) := by rw [nth_lt hlt']; exact List.drop_eq_getElem_cons hlt'
      have HE : Hid (b = if nth xs j ≤ q then false else srv (xs.drop (j + 1)) (nth xs j)) := by have := HQ.out; rw [hd] at this; exact this
      clear hd hc HQ hlt'
      generalize nth xs j = y at *
      by_cases hy : y ≤ q
      · have hb := HE.out
        rw [if_pos hy] at hb
        subst hb
        clear HE
        go_wp2_with fail
        go_ret
        exact ⟨rfl, hkw⟩
      · have hb : Hid (b = srv (xs.drop (j + 1)) y) := by have := HE.out; rw [if_neg hy] at this; exact this
        have hy2 : decide (y ≤ q) = false := decide_eq_false hy
        clear HE
        go_wp2_with fail
        go_roundw
        case rel => exact ⟨j + 1, y, by omega, by go_num, rfl, hkw, hb⟩
        case measure => simp [intOf]; omega
    · obtain rfl : j = m := by omega
      have hb := HQ.out
      rw [List.drop_eq_nil_of_le (by rw [HM.out]; exact Nat.le_refl _)] at hb
      subst hb
      clear HQ
      go_wp2_with fail
      go_ret
      exact ⟨rfl, hkw⟩
end Go.Proofs.YtdejablhpljdfaaGreat
namespace Go.Proofs.YtdejablhpljdfaaGreat
open Go.RowKit BG
attribute [local go_sem ↓] Go.wp_at_zero Go.wp_at_succ run_max_at run_min_at
set_option linter.unusedVariables false
structure Sl where
  A : Option Addr
  cap : Nat
  xs : List Int
abbrev Sl.v (x : Sl) : Value := .slice x.A x.xs.length x.cap
abbrev Sl.ok (w : World) (x : Sl) : Prop := Rd .i64 w x.A x.xs
def RdS (w : World) (A : Option Addr) (l : List Sl) : Prop :=
  l.length ≤ 9223372036854775807 ∧ (0 < l.length → ∃ ad, A = some ad ∧ ∀ j x, l[j]? = some x → w.cell? (ad.add j) = some x.v) ∧ ∀ x ∈ l, x.ok w
theorem RdS.kept {w w1 : World} {A : Option Addr} {l : List Sl} (h : RdS w A l) (hk : Kept w w1) : RdS w1 A l :=
  ⟨h.1, fun h0 => by
    obtain ⟨ad, e, hc⟩ := h.2.1 h0
    exact ⟨ad, e, fun j x hx => kept_cell hk (hc j x hx)⟩, fun x hx => Rd.kept (h.2.2 x hx) hk⟩
theorem RdS.at_ {w : World} {A : Option Addr} {l : List Sl} (h : RdS w A l) {j : Nat} (hj : j < l.length) : ∃ ad x, A = some ad ∧ l[j]? = some x ∧ x.ok w ∧ w.cell? (ad.add j) = some x.v := by
  obtain ⟨ad, e, hc⟩ := h.2.1 (by omega)
  have hx := List.getElem?_eq_getElem hj
  exact ⟨ad, l[j], e, hx, h.2.2 _ (List.getElem_mem hj), hc j _ hx⟩
set_option maxRecDepth 100000 in
set_option maxHeartbeats 1000000 in
theorem join1_c0 (A : Option Addr) (n cap : Nat) (b : Bool) (w : World) (N : ∀ w1, Kept w w1 → Calls Tryz.prog 114 #[.slice A n cap] w1 (Ret (.bool b) w1)) : Calls Tryz.prog 113 #[.slice A n cap] w (Ret (.bool (!b)) w) := by
  go_enter Tryz.func113, Tryz.ntmps113
  go_wp2_with fail
  refine (N _ (kept_refl w)).mono ?_
  rintro e w1 ⟨rfl, hk1⟩
  clear N
  go_wp2_with fail
  go_ret
  exact ⟨rfl, hk1⟩
theorem join1_c (A : Option Addr) (cap : Nat) (xs : List Int) (w : World) (hx : Rd .i64 w A xs) : Calls Tryz.prog 113 #[.slice A xs.length cap] w (Ret (.bool (!srv xs (-1))) w) :=
  join1_c0 A xs.length cap (srv xs (-1)) w fun w1 hk => setright_c A cap xs hx.1 w1 (hx.kept hk)
def badS (l : List Sl) : Int := match l.findIdx? (fun x => !srv x.xs (-1)) with
  | some j => j
  | none => -1
theorem badS_no {l : List Sl} (h : ∀ x ∈ l, srv x.xs (-1) = true) : badS l = -1 := by
  unfold badS
  rw [List.findIdx?_eq_none_iff.2 (fun x hx => by rw [h x hx]; rfl)]
theorem badS_at {l : List Sl} {j : Nat} {x : Sl} (hx : l[j]? = some x) (h : srv x.xs (-1) = false) (hm : ∀ q y, q < j → l[q]? = some y → srv y.xs (-1) = true) : badS l = j := by
  have hj : j < l.length := by
    rcases Nat.lt_or_ge j l.length with h' | h'
    · exact h'
    · rw [List.getElem?_eq_none h'] at hx; cases hx
  have hxe : l[j] = x := by rw [List.getElem?_eq_getElem hj] at hx; exact Option.some.inj hx
  unfold badS
  rw [List.findIdx?_eq_some_iff_getElem.2 ⟨hj, by rw [hxe, h]; rfl, fun q hq => by rw [hm q l[q] hq (List.getElem?_eq_getElem _)]; decide⟩]
set_option maxRecDepth 100000 in
set_option maxHeartbeats 2000000 in
theorem rowidx_c (A : Option Addr) (cap : Nat) (l : List Sl) (w : World) (hr : RdS w A l) : Calls Tryz.prog 170 #[.slice A l.length cap, .func (.func 113) #[] #[]] w (Ret (.int .i64 (badS l)) w) := by
  have R1 := fun (x : Sl) w1 h => join1_c x.A x.cap x.xs w1 h
  have hm := hr.1
  have hat := fun j x => badS_at (l := l) (j := j) (x := x)
  have hno := badS_no (l := l)
  have HAT := Lib.hid (⟨hat, hno⟩ : _ ∧ _)
  clear hat hno
  generalize badS l = ix at *
  generalize hll : l.length = m at *
  have HM := Lib.hid hll
  clear hll
  go_enter Tryz.func170, Tryz.ntmps170
  go_wp2_with fail
  go_loopw [5, 8] (fun _ i wr => ∃ j : Nat, j ≤ m ∧ i = .int .i64 j ∧ Kept w wr ∧ Hid (∀ q y, q < j → l[q]? = some y → srv y.xs (-1) = true)) (fun _ i _ => m - (intOf i).toNat)
  case atStart => exact ⟨0, Nat.zero_le _, rfl, kept_refl w, fun q y hq => absurd hq (Nat.not_lt_zero q)⟩
  case round =>
    obtain ⟨j, hj, rfl, hkw, HQ⟩ := hrel
    by_cases hlt : j < m
    · obtain ⟨ad, x, rfl, hx, hok, e0⟩ := (hr.kept hkw).at_ (j := j) (by rw [HM.out]; exact hlt)
      have R1 := R1 x _ hok
      have hun0 := hok.1
      have HA : Hid (srv x.xs (-1) = false → ix = j) := fun h => HAT.out.1 j x hx h HQ.out
      have HB : Hid (srv x.xs (-1) = true → Hid (∀ q y, q < j + 1 → l[q]? = some y → srv y.xs (-1) = true)) := fun h q y hq hy => by
        rcases Nat.lt_or_ge q j with h' | h'
        · exact HQ.out q y h' hy
        · obtain rfl : q = j := by omega
          rw [hx] at hy; cases hy; exact h
      clear hx hok HAT HQ
      generalize srv x.xs (-1) = b at *
      obtain ⟨uA, uc, xs⟩ := x
      dsimp only [Sl.v] at R1 e0
      dsimp only at hun0
      generalize xs.length = un at *
      go_wp2_with fail
      refine R1.mono ?_
      rintro e w1 ⟨rfl, hk1⟩
      replace hkw := kept_trans hkw hk1
      clear R1 e0 hk1
      cases b
      · obtain rfl := HA.out rfl
        clear HA HB
        go_wp2_with fail
        go_ret
        exact ⟨rfl, hkw⟩
      · have HQ := HB.out rfl
        clear HA HB
        go_wp2_with fail
        go_roundw
        case rel => exact ⟨j + 1, by omega, by go_num, hkw, HQ⟩
        case measure => simp [intOf]; omega
    · obtain rfl : j = m := by omega
      have hix := HAT.out.2 (fun x hx => by
        obtain ⟨q, hq, rfl⟩ := List.getElem_of_mem hx
        exact HQ.out q _ (by rw [← HM.out]; exact hq) (List.getElem?_eq_getElem _))
      subst hix
      clear HAT HQ
      go_wp2_with fail
      go_ret
      exact ⟨rfl, hkw⟩
def anyS (l : List Sl) : Bool := l.any fun x => !srv x.xs (-1)
theorem badS_any (l : List Sl) : decide (0 ≤ badS l) = anyS l := by
  unfold badS anyS
  cases h : l.findIdx? (fun x => !srv x.xs (-1)) with
  | none =>
    have := List.findIdx?_eq_none_iff.1 h
    simp only [Int.reduceNeg, Int.reduceLE, decide_false]
    symm; rw [List.any_eq_false]; intro x hx; rw [this x hx]; decide
  | some j =>
    obtain ⟨hj, h1, _⟩ := List.findIdx?_eq_some_iff_getElem.1 h
    have : decide (0 ≤ (j : Int)) = true := decide_eq_true (by omega)
    rw [show (match some j with | some j => (j : Int) | none => -1) = (j : Int) from rfl, this]
    symm; rw [List.any_eq_true]; exact ⟨l[j], List.getElem_mem hj, h1⟩
set_option maxRecDepth 100000 in
set_option maxHeartbeats 2000000 in
theorem rowhas_c (A : Option Addr) (cap : Nat) (l : List Sl) (w : World) (hr : RdS w A l) : Calls Tryz.prog 115 #[.slice A l.length cap, .func (.func 113) #[] #[]] w (Ret (.bool (anyS l)) w) := by
  have I := fun w1 h => rowidx_c A cap l w1 h
  have hb := badS_any l
  have HB := Lib.hid hb
  clear hb
  generalize badS l = ix at *
  generalize anyS l = b at *
  generalize l.length = m at *
  go_enter Tryz.func115, Tryz.ntmps115
  go_wp2_with fail
  refine (I _ hr).mono ?_
  rintro e w1 ⟨rfl, hk1⟩
  clear I
  go_wp2_with fail
  go_ret
  exact ⟨by rw [← HB.out]; rfl, hk1⟩
end Go.Proofs.YtdejablhpljdfaaGreat
namespace Go.Proofs.YtdejablhpljdfaaGreat
open Go.RowKit BG
attribute [local go_sem ↓] Go.wp_at_zero Go.wp_at_succ run_max_at run_min_at
set_option linter.unusedVariables false
theorem info_ints : (Tryz.prog.info? 24).map (fun i => (i.zero, i.size, i.bytes)) = some (some (.slice none 0 0), 1, 24) := by kernel_rfl
theorem nilR_eq (A : Option Addr) (n c : Nat) (w : World) : (binOp .eql 54 (.slice A n c) (.slice none 0 0)).run Tryz.prog w = .ok (.bool A.isNone) w := by
  cases A <;> kernel_rfl
theorem rd_newsR {w : World} {ad : Addr} {l : List Sl} (h : RdS w (some ad) l) : ∀ j u, (l.map Sl.v)[j]? = some u → w.cell? (ad.add j) = some u := by
  intro j u hu
  have hj : j < l.length := by
    rcases Nat.lt_or_ge j l.length with h' | h'
    · exact h'
    · rw [List.getElem?_eq_none (by rw [List.length_map]; exact h')] at hu; cases hu
  obtain ⟨ad', x, e, hx, -, c0⟩ := h.at_ hj
  cases e
  rw [List.getElem?_map, hx, Option.map_some] at hu
  cases hu
  exact c0
set_option maxRecDepth 100000 in
set_option maxHeartbeats 2000000 in
theorem cloneR_c (A : Option Addr) (cap m : Nat) (l : List Sl) (hl : l.length = m) (hm : m ≤ 1000000) (w : World) (hA : A = none → m = 0 ∧ cap = 0) (hr : RdS w A l) : Calls Tryz.prog 121 #[.slice A m cap] w fun e w' => ∃ B c, e = .returned (.slice B m c) ∧ w'.ownsRow w.heap.size 24 1 (.slice B m c) m ((l.map Sl.v)) ∧ Kept w w' := by
  cases A with
  | none =>
    obtain ⟨rfl, rfl⟩ := hA rfl
    have hn := nilR_eq none 0 0 w
    have hz : (l.map Sl.v) = [] := by rw [List.length_eq_zero_iff.1 hl]; rfl
    have HZ := Lib.hid hz
    clear hz
    go_enter Tryz.func121, Tryz.ntmps121
    go_wp2_with fail
    go_ret
    exact ⟨none, 0, rfl, by rw [HZ.out]; exact ⟨by simp, .inl ⟨rfl, rfl⟩⟩, kept_refl _⟩
  | some ad =>
    obtain ⟨i1, hif1, hy0, hy1, hy2⟩ := info_parts info_ints
    have hn := nilR_eq (some ad) m cap w
    have hown : (w.alloc (.cells #[] 24)).ownsRow w.heap.size 24 1 (.slice (some ⟨w.heap.size, 0, none⟩) 0 0) 0 [] := ⟨rfl, .inr ⟨w.heap.size, 0, #[], rfl, Nat.le_refl _, blk_new w _, Nat.le_refl _, by unfold maxLen; omega, rfl, rfl⟩⟩
    have ka := kept_alloc (kept_refl w) (.cells #[] 24)
    have rda := hr.kept ka
    have HN : Hid ((∀ j u, ((l.map Sl.v))[j]? = some u → (w.alloc (.cells #[] 24)).cell? (ad.add j) = some u) ∧ ((l.map Sl.v)).length = m * 1 ∧ ∀ u ∈ (l.map Sl.v), u.oneCell' = true) := Lib.hid ⟨rd_newsR rda, by rw [List.length_map, hl, Nat.mul_one], by intro u hu; obtain ⟨x, _, hx⟩ := List.mem_map.1 hu; rw [← hx]; rfl⟩
    generalize (l.map Sl.v) = nw at *
    clear rda
    go_enter Tryz.func121, Tryz.ntmps121
    go_wp2_with (at_builtin; refine wpList_append_own _ rfl _ _ 54 rfl w.heap.size 24 i1 _ 1 24 Tryz.underlying54 hif1 hy0 hy1 hy2 rfl (by decide) _ 0 _ rfl hown ad m cap nw rfl ?c0 HN.out.1 ?c1 ?c2 ?c3 ?c4 ?_)
    case c0 => exact HN.out.2.1
    case c1 => exact HN.out.2.2
    case c2 => unfold maxLen; omega
    case c3 => omega
    case c4 => simp
    intro v' w1 o1 hg1 hnil
    have hk := kept_grow ka hg1 (by rintro k h; cases h; exact Nat.le_refl _)
    have hv : ∃ g c, v' = .slice (some ⟨g, 0, none⟩) m c := by
      rcases o1.2 with ⟨h, _⟩ | ⟨g, c, cur, h, _⟩
      · exact (hnil h).elim
      · exact ⟨g, c, by simpa using h⟩
    obtain ⟨g, c, rfl⟩ := hv
    have HO := Lib.hid (⟨o1, hk⟩ : _ ∧ _)
    clear hnil hg1 hown ka o1 hk HN
    go_wp2_with fail
    go_ret
    exact ⟨_, c, rfl, HO.out.1, HO.out.2⟩
end Go.Proofs.YtdejablhpljdfaaGreat
namespace Go.Proofs.YtdejablhpljdfaaGreat
open Go.RowKit BG
attribute [local go_sem ↓] Go.wp_at_zero Go.wp_at_succ run_max_at run_min_at
set_option linter.unusedVariables false
def NewI (xs : List Int) (w : World) (v : Value) (w' : World) : Prop := w'.ownsRow w.heap.size 3 1 v xs.length (xs.map (Value.int .i64)) ∧ Kept w w'
set_option maxRecDepth 100000 in
set_option maxHeartbeats 8000000 in
theorem join1n_c (A S : Option Addr) (cap sc : Nat) (x : Nd) (y : Sl) (z : Int) (hx1 : x.k = 1) (hq : qrightv [x] = true) (hy : srv y.xs (-1) = true) (hcap : 1 ≤ cap) (hcap2 : cap ≤ 9223372036854775807) (hsc : 1 ≤ sc) (hsc2 : sc ≤ 9223372036854775807) (hyl : y.xs.length ≤ 17592186043904) (hyc : y.xs.length ≤ y.cap) (hyc2 : y.cap ≤ 9223372036854775807) (hyn : y.A = none → y.xs.length = 0 ∧ y.cap = 0) (w : World) (hyb : ∀ ad, y.A = some ad → ad.block < w.heap.size) (hr : RdN w A [x]) (hs : RdS w S [y]) :
    Calls Tryz.prog 61 #[.slice A 1 cap, .slice S 1 sc, .int .i64 z] w fun e w' => ∃ v, e = .returned (.tuple #[v, .bool true]) ∧ NewI y.xs w v w' := by
  have QR := fun w1 h => qright_c A cap [x] hcap hcap2 w1 h
  rw [hq] at QR
  have LV := fun w1 h => leaves_c A cap [x] (by simp) w1 h
  have hlv : leavesN [x] = [x] := by simp [leavesN, hx1]
  rw [hlv] at LV
  have RH := fun w1 h => rowhas_c S sc [y] w1 h
  have han : anyS [y] = false := by simp [anyS, hy]
  rw [han] at RH
  clear hq hlv han hy
  have CL := fun w1 (h : RdS w1 S [y]) => cloneR_c S sc 1 [y] rfl (by decide) w1 (fun e => by obtain ⟨ad, e', _⟩ := h.2.1 (by simp); rw [e] at e'; cases e') h
  have hmm := @run_makeMap Tryz.prog
  go_enter Tryz.func61, Tryz.ntmps61
  go_wp2_with fail
  refine (QR _ hr).mono ?_
  rintro e w1 ⟨rfl, hk1⟩
  have hr1 := hr.kept hk1
  have hs1 := hs.kept hk1
  clear QR hr hs
  go_wp2_with fail
  refine (LV _ hr1).mono ?_
  rintro e w2 ⟨v, rfl, ownl, hk2⟩
  have hr2 := hr1.kept hk2
  have hs2 := hs1.kept hk2
  obtain ⟨vA, vc, rfl⟩ : ∃ A c, v = .slice A 1 c := by
    rcases ownl.2 with ⟨h1, h2⟩ | ⟨g, cap, _, h1, _⟩
    · cases h2
    · exact ⟨_, cap, h1⟩
  have k2 := kept_trans hk1 hk2
  clear LV hr1 hs1 ownl hk1 hk2
  go_wp2_with fail
  refine (RH _ hs2).mono ?_
  rintro e w3 ⟨rfl, hk3⟩
  have hr3 := hr2.kept hk3
  have hs3 := hs2.kept hk3
  have k3 := kept_trans k2 hk3
  have kM := kept_alloc k3 (.map #[] 0)
  have hM := IMap.new w3
  clear RH hr2 hs2 hk3 k2
  go_wp2_with (refine wpList_insert_int Tryz.underlying181 1 rfl rfl rfl rfl rfl hM (by rfl) ?_)
  intro v1 hM1 hg1
  clear hmm hM
  go_wp2_with (refine wpList_insert_int Tryz.underlying181 2 rfl rfl rfl rfl rfl hM1 (by rfl) ?_)
  intro v2 hM2 hg2
  clear hM1
  go_wp2_with (refine wpList_insert_int Tryz.underlying181 3 rfl rfl rfl rfl rfl hM2 (by rfl) ?_)
  intro v3 hM3 hg3
  clear hM2
  go_wp2_with (refine wpList_insert_int Tryz.underlying181 4 rfl rfl rfl rfl rfl hM3 (by rfl) ?_)
  intro v4 hM4 hg4
  clear hM3
  go_wp2_with (refine wpList_insert_int Tryz.underlying181 5 rfl rfl rfl rfl rfl hM4 (by rfl) ?_)
  intro v5 hM5 hg5
  clear hM4
  have G := grown_trans hg1 (grown_trans hg2 (grown_trans hg3 (grown_trans hg4 hg5)))
  clear hg1 hg2 hg3 hg4 hg5
  have k5 : Kept w3 v5 := kept_grow (kept_alloc (kept_refl w3) (.map #[] 0)) G (fun k e => by cases e; exact Nat.le_refl _)
  have hr5 := hr3.kept k5
  have hs5 := hs3.kept k5
  have k05 := kept_trans k3 k5
  have hlM := hM5
  clear kM G hr3 hs3 k3 k5
  go_wp2_with fail
  refine (CL _ hs5).mono ?_
  rintro e w6 ⟨B, bc, rfl, own6, hk6⟩
  have hM6 := hM5.kept hk6
  have hr6 := hr5.kept hk6
  have k06 := kept_trans k05 hk6
  clear CL hM5 hr5 k05 hlM
  go_wp2_with fail
  have hJ := blk_new w6 (jnO B 1 bc none 0 0 z)
  have kj := kept_alloc (kept_refl w6) (jnO B 1 bc none 0 0 z)
  have hMJ := hM6.kept kj
  have hrJ := hr6.kept kj
  have k0J := kept_trans k06 kj
  have ownJ := rowKept own6 kj
  obtain ⟨gB, rfl, hbc, hbc2, cB⟩ : ∃ gB, B = some ⟨gB, 0, none⟩ ∧ 1 ≤ bc ∧ bc ≤ 9223372036854775807 ∧ (w6.alloc (jnO B 1 bc none 0 0 z)).cell? ⟨gB, 0, none⟩ = some y.v := by
    have oj := ownJ
    rcases oj.2 with ⟨_, h2⟩ | ⟨g, cap', cur, e1, _, _, h1, h2, _⟩
    · cases h2
    · unfold maxLen at h2
      cases e1
      exact ⟨g, rfl, h1, by omega, World.ownsRow.cells ownJ (g := g) rfl 0 _ rfl⟩
  have hyJ : Rd .i64 (w6.alloc (jnO (some ⟨gB, 0, none⟩) 1 bc none 0 0 z)) y.A y.xs := Rd.kept (hs5.2.2 y (by simp)) (kept_trans hk6 kj)
  obtain ⟨adA, x', rfl, hx', hok, e0, e1, e2, e3⟩ := hrJ.at_ (j := 0) (by simp)
  obtain rfl : x = x' := by simpa using hx'
  have hlk := fun (s : KW (w6.alloc (jnO (some ⟨gB, 0, none⟩) 1 bc none 0 0 z))) => lookup_int Tryz.underlying181 (hMJ.kept s.kept) (k := 1) (v := .func (.func 116) #[] #[]) rfl
  rw [hx1] at e0
  have had : adA.add 0 = adA := by unfold Addr.add; simp
  rw [Nat.zero_mul, had] at e0 e1 e2 e3
  clear hM6 hr6 own6 hrJ kj hx' hs5 hk6
  obtain ⟨xk, xn, xA, xm, xc, xK, xs⟩ := x
  dsimp only at hx1 e0 e1 e2 e3
  subst hx1
  generalize w6.alloc (jnO (some ⟨gB, 0, none⟩) 1 bc none 0 0 z) = wJ at *
  refine wp_loop_rounds 2 ?_
  rw [rounds_succ]
  go_wp2_with fail
  have ks_0 := fun s => kw_cell s e0
  have ks_1 := fun s => kw_cell s e1
  have ks_2 := fun s => kw_cell s e2
  have ks_3 := fun s => kw_cell s e3
  refine wp_region_tail 12 (by kernel_rfl) (by kernel_rfl) ?_
  simp only [List.take_succ_cons, List.take_zero, List.drop_succ_cons, List.drop_zero]
  repeat (first | go_big_quiet_skip | (go_big_quiet_want; go_big_quiet_op; go_big_quiet_on))
  refine wpQuiet_nil ?_
  rintro w7 ⟨⟨_, hk7⟩, rfl⟩
  have JF := jfind_c w6.heap.size none 0 0 ⟨gB, 0, none⟩ 0 bc z y.A y.xs.length y.cap ⟨1, xn, xA, xm, xc, xK, xs⟩ hbc hbc2 _ (blk_kept hk7 hJ) (by rw [add_head]; exact kept_cell hk7 cB)
  have hy7 := hyJ.kept hk7
  have k07 := kept_trans k0J hk7
  have hJ7 := blk_lt (blk_kept hk7 hJ)
  have hw6 := k06.size
  clear ks_0 ks_1 ks_2 ks_3 e0 e1 e2 e3 hlk hJ hMJ hyJ k0J cB hk7 ownJ
  dsimp only [Nd.v] at JF
  go_wp2_with fail
  refine JF.mono ?_
  rintro e w8 ⟨rfl, hJ8, hg8⟩
  have hy8 : Rd .i64 w8 y.A y.xs := rd_grown hy7 hg8 (fun ad e h => by have := hyb ad e; have := Option.some.inj h; omega)
  have k08 := kept_grow k07 hg8 (fun k e => by cases e; exact hw6)
  have j0 := blk_cell hJ8 0
  have j1 := blk_cell hJ8 1
  have own0 : w8.ownsRow w8.heap.size 24 1 (.slice none 0 0) 0 [] := ⟨rfl, .inl ⟨rfl, rfl⟩⟩
  obtain ⟨i1, hif1, hz0, hz1, hz2⟩ := info_parts info_ints
  clear JF hy7 k07 hg8
  go_wp2_with (at_builtin; refine app_row0 (ev := [.slice y.A y.xs.length y.cap]) Tryz.underlying54 hif1 hz0 hz1 hz2 rfl (by decide) (by decide) rfl rfl rfl rfl (by simp) own0 rfl ?c0 (by decide) (Nat.le_refl _) ?_)
  case c0 => intro u' hu'; simp at hu'; rcases hu' with rfl; rfl
  intro g cap' w9 own9 hg9 hat9 hlt9
  have k89 : Kept w8 w9 := kept_grow (kept_refl w8) hg9 (fun k e => by cases e)
  have hJ9 := blk_kept k89 hJ8
  have hlt8 := blk_lt hJ8
  have n1 := blk_cell hJ9 1
  have f1 := blk_frozen hJ9 1
  have hgB := (World.ownsRow.lt own9 g rfl).1
  have hc9 : w9.cell? ⟨g, 0, none⟩ = some (.slice y.A y.xs.length y.cap) := World.ownsRow.cells own9 (g := g) rfl 0 _ rfl
  have hcap9 : 0 < cap' ∧ cap' ≤ 9223372036854775807 := by
    rcases own9.2 with ⟨h1, h2⟩ | ⟨g', c', cur, e1, _, _, h1, h2, _⟩
    · cases h2
    · unfold maxLen at h2
      cases e1
      exact ⟨h1, by omega⟩
  have hJ10 := blk_set hJ9 1 (.slice (some ⟨g, 0, none⟩) 1 cap')
  have hc10 : (w9.setCell ⟨w6.heap.size, 1, none⟩ (.slice (some ⟨g, 0, none⟩) 1 cap')).cell? ⟨g, 0, none⟩ = some (.slice y.A y.xs.length y.cap) := (Chg.of_grown (X := fun b => b = w6.heap.size) (setCell_grown w9 ⟨w6.heap.size, 1, none⟩ (.slice (some ⟨g, 0, none⟩) 1 cap')) (fun g e => (Option.some.inj e).symm)).cell hc9 (by dsimp only; omega)
  have hy10 : Rd .i64 (w9.setCell ⟨w6.heap.size, 1, none⟩ (.slice (some ⟨g, 0, none⟩) 1 cap')) y.A y.xs := rd_grown (hy8.kept k89) (setCell_grown _ _ _) (fun ad e h => by have := hyb ad e; have := Option.some.inj h; dsimp only at this; omega)
  have k10 := kept_grow (kept_trans k08 k89) (setCell_grown w9 ⟨w6.heap.size, 1, none⟩ (.slice (some ⟨g, 0, none⟩) 1 cap')) (fun k e => by cases e; exact hw6)
  have PO := jpop_c w6.heap.size (some ⟨gB, 0, none⟩) 0 bc ⟨g, 0, none⟩ 0 cap' z y.A y.xs.length y.cap hcap9.1 hcap9.2 _ hJ10 (by rw [add_head]; exact hc10)
  have HZ := Lib.hid (⟨hy10, k10⟩ : _ ∧ _)
  clear own9 hg9 hat9 own0 k89 hJ9 hc9 hJ10 hc10 hy10 k10 hy8 k08 hJ8 j0 j1 hif1 hz0 hz1 hz2
  go_wp2_with fail
  rw [rounds_succ]
  go_wp2_with fail
  refine PO.mono ?_
  rintro e w11 ⟨rfl, -, hg11⟩
  have hy11 : Rd .i64 w11 y.A y.xs := rd_grown HZ.out.1 hg11 (fun ad e h => by have := hyb ad e; have := Option.some.inj h; omega)
  have k11 := kept_grow HZ.out.2 hg11 (fun k e => by cases e; exact hw6)
  have CI := cloneI_c y.A y.cap y.xs hyl w11 hyn hy11
  clear PO hg11 hy11
  go_wp2_with fail
  refine CI.mono ?_
  rintro e w12 ⟨C, cc, rfl, own12, hk12⟩
  have HN := Lib.hid (⟨ownsRow_less own12 k11.size, kept_trans k11 hk12⟩ : _ ∧ _)
  clear CI own12
  go_wp2_with fail
  go_ret2
  exact ⟨_, rfl, HN.out⟩
end Go.Proofs.YtdejablhpljdfaaGreat
namespace Go.Proofs.YtdejablhpljdfaaGreat
open Go.RowKit BG
attribute [local go_sem ↓] Go.wp_at_zero Go.wp_at_succ run_max_at run_min_at
set_option linter.unusedVariables false
theorem newI_sl {w : World} {base n : Nat} {e : TypeId} {v : Value} {xs : List Value} (h : w.ownsRow base e 1 v n xs) : ∃ C cc, v = .slice C n cc := by
  rcases h.2 with ⟨h1, h2⟩ | ⟨g, cap, _, h1, _⟩
  · exact ⟨none, 0, by rw [h1, h2]⟩
  · exact ⟨_, cap, h1⟩
set_option maxRecDepth 100000 in
set_option maxHeartbeats 4000000 in
theorem result1_c (S Fo qc sc : Nat) (qA sA : Option Addr) (seen rounds F Z limit lg : Int) (held : ByteArray) (xs : List Int) (w : World) (hS : w.heap[S]? = some (strO seen rounds (.slice qA 1 qc) F Z limit lg held 1 (.slice sA 1 sc) (.slice (some ⟨Fo, 0, none⟩) 1 1)))
    (JN : ∀ w1, Kept w w1 → Calls Tryz.prog 61 #[.slice qA 1 qc, .slice (some ⟨Fo, 0, none⟩) 1 1, .int .i64 seen] w1 fun e w' => ∃ v, e = .returned (.tuple #[v, .bool true]) ∧ NewI xs w1 v w') :
    Calls Tryz.prog 30 #[.pointer (some ⟨S, 0, none⟩)] w fun e w' => ∃ v, e = .returned (.tuple #[v, .int .i64 0]) ∧ NewI xs w v w' := by
  have q8 := blk_cell hS 8
  have e0 := blk_cell hS 0
  have e2 := blk_cell hS 2
  have e10 := blk_cell hS 10
  go_enter Tryz.func30, Tryz.ntmps30
  go_wp2_with fail
  have kr := kept_refl w
  go_region_held3 (fun w' => w'.cell? ⟨S, 0, none⟩ = some (.int .i64 seen) ∧ w'.cell? ⟨S, 2, none⟩ = some (.slice qA 1 qc) ∧ w'.cell? ⟨S, 10, none⟩ = some (.slice (some ⟨Fo, 0, none⟩) 1 1)) (first | exact ⟨by assumption, by assumption, by assumption⟩ | exact ⟨kept_cell hk8 e0, kept_cell hk8 e2, kept_cell hk8 e10⟩) (first | (go_at_call 61; refine (JN _ (kept_drew kr)).mono ?_; rintro e w8 ⟨v, rfl, own8, hk8⟩; replace hk8 := kept_trans (kept_drew kr) hk8; obtain ⟨C, cc, rfl⟩ := newI_sl own8))
  have q88 := blk_cell (blk_kept hk8 hS) 8
  have HN := Lib.hid (⟨own8, hk8⟩ : _ ∧ _)
  clear own8 hk8 hS q8 e0 e2 e10 JN
  go_wp2_with fail
  go_ret2
  exact ⟨_, rfl, by have := HN.out.1; simpa using this, HN.out.2⟩
end Go.Proofs.YtdejablhpljdfaaGreat
namespace Go.Proofs.YtdejablhpljdfaaGreat
open Go.RowKit BG
set_option linter.unusedVariables false
def updF {α : Type} (f : Nat → α) (k : Nat) (a : α) : Nat → α := fun i => if i = k then a else f i
theorem updF_at {α : Type} (f : Nat → α) (k : Nat) (a : α) : updF f k a k = a := if_pos rfl
theorem updF_ne {α : Type} (f : Nat → α) {k i : Nat} (a : α) (h : i ≠ k) : updF f k a i = f i := if_neg h
theorem updV_ne (f : Nat → Value) {k i : Nat} (a : Value) (h : i ≠ k) : updV f k a i = f i := if_neg h
theorem bn_lt {base : Nat} {c : StrC} (h : StrOK base c) {k : Nat} (hk : k < c.q) : (c.r k).bn < c.M ∧ c.lo 0 < (c.r k).bn ∧ c.lo 0 ≤ c.M := by
  obtain ⟨a1, a2, a3, a4, a5, a6, a7⟩ := h.step k hk
  have := lo_lt h hk
  omega
theorem bn_ne {base : Nat} {c : StrC} (h : StrOK base c) {j k : Nat} (hj : j < c.q) (hk : k < c.q) (hjk : j ≠ k) : (c.r j).bn ≠ (c.r k).bn := by
  obtain ⟨a1, a2, a3, a4, a5, a6, a7⟩ := h.step k hk
  obtain ⟨b1, b2, b3, b4, b5, b6, b7⟩ := h.step j hj
  rcases Nat.lt_or_ge j k with h1 | h1
  · have := lo_at h h1 (by omega); omega
  · have := lo_at h (show k < j by omega) (by omega); omega
theorem lo0_M {base : Nat} {c : StrC} (h : StrOK base c) : c.lo 0 ≤ c.M := by
  have := lo_mono h c.q 0 (by omega)
  rw [Nat.zero_add] at this
  have := h.hM
  omega
theorem StrS.srch {base : Nat} {c : StrC} {v : StrV} {w w' : World} {k : Nat} {f' : List Int} {z' : Int} {e : Ending} (hok : StrOK base c) (h : StrS c v w) (hk : k < c.q) (hM : c.M ≤ w.heap.size) (hp : SrchPost c.Fo c.q k c.M (c.r k).bn v.vs f' z' w e w') :
    e = .returned (.tuple #[]) ∧ ∃ u, StrS c ⟨v.seen, v.rounds, v.held, v.en, updF v.z k z', updF v.f k f', updV v.vs k u⟩ w' ∧ Chg (StrX c) w w' := by
  obtain ⟨u, he, own, hfo, hbn, hc, hu⟩ := hp
  have hl0 := lo0_M hok
  have hS := hok.hS
  have hF := hok.hF
  have hrow : ∀ j, j < c.q → ∀ g, (v.vs j).ownBlock = some g → c.M ≤ g ∧ g < w.heap.size := fun j hj g hg => World.ownsRow.lt (h.own j hj) g hg
  have hcX : Chg (StrX c) w w' := hc.mono fun g hg => by
    rcases hg with hg | hg | hg
    · exact .inr (.inl hg)
    · exact .inr (.inr (.inl ⟨k, hk, hg⟩))
    · exact .inr (.inr (.inr (hrow k hk g hg).1))
  obtain ⟨f1, f2, f3⟩ := h.fixes hok hcX
  obtain ⟨b1, b2, b3⟩ := bn_lt hok hk
  refine ⟨he, u, ⟨?_, hfo, f1, fun j hj => ?_, fun j hj => ?_, fun i j hi hj hij g hg => ?_, f2, f3⟩, hcX⟩
  · refine hc.blk h.s ?_
    rintro (hg | hg | hg)
    · exact hF.2.2 hg
    · omega
    · have := (hrow k hk _ hg).1; omega
  · by_cases hjk : j = k
    · subst hjk
      show w'.heap[(c.r j).bn]? = some (.cells #[.int .i64 (updF v.z j z' j)] 3)
      rw [updF_at]; exact hbn
    · show w'.heap[(c.r j).bn]? = some (.cells #[.int .i64 (updF v.z k z' j)] 3)
      rw [updF_ne _ _ hjk]
      obtain ⟨d1, d2, d3⟩ := bn_lt hok hj
      refine hc.blk (h.n j hj) ?_
      rintro (hg | hg | hg)
      · omega
      · exact bn_ne hok hj hk hjk hg
      · have := (hrow k hk _ hg).1; omega
  · by_cases hjk : j = k
    · subst hjk
      show Own .i64 3 c.M w' (updV v.vs j u j) (updF v.f j f' j)
      rw [updF_at, updV_at]; exact own
    · show Own .i64 3 c.M w' (updV v.vs k u j) (updF v.f k f' j)
      rw [updF_ne _ _ hjk, updV_ne _ _ hjk]
      refine row_chg (h.own j hj) hc fun g hg hx => ?_
      have hg1 := (hrow j hj g hg).1
      rcases hx with hx | hx | hx
      · omega
      · omega
      · exact h.apart j k hj hk hjk g hg hx
  · have hi2 : ∀ i, i < c.q → i ≠ k → ∀ g, (v.vs i).ownBlock = some g → u.ownBlock ≠ some g := fun i hi hik g hg hug => by
      rcases hu with hu | hu
      · rw [hu] at hug; exact h.apart i k hi hk hik g hg hug
      · have := hu g hug; have := (hrow i hi g hg).2; omega
    have hg' : (updV v.vs k u i).ownBlock = some g := hg
    show (updV v.vs k u j).ownBlock ≠ some g
    by_cases hik : i = k
    · subst hik
      rw [updV_at] at hg'
      rw [updV_ne _ _ (Ne.symm hij)]
      intro hq
      exact hi2 j hj (Ne.symm hij) g hq hg'
    · rw [updV_ne _ _ hik] at hg'
      by_cases hjk : j = k
      · subst hjk
        rw [updV_at]
        exact hi2 i hi hik g hg'
      · rw [updV_ne _ _ hjk]
        exact h.apart i j hi hj hij g hg'
def srF (x : Nd) (held : ByteArray) (bs : Nat) (z : Int) (f : List Int) : List Int := f ++ newL (hitsv (countsv x.xs x.m x.K held) x.K) bs z
def srZ (x : Nd) (held : ByteArray) (bs : Nat) (z : Int) : Int := max z ((bs : Int) + held.size - x.m + 1)
theorem newL_len {ys : List Int} {k : Int} {bs : Nat} {z : Int} (hz : 0 ≤ z) : ((newL (hitsv ys k) bs z).length : Int) ≤ max 0 (min (ys.length : Int) ((bs : Int) + ys.length - z)) := by
  have h1 : (newL (hitsv ys k) bs z).length ≤ ((List.range ys.length).filter fun i : Nat => decide (z ≤ (bs : Int) + (i : Int))).length := by
    unfold newL newT
    rw [List.take_length, List.length_map]
    unfold hitsv hitsT
    rw [List.filter_map, List.length_map, List.filter_filter]
    have : ∀ l : List Nat, (l.filter fun a => ((fun i : Int => decide (z ≤ (bs : Int) + i)) ∘ fun i : Nat => (i : Int)) a && decide (nth ys a ≤ k)).length ≤ (l.filter fun i : Nat => decide (z ≤ (bs : Int) + (i : Int))).length := fun l => by
      induction l with
      | nil => simp
      | cons a l ih =>
        simp only [List.filter_cons, Function.comp]
        by_cases h1 : decide (z ≤ (bs : Int) + (a : Int)) = true
        · rw [h1, Bool.true_and, if_pos rfl]
          split
          · simp only [List.length_cons]; have := ih; simp only [Function.comp] at this; omega
          · simp only [List.length_cons]; have := ih; simp only [Function.comp] at this; omega
        · have h1 : decide (z ≤ (bs : Int) + (a : Int)) = false := by simpa using h1
          rw [h1, Bool.false_and, if_neg (by decide)]
          exact ih
    exact this _
  have h2 : ∀ n : Nat, ((((List.range n).filter fun i : Nat => decide (z ≤ (bs : Int) + (i : Int))).length : Nat) : Int) ≤ max 0 (min (n : Int) ((bs : Int) + n - z)) := fun n => by
    induction n with
    | zero => simp; omega
    | succ n ih =>
      rw [List.range_succ, List.filter_append, List.length_append]
      by_cases h : z ≤ (bs : Int) + (n : Int)
      · simp [h]; omega
      · simp [h]; omega
  have := h2 ys.length
  omega
theorem sr_bd {x : Nd} {held : ByteArray} {bs : Nat} {z : Int} {f : List Int} (hr : rightv x.xs x.m x.K = true) (hz : 0 ≤ z) (hf : (f.length : Int) ≤ z) : ((srF x held bs z f).length : Int) ≤ srZ x held bs z ∧ 0 ≤ srZ x held bs z := by
  obtain ⟨hm, -⟩ := rightv_n hr
  have h := newL_len (ys := countsv x.xs x.m x.K held) (k := x.K) (bs := bs) hz
  have hl : (countsv x.xs x.m x.K held).length = held.size + 1 - x.m := by unfold countsv; rw [if_pos hr, mk_length]
  rw [hl] at h
  unfold srF srZ
  rw [List.length_append]
  constructor <;> omega
structure StrI (c : StrC) (v : StrV) : Prop where
  z : ∀ k, k < c.q → 0 ≤ v.z k ∧ v.z k ≤ v.seen ∧ ((v.f k).length : Int) ≤ v.z k
  h : v.held.size ≤ v.seen
def goesR (c : StrC) (held : ByteArray) (en : Int) : Bool := (decide (en = 0) && decide (c.limit ≤ held.size)) || (!decide (en = 0) && decide (held.size ≠ 0))
def stepV (c : StrC) (v : StrV) (tx : ByteArray) (en : Int) (vs : Nat → Value) : StrV :=
  if goesR c (v.held ++ tx) en = true then
    ⟨v.seen + tx.size, v.rounds + 1, (v.held ++ tx).extract ((v.held ++ tx).size + 1 - c.longest) (v.held ++ tx).size, en, fun k => srZ (c.x k) (v.held ++ tx) (v.seen + tx.size - (v.held ++ tx).size) (v.z k), fun k => srF (c.x k) (v.held ++ tx) (v.seen + tx.size - (v.held ++ tx).size) (v.z k) (v.f k), vs⟩
  else ⟨v.seen + tx.size, v.rounds, v.held ++ tx, en, v.z, v.f, vs⟩
end Go.Proofs.YtdejablhpljdfaaGreat
