/-
  Texts of one claim, joined: TApp, TQuery5, TStream1, TTok1, TTok2.
-/
import Derived.Lib.Bytealg
import Derived.Lib.Strings
import Derived.Shelf.Strings.Search1
import Derived.Test.YtdejablhpljdfaaGreatQ06
import Derived.Test.YtdejablhpljdfaaGreatQ26
import Derived.Test.YtdejablhpljdfaaGreatQ23
import Derived.Test.YtdejablhpljdfaaGreatQ05
namespace Go.Proofs.YtdejablhpljdfaaGreat
open Go.RowKit BG
set_option linter.unusedVariables false
theorem app_row0 {t e : TypeId} {i : TypeInfo} {z : Value} {s bytes : Nat} (hund : Tryz.prog.underlying t = some (.slice e)) (hi : Tryz.prog.info? e = some i) (hz : i.zero = some z) (hsz : i.size = s) (hby : i.bytes = bytes) (hzs : z.cells.size = s) (hs0 : 0 < s) (hb8 : bytes ≤ 100)
    {ops : Array Oper} {rest : List Oper} {o : Oper} {a : Act} {Q : Exit → Act → World → Prop} {wr : World} {T : TypeId} {S x : Operand} {base : Nat} {v : Value} {n : Nat} {xs ev : List Value} (hg : o.guard = none)
    (ho : o.op = .call { callee := .builtin .append, args := #[S, x], argTypes := #[t, t] }) (hs : a.eval S = v) {H : Nat} (hx : a.eval x = .slice (some ⟨H, 0, none⟩) 1 1) (hH : wr.heap.size = H) (hown : wr.ownsRow base e s v n xs)
    (hev : ev.length = s) (h1 : ∀ u ∈ ev, u.oneCell' = true) (hlen : n ≤ 1000000000000) (hbw : base ≤ wr.heap.size)
    (h : ∀ g cap w1, w1.ownsRow base e s (.slice (some ⟨g, 0, none⟩) (n + 1) cap) (n + 1) (xs ++ ev) → wr.grownBy w1 v.ownBlock → (v.ownBlock = some g ∨ g = H + 1) → g < w1.heap.size → wpList Tryz.prog ops Q rest (a.put o.dst (.slice (some ⟨g, 0, none⟩) (n + 1) cap)) w1) :
    wpList Tryz.prog ops Q (o :: rest) a (wr.alloc (.cells ev.toArray T)) := by
  subst hH
  refine wpList_append_lies _ hg S x t ho base e i z s bytes hund hi hz hsz hby hzs hs0 v n xs hs (hown.alloc _) ⟨wr.heap.size, 0, none⟩ 1 1 ev hx (by omega) ?_ h1 (by omega) ?_ ?_ ?_ (wr.heap.size + 1) (by simp) ?_
  · exact World.news_of_block (cs := ev.toArray) (t := T) (fr := (0, 0)) (heap_alloc_new wr _)
  · unfold maxLen; omega
  · have := Nat.mul_le_mul (show n + 1 ≤ 1000000000001 by omega) hb8; omega
  · simp; omega
  · intro g cap w1 hown' hgrow hat hlt
    refine h g cap w1 hown' ⟨hgrow.os, hgrow.tape, hgrow.output, ?_, fun j hj hne => ?_⟩ hat hlt
    · have := hgrow.size; simp at this; omega
    · rw [hgrow.block j (by simp; omega) hne]; exact Below.heap_alloc wr _ j hj
theorem app_row {t e : TypeId} {i : TypeInfo} {z : Value} {s bytes : Nat} (hund : Tryz.prog.underlying t = some (.slice e)) (hi : Tryz.prog.info? e = some i) (hz : i.zero = some z) (hsz : i.size = s) (hby : i.bytes = bytes) (hzs : z.cells.size = s) (hs0 : 0 < s) (hb8 : bytes ≤ 100)
    {ops : Array Oper} {rest : List Oper} {o : Oper} {a : Act} {Q : Exit → Act → World → Prop} {wr w0 : World} {T : TypeId} {S x : Operand} {base : Nat} {v : Value} {n : Nat} {xs ev : List Value} (hg : o.guard = none)
    (ho : o.op = .call { callee := .builtin .append, args := #[S, x], argTypes := #[t, t] }) (hs : a.eval S = v) {H : Nat} (hx : a.eval x = .slice (some ⟨H, 0, none⟩) 1 1) (hH : wr.heap.size = H) (hown : wr.ownsRow base e s v n xs)
    (hev : ev.length = s) (h1 : ∀ u ∈ ev, u.oneCell' = true) (hlen : n ≤ 1000000000000) (hbw : base ≤ wr.heap.size) (hk : Kept w0 wr) (hb : w0.heap.size ≤ base)
    (h : ∀ g cap w1, w1.ownsRow base e s (.slice (some ⟨g, 0, none⟩) (n + 1) cap) (n + 1) (xs ++ ev) → wr.grownBy w1 v.ownBlock → Kept w0 w1 → (v.ownBlock = some g ∨ g = H + 1) → g < w1.heap.size → wpList Tryz.prog ops Q rest (a.put o.dst (.slice (some ⟨g, 0, none⟩) (n + 1) cap)) w1) :
    wpList Tryz.prog ops Q (o :: rest) a (wr.alloc (.cells ev.toArray T)) := by
  subst hH
  refine app_row0 hund hi hz hsz hby hzs hs0 hb8 hg ho hs hx rfl hown hev h1 hlen hbw ?_
  intro g cap w1 hown' hgrow hat hlt
  exact h g cap w1 hown' hgrow (kept_grow hk hgrow fun k hk' => by rcases World.ownsRow.lt hown k hk' with ⟨h2, _⟩; omega) hat hlt
end Go.Proofs.YtdejablhpljdfaaGreat
namespace Go.Proofs.YtdejablhpljdfaaGreat
open Go.RowKit BG
attribute [local go_sem ↓] Go.wp_at_zero Go.wp_at_succ run_max_at run_min_at
set_option linter.unusedVariables false
theorem info_leaf : (Tryz.prog.info? 61).map (fun i => (i.zero, i.size, i.bytes)) = some (some (.agg #[.slice none 0 0, .int .i64 0]), 2, 32) := by kernel_rfl
def lfL (x : Nd) : List Value := [.slice x.A x.m x.cap, .int .i64 x.K]
def lfs (l : List Nd) : List Value := l.flatMap lfL
theorem lfs_at : ∀ {l : List Nd} {j : Nat} {x : Nd}, l[j]? = some x → (lfs l)[j * 2]? = some (.slice x.A x.m x.cap) ∧ (lfs l)[j * 2 + 1]? = some (.int .i64 x.K)
  | [], j, x, h => by simp at h
  | a :: r, 0, x, h => by simp at h; subst h; exact ⟨rfl, rfl⟩
  | a :: r, j + 1, x, h => by
    have := lfs_at (l := r) (j := j) (x := x) (by simpa using h)
    rw [show (j + 1) * 2 = j * 2 + 1 + 1 by omega]
    simpa [lfs, lfL] using this
def LfAt (w : World) (ad : Addr) (x : Nd) : Prop := w.cell? ad = some (.slice x.A x.m x.cap) ∧ w.cell? ⟨ad.block, ad.off + 1, none⟩ = some (.int .i64 x.K)
def RdL (w : World) (A : Option Addr) (l : List Nd) : Prop :=
  l.length ≤ 9223372036854775807 ∧ (0 < l.length → ∃ ad, A = some ad ∧ ∀ j x, l[j]? = some x → LfAt w (ad.add (j * 2)) x) ∧ ∀ x ∈ l, x.ok w
theorem RdL.kept {w w1 : World} {A : Option Addr} {l : List Nd} (h : RdL w A l) (hk : Kept w w1) : RdL w1 A l :=
  ⟨h.1, fun h0 => by
    obtain ⟨ad, e, hc⟩ := h.2.1 h0
    exact ⟨ad, e, fun j x hx => ⟨kept_cell hk (hc j x hx).1, kept_cell hk (hc j x hx).2⟩⟩, fun x hx => (h.2.2 x hx).kept hk⟩
theorem RdL.at_ {w : World} {A : Option Addr} {l : List Nd} (h : RdL w A l) {j : Nat} (hj : j < l.length) : ∃ ad x, A = some ad ∧ l[j]? = some x ∧ x.ok w ∧ LfAt w (ad.add (j * 2)) x := by
  obtain ⟨ad, e, hc⟩ := h.2.1 (by omega)
  refine ⟨ad, l[j], e, List.getElem?_eq_getElem hj, h.2.2 _ (List.getElem_mem hj), hc j _ (List.getElem?_eq_getElem hj)⟩
theorem add_head (g k : Nat) : (⟨g, 0, none⟩ : Addr).add k = ⟨g, k, none⟩ := by unfold Addr.add; split <;> simp_all
theorem ownL_rd {w : World} {base n : Nat} {v : Value} {l : List Nd} (h : w.ownsRow base 61 2 v n (lfs l)) (hn : n = l.length) (hok : ∀ x ∈ l, x.ok w) : ∃ A cap, v = .slice A n cap ∧ n ≤ cap ∧ cap ≤ 9223372036854775807 ∧ RdL w A l := by
  subst hn
  rcases h.2 with ⟨rfl, h0⟩ | ⟨g, cap, cur, rfl, _, _, h1, h2, _⟩
  · exact ⟨none, 0, by rw [h0], by omega, by omega, by omega, fun hp => absurd hp (by omega), hok⟩
  · unfold maxLen at h2
    refine ⟨_, cap, rfl, h1, h2, by omega, fun _ => ⟨_, rfl, fun j x hx => ?_⟩, hok⟩
    obtain ⟨e0, e1⟩ := lfs_at hx
    have c0 := World.ownsRow.cells h (g := g) rfl _ _ e0
    have c1 := World.ownsRow.cells h (g := g) rfl _ _ e1
    rw [add_head] at c0 c1 ⊢
    exact ⟨c0, c1⟩
def leavesN (l : List Nd) : List Nd := l.filter fun x => decide (x.k = 1)
theorem leavesN_succ {l : List Nd} {j : Nat} {x : Nd} (h : l[j]? = some x) : leavesN (l.take (j + 1)) = leavesN (l.take j) ++ (if x.k = 1 then [x] else []) := by
  rw [List.take_add_one, h]
  unfold leavesN
  rw [List.filter_append]
  by_cases hk : x.k = 1 <;> simp [hk]
theorem leavesN_len (l : List Nd) (j : Nat) : (leavesN (l.take j)).length ≤ j := by
  have := List.length_filter_le (fun x : Nd => decide (x.k = 1)) (l.take j)
  simp at this
  unfold leavesN; simp; omega
set_option maxRecDepth 100000 in
set_option maxHeartbeats 4000000 in
theorem leaves_c (A : Option Addr) (cap : Nat) (l : List Nd) (hl : l.length ≤ 1000000) (w : World) (hr : RdN w A l) : Calls Tryz.prog 41 #[.slice A l.length cap] w fun e w' => ∃ v, e = .returned v ∧ w'.ownsRow w.heap.size 61 2 v (leavesN l).length (lfs (leavesN l)) ∧ Kept w w' := by
  obtain ⟨i1, hif1, hy0, hy1, hy2⟩ := info_parts info_leaf
  have HFIN := Lib.hid (show leavesN (l.take l.length) = leavesN l by rw [List.take_length])
  have HLEN := Lib.hid (leavesN_len l)
  generalize hm : l.length = m at *
  have HM := Lib.hid hm
  clear hm
  go_enter Tryz.func41, Tryz.ntmps41
  go_wp2_with fail
  go_loopw [3, 8] (fun v i wr => ∃ (j q : Nat), j ≤ m ∧ i = .int .i64 j ∧ q ≤ j ∧ wr.ownsRow w.heap.size 61 2 v q (lfs (leavesN (l.take j))) ∧ Hid (q = (leavesN (l.take j)).length) ∧ Kept w wr) (fun _ i _ => m - (intOf i).toNat)
  case atStart => exact ⟨0, 0, Nat.zero_le _, rfl, Nat.le_refl _, ⟨by simp [leavesN, lfs], .inl ⟨rfl, rfl⟩⟩, rfl, kept_refl w⟩
  case round =>
    obtain ⟨j, q, hj, rfl, hq, ho, HQ, hkw⟩ := hrel
    by_cases hlt : j < m
    · obtain ⟨ad, x, rfl, hx, hok, e0, e1, e2, e3⟩ := (hr.kept hkw).at_ (j := j) (by rw [HM.out]; exact hlt)
      have HS := Lib.hid (leavesN_succ hx)
      have hsz := hkw.size
      clear hx hok
      obtain ⟨k, n, A, mm, cp, K, xs⟩ := x
      dsimp only at HS e0 e1 e2 e3
      have kb := kept_alloc (kept_refl wr) (.cells #[.int .i64 k, .int .i64 n, .slice A mm cp, .int .i64 K] 95)
      have hb := blk_new wr (.cells #[.int .i64 k, .int .i64 n, .slice A mm cp, .int .i64 K] 95)
      have d0 := blk_cell hb 0
      have d1 := blk_cell hb 1
      have d2 := blk_cell hb 2
      have d3 := blk_cell hb 3
      by_cases hk : k = 1
      · subst hk
        have hs := HS.out
        rw [if_pos rfl] at hs
        have HS2 := Lib.hid hs
        clear HS hs
        have ox : World.ownsRow _ _ _ _ _ _ _ := ho.alloc (.cells #[.int .i64 1, .int .i64 n, .slice A mm cp, .int .i64 K] 95)
        have kx := kept_trans hkw kb
        have hsx := kx.size
        go_wp2_with (at_builtin; refine app_row (ev := [.slice A mm cp, .int .i64 K]) Tryz.underlying87 hif1 hy0 hy1 hy2 rfl (by decide) (by decide) rfl rfl rfl rfl (by simp) ox rfl ?c1 ?c2 ?c3 kx (Nat.le_refl _) ?_)
        case c1 => intro u hu; simp at hu; rcases hu with rfl | rfl <;> rfl
        case c2 => omega
        case c3 => exact hsx
        intro g cp' w1 o1 hg1 k1 _ _
        have HO := Lib.hid o1
        clear o1 ox ho d0 d1 d2 d3 e0 e1 e2 e3 hb kb kx hg1
        go_wp2_with fail
        go_roundw
        case rel => exact ⟨j + 1, q + 1, by omega, by go_num, by omega, by rw [HS2.out]; unfold lfs; rw [List.flatMap_append]; exact HO.out, Lib.hid (by rw [HS2.out, HQ.out]; simp), k1⟩
        case measure => simp [intOf]; omega
      · have b1 : (k == 1) = false := beq_eq_false_iff_ne.2 hk
        have hs := HS.out
        rw [if_neg hk, List.append_nil] at hs
        have HS2 := Lib.hid hs
        clear HS hs
        have ox : World.ownsRow _ _ _ _ _ _ _ := ho.alloc (.cells #[.int .i64 k, .int .i64 n, .slice A mm cp, .int .i64 K] 95)
        have kx := kept_trans hkw kb
        clear hb
        go_wp2_with fail
        go_roundw
        case rel => exact ⟨j + 1, q, by omega, by go_num, by omega, by rw [HS2.out]; exact ox, Lib.hid (by rw [HS2.out]; exact HQ.out), kx⟩
        case measure => simp [intOf]; omega
    · obtain rfl : j = m := by omega
      have HO := Lib.hid (⟨ho, hkw⟩ : _ ∧ _)
      clear ho hkw
      go_wp2_with fail
      go_ret
      obtain ⟨ho, hkw⟩ := HO.out
      rw [HFIN.out] at ho HQ
      exact ⟨_, rfl, by rw [← HQ.out]; exact ho, hkw⟩
def longL (l : List Nd) : Nat := l.foldl (fun o x => max o x.m) 0
def longv (l : List Nd) : Nat := longL (leavesN l)
theorem longL_succ {l : List Nd} {j : Nat} {x : Nd} (h : l[j]? = some x) : longL (l.take (j + 1)) = max (longL (l.take j)) x.m := by
  rw [List.take_add_one, h]
  unfold longL
  simp
set_option maxRecDepth 100000 in
set_option maxHeartbeats 4000000 in
theorem longest_c (A : Option Addr) (cap : Nat) (l : List Nd) (hl : l.length ≤ 1000000) (hmm : ∀ x ∈ l, x.m ≤ 9223372036854775807) (w : World) (hr : RdN w A l) : Calls Tryz.prog 20 #[.slice A l.length cap] w (Ret (.int .i64 (longv l : Nat)) w) := by
  have LV := fun w1 h => leaves_c A cap l hl w1 h
  have HOK := Lib.hid (fun x (hx : x ∈ leavesN l) => (⟨(hr.2.2 x (List.mem_filter.1 hx).1), hmm x (List.mem_filter.1 hx).1⟩ : x.ok w ∧ x.m ≤ 9223372036854775807))
  have hln : (leavesN l).length ≤ l.length := List.length_filter_le _ _
  have HFIN := Lib.hid (show longL ((leavesN l).take (leavesN l).length) = longv l by rw [List.take_length]; rfl)
  clear hmm
  generalize longv l = lg at *
  generalize leavesN l = fl at *
  generalize l.length = m at *
  generalize hq : fl.length = q at *
  have HQ := Lib.hid hq
  clear hq
  go_enter Tryz.func20, Tryz.ntmps20
  go_wp2_with fail
  refine (LV _ hr).mono ?_
  rintro e w1 ⟨v, rfl, own, hk1⟩
  obtain ⟨B, c, rfl, hc1, hc2, rd⟩ := ownL_rd own HQ.out.symm (fun x hx => (HOK.out x hx).1.kept hk1)
  clear LV own
  go_wp2_with fail
  go_loopw [3, 9] (fun o i wr => ∃ (j d : Nat), j ≤ q ∧ i = .int .i64 j ∧ o = .int .i64 d ∧ d ≤ 9223372036854775807 ∧ Hid (d = longL (fl.take j)) ∧ Kept w1 wr) (fun _ i _ => q - (intOf i).toNat)
  case atStart => exact ⟨0, 0, Nat.zero_le _, rfl, rfl, by omega, Lib.hid (by simp [longL]), kept_refl w1⟩
  case round =>
    obtain ⟨j, d, hj, rfl, rfl, hd, HD, hkw⟩ := hrel
    by_cases hlt : j < q
    · obtain ⟨ad, x, rfl, hx, hok, e0, e1⟩ := (rd.kept hkw).at_ (j := j) (by rw [HQ.out]; exact hlt)
      have HS := Lib.hid (longL_succ hx)
      have hmx := (HOK.out x (List.mem_of_getElem? hx)).2
      clear hx hok
      obtain ⟨k, n, A, mm, cp, K, xs⟩ := x
      dsimp only at HS e0 e1 hmx
      have kb := kept_alloc (kept_refl wr) (.cells #[.slice A mm cp, .int .i64 K] 61)
      have hb := blk_new wr (.cells #[.slice A mm cp, .int .i64 K] 61)
      have d0 := blk_cell hb 0
      have d1 := blk_cell hb 1
      have kx := kept_trans hkw kb
      clear hb kb
      go_wp2_with fail
      go_roundw
      case rel => exact ⟨j + 1, max d mm, by omega, by go_num, by first | rfl | go_num, by omega, Lib.hid (by rw [HS.out, HD.out]), kx⟩
      case measure => simp [intOf]; omega
    · obtain rfl : j = q := by omega
      have hf : d = lg := by rw [HD.out]; exact HFIN.out
      subst hf
      clear HFIN HD HOK
      go_wp2_with fail
      go_ret
      exact ⟨rfl, kept_trans hk1 hkw⟩
end Go.Proofs.YtdejablhpljdfaaGreat
namespace Go.Proofs.YtdejablhpljdfaaGreat
open Go.RowKit BG
attribute [local go_sem ↓] Go.wp_at_zero Go.wp_at_succ run_max_at run_min_at
set_option linter.unusedVariables false
structure Chg (X : Nat → Prop) (w w' : World) : Prop where
  os : w'.os = w.os
  tape : w'.tape = w.tape
  output : w'.output = w.output
  size : w.heap.size ≤ w'.heap.size
  block : ∀ g, g < w.heap.size → ¬ X g → w'.heap[g]? = w.heap[g]?
theorem Chg.refl (X : Nat → Prop) (w : World) : Chg X w w := ⟨rfl, rfl, rfl, Nat.le_refl _, fun _ _ _ => rfl⟩
theorem Chg.trans {X : Nat → Prop} {w w1 w2 : World} (h : Chg X w w1) (k : Chg X w1 w2) : Chg X w w2 :=
  ⟨k.os.trans h.os, k.tape.trans h.tape, k.output.trans h.output, Nat.le_trans h.size k.size, fun g hg hx => (k.block g (Nat.lt_of_lt_of_le hg h.size) hx).trans (h.block g hg hx)⟩
theorem Chg.of_kept {X : Nat → Prop} {w w1 : World} (h : Kept w w1) : Chg X w w1 := ⟨h.os, h.tape, h.output, h.size, fun g hg _ => h.block g hg⟩
theorem Chg.of_grown {X : Nat → Prop} {w w1 : World} {row : Option Nat} (h : w.grownBy w1 row) (hx : ∀ g, row = some g → X g) : Chg X w w1 := ⟨h.os, h.tape, h.output, h.size, fun g hg hn => h.block g hg fun e => hn (hx g e.symm)⟩
theorem Chg.grow {X : Nat → Prop} {w w1 w2 : World} {row : Option Nat} (h : Chg X w w1) (hg : w1.grownBy w2 row) (hx : ∀ g, row = some g → X g ∨ w.heap.size ≤ g) : Chg X w w2 :=
  ⟨hg.os.trans h.os, hg.tape.trans h.tape, hg.output.trans h.output, Nat.le_trans h.size hg.size, fun g hlt hn => (hg.block g (Nat.lt_of_lt_of_le hlt h.size) (fun e => by rcases hx g e.symm with h' | h'; exact hn h'; omega)).trans (h.block g hlt hn)⟩
theorem Chg.mono {X Y : Nat → Prop} {w w1 : World} (h : Chg X w w1) (hxy : ∀ g, X g → Y g) : Chg Y w w1 := ⟨h.os, h.tape, h.output, h.size, fun g hg hn => h.block g hg fun hx => hn (hxy g hx)⟩
theorem Chg.blk {X : Nat → Prop} {w w1 : World} (h : Chg X w w1) {g : Nat} {o : Obj} (hb : w.heap[g]? = some o) (hx : ¬ X g) : w1.heap[g]? = some o := (h.block g (blk_lt hb) hx).trans hb
theorem Chg.below {X : Nat → Prop} {w w1 : World} (h : Chg X w w1) {B : Nat} (hB : B ≤ w.heap.size) (hx : ∀ g, X g → B ≤ g) : Below B w w1 := ⟨h.os, h.tape, h.output, h.size, fun g hg => h.block g (by omega) fun hX => by have := hx g hX; omega⟩
theorem Chg.set {X : Nat → Prop} {w w1 : World} (h : Chg X w w1) {p : Addr} (hp : X p.block) (u : Value) : Chg X w (w1.setCell p u) := h.trans (Chg.of_grown (setCell_grown w1 p u) fun g e => by cases e; exact hp)
theorem Chg.cell {X : Nat → Prop} {w w1 : World} (h : Chg X w w1) {a : Addr} {v : Value} (hc : w.cell? a = some v) (hx : ¬ X a.block) : w1.cell? a = some v := (World.cell?_of_block (h.block _ (World.block_lt_of_cell? w a hc) hx)).trans hc
theorem ad_block (ad : Addr) (j : Nat) : (ad.add j).block = ad.block := by unfold Addr.add; split <;> rfl
theorem Rd.chg {X : Nat → Prop} {k : IntKind} {w w1 : World} {A : Option Addr} {xs : List Int} (h : Rd k w A xs) (hc : Chg X w w1) (hA : ∀ ad, A = some ad → ¬ X ad.block) : Rd k w1 A xs :=
  ⟨h.1, fun h0 => by
    obtain ⟨ad, e, hd⟩ := h.2 h0
    exact ⟨ad, e, fun j hj => hc.cell (hd j hj) (by rw [ad_block]; exact hA ad e)⟩⟩
theorem row_chg {X : Nat → Prop} {w w1 : World} {base n size : Nat} {e : TypeId} {v : Value} {xs : List Value} (h : w.ownsRow base e size v n xs) (hc : Chg X w w1) (hA : ∀ g, v.ownBlock = some g → ¬ X g) : w1.ownsRow base e size v n xs := by
  obtain ⟨h1, h2⟩ := h
  refine ⟨h1, ?_⟩
  rcases h2 with h2 | ⟨g, cap, cur, rfl, hg, hb, r⟩
  · exact .inl h2
  · exact .inr ⟨g, cap, cur, rfl, hg, hc.blk hb (hA g rfl), r⟩
theorem info_node : (Tryz.prog.info? 95).map (fun i => (i.zero, i.size, i.bytes)) = some (some (.agg #[.int .i64 0, .int .i64 0, .slice none 0 0, .int .i64 0]), 4, 48) := by kernel_rfl
def ndL (x : Nd) : List Value := [.int .i64 x.k, .int .i64 x.n, .slice x.A x.m x.cap, .int .i64 x.K]
def nds (l : List Nd) : List Value := l.flatMap ndL
theorem nds_len (l : List Nd) : (nds l).length = l.length * 4 := by
  induction l with
  | nil => rfl
  | cons a r ih => simp [nds] at ih ⊢; rw [ih]; simp [ndL]; omega
theorem nds_at : ∀ {l : List Nd} {j : Nat} {x : Nd}, l[j]? = some x → (nds l)[j * 4]? = some (.int .i64 x.k) ∧ (nds l)[j * 4 + 1]? = some (.int .i64 x.n) ∧ (nds l)[j * 4 + 2]? = some (.slice x.A x.m x.cap) ∧ (nds l)[j * 4 + 3]? = some (.int .i64 x.K)
  | [], j, x, h => by simp at h
  | a :: r, 0, x, h => by simp at h; subst h; exact ⟨rfl, rfl, rfl, rfl⟩
  | a :: r, j + 1, x, h => by
    have := nds_at (l := r) (j := j) (x := x) (by simpa using h)
    rw [show (j + 1) * 4 = j * 4 + 1 + 1 + 1 + 1 by omega]
    simpa [nds, ndL] using this
theorem ownN_nd {w : World} {base n : Nat} {v : Value} {l : List Nd} (h : w.ownsRow base 95 4 v n (nds l)) (hn : n = l.length) (hok : ∀ x ∈ l, x.ok w) : ∃ A cap, v = .slice A n cap ∧ n ≤ cap ∧ cap ≤ 9223372036854775807 ∧ RdN w A l := by
  subst hn
  rcases h.2 with ⟨rfl, h0⟩ | ⟨g, cap, cur, rfl, _, _, h1, h2, _⟩
  · exact ⟨none, 0, by rw [h0], by omega, by omega, by omega, fun hp => absurd hp (by omega), hok⟩
  · unfold maxLen at h2
    refine ⟨_, cap, rfl, h1, h2, by omega, fun _ => ⟨_, rfl, fun j x hx => ?_⟩, hok⟩
    obtain ⟨e0, e1, e2, e3⟩ := nds_at hx
    have c0 := World.ownsRow.cells h (g := g) rfl _ _ e0
    have c1 := World.ownsRow.cells h (g := g) rfl _ _ e1
    have c2 := World.ownsRow.cells h (g := g) rfl _ _ e2
    have c3 := World.ownsRow.cells h (g := g) rfl _ _ e3
    rw [add_head] at c0 c1 c2 c3 ⊢
    exact ⟨c0, c1, c2, c3⟩
theorem nilN_eq (A : Option Addr) (n c : Nat) (w : World) : (binOp .eql 36 (.slice A n c) (.slice none 0 0)).run Tryz.prog w = .ok (.bool A.isNone) w := by
  cases A <;> kernel_rfl
theorem nilC_eq (A : Option Addr) (n c : Nat) (w : World) : (binOp .eql 59 (.slice A n c) (.slice none 0 0)).run Tryz.prog w = .ok (.bool A.isNone) w := by
  cases A <;> kernel_rfl
theorem rd_newsN {w : World} {ad : Addr} {l : List Nd} (h : RdN w (some ad) l) : ∀ j u, (nds l)[j]? = some u → w.cell? (ad.add j) = some u := by
  intro j u hu
  have hj : j < (nds l).length := by
    rcases Nat.lt_or_ge j (nds l).length with h' | h'
    · exact h'
    · rw [List.getElem?_eq_none h'] at hu; cases hu
  rw [nds_len] at hj
  obtain ⟨ad', x, e, hx, -, c0, c1, c2, c3⟩ := h.at_ (j := j / 4) (by omega)
  cases e
  obtain ⟨e0, e1, e2, e3⟩ := nds_at hx
  have hq : ∀ r, 0 < r → (⟨(ad.add (j / 4 * 4)).block, (ad.add (j / 4 * 4)).off + r, none⟩ : Addr) = ad.add (j / 4 * 4 + r) := fun r hr => add_more ad _ hr
  have hr : j % 4 = 0 ∨ j % 4 = 1 ∨ j % 4 = 2 ∨ j % 4 = 3 := by omega
  rcases hr with h4 | h4 | h4 | h4
  · rw [show j / 4 * 4 = j by omega] at e0 c0; rw [e0] at hu; cases hu; exact c0
  · rw [hq 1 (by omega), show j / 4 * 4 + 1 = j by omega] at c1; rw [show j / 4 * 4 + 1 = j by omega] at e1; rw [e1] at hu; cases hu; exact c1
  · rw [hq 2 (by omega), show j / 4 * 4 + 2 = j by omega] at c2; rw [show j / 4 * 4 + 2 = j by omega] at e2; rw [e2] at hu; cases hu; exact c2
  · rw [hq 3 (by omega), show j / 4 * 4 + 3 = j by omega] at c3; rw [show j / 4 * 4 + 3 = j by omega] at e3; rw [e3] at hu; cases hu; exact c3
theorem rd_newsC {w : World} {ad : Addr} {xs : List Int} (h : Rd .u64 w (some ad) xs) : ∀ j u, (xs.map (Value.int .u64))[j]? = some u → w.cell? (ad.add j) = some u := by
  intro j u hu
  rw [List.getElem?_map] at hu
  by_cases hj : j < xs.length
  · obtain ⟨ad', e, hc⟩ := h.at_ hj
    cases e
    rw [List.getElem?_eq_getElem hj, Option.map_some] at hu
    rw [hc, nth_lt hj]; exact hu
  · rw [List.getElem?_eq_none (by omega)] at hu; cases hu
set_option maxRecDepth 100000 in
set_option maxHeartbeats 2000000 in
theorem cloneN_c (A : Option Addr) (cap m : Nat) (l : List Nd) (hl : l.length = m) (hm : m ≤ 1000000) (w : World) (hA : A = none → m = 0 ∧ cap = 0) (hr : RdN w A l) : Calls Tryz.prog 40 #[.slice A m cap] w fun e w' => ∃ B c, e = .returned (.slice B m c) ∧ w'.ownsRow w.heap.size 95 4 (.slice B m c) m (nds l) ∧ Kept w w' := by
  cases A with
  | none =>
    obtain ⟨rfl, rfl⟩ := hA rfl
    have hn := nilN_eq none 0 0 w
    have hz : nds l = [] := by rw [List.length_eq_zero_iff.1 hl]; rfl
    have HZ := Lib.hid hz
    clear hz
    go_enter Tryz.func40, Tryz.ntmps40
    go_wp2_with fail
    go_ret
    exact ⟨none, 0, rfl, by rw [HZ.out]; exact ⟨by simp, .inl ⟨rfl, rfl⟩⟩, kept_refl _⟩
  | some ad =>
    obtain ⟨i1, hif1, hy0, hy1, hy2⟩ := info_parts info_node
    have hn := nilN_eq (some ad) m cap w
    have hown : (w.alloc (.cells #[] 95)).ownsRow w.heap.size 95 4 (.slice (some ⟨w.heap.size, 0, none⟩) 0 0) 0 [] := ⟨rfl, .inr ⟨w.heap.size, 0, #[], rfl, Nat.le_refl _, blk_new w _, Nat.le_refl _, by unfold maxLen; omega, rfl, rfl⟩⟩
    have ka := kept_alloc (kept_refl w) (.cells #[] 95)
    have rda := hr.kept ka
    have HN : Hid ((∀ j u, (nds l)[j]? = some u → (w.alloc (.cells #[] 95)).cell? (ad.add j) = some u) ∧ (nds l).length = m * 4 ∧ ∀ u ∈ nds l, u.oneCell' = true) := Lib.hid ⟨rd_newsN rda, by rw [nds_len, hl], by intro u hu; obtain ⟨x, _, hx⟩ := List.mem_flatMap.1 hu; simp [ndL] at hx; rcases hx with rfl | rfl | rfl | rfl <;> rfl⟩
    generalize nds l = nw at *
    clear rda
    go_enter Tryz.func40, Tryz.ntmps40
    go_wp2_with (at_builtin; refine wpList_append_own _ rfl _ _ 36 rfl w.heap.size 95 i1 _ 4 48 Tryz.underlying36 hif1 hy0 hy1 hy2 rfl (by decide) _ 0 _ rfl hown ad m cap nw rfl ?c0 HN.out.1 ?c1 ?c2 ?c3 ?c4 ?_)
    case c0 => exact HN.out.2.1
    case c1 => exact HN.out.2.2
    case c2 => unfold maxLen; omega
    case c3 => omega
    case c4 => simp
    intro v' w1 o1 hg1 hnil
    have hk := kept_grow ka hg1 (by rintro k h; cases h; exact Nat.le_refl _)
    have hv : ∃ g c, v' = .slice (some ⟨g, 0, none⟩) m c := by
      rcases o1.2 with ⟨h, _⟩ | ⟨g, c, cur, h, _⟩
      · exact (hnil h).elim
      · exact ⟨g, c, by simpa using h⟩
    obtain ⟨g, c, rfl⟩ := hv
    have HO := Lib.hid (⟨o1, hk⟩ : _ ∧ _)
    clear hnil hg1 hown ka o1 hk HN
    go_wp2_with fail
    go_ret
    exact ⟨_, c, rfl, HO.out.1, HO.out.2⟩
set_option maxRecDepth 100000 in
set_option maxHeartbeats 2000000 in
theorem cloneCl_c (A : Option Addr) (cap m : Nat) (xs : List Int) (hl : xs.length = 4 * m) (hm : m ≤ 1000000) (w : World) (hA : A = none → m = 0 ∧ cap = 0) (hr : Rd .u64 w A xs) : Calls Tryz.prog 72 #[.slice A m cap] w fun e w' => ∃ B c, e = .returned (.slice B m c) ∧ w'.ownsRow w.heap.size 110 4 (.slice B m c) m (xs.map (Value.int .u64)) ∧ Kept w w' := by
  cases A with
  | none =>
    obtain ⟨rfl, rfl⟩ := hA rfl
    have hn := nilC_eq none 0 0 w
    have hz : xs.map (Value.int .u64) = [] := by rw [List.length_eq_zero_iff.1 (by omega : xs.length = 0)]; rfl
    have HZ := Lib.hid hz
    clear hz
    go_enter Tryz.func72, Tryz.ntmps72
    go_wp2_with fail
    go_ret
    exact ⟨none, 0, rfl, by rw [HZ.out]; exact ⟨by simp, .inl ⟨rfl, rfl⟩⟩, kept_refl _⟩
  | some ad =>
    obtain ⟨i1, hif1, hy0, hy1, hy2⟩ := info_parts info_class
    have hn := nilC_eq (some ad) m cap w
    have hown : (w.alloc (.cells #[] 110)).ownsRow w.heap.size 110 4 (.slice (some ⟨w.heap.size, 0, none⟩) 0 0) 0 [] := ⟨rfl, .inr ⟨w.heap.size, 0, #[], rfl, Nat.le_refl _, blk_new w _, Nat.le_refl _, by unfold maxLen; omega, rfl, rfl⟩⟩
    have ka := kept_alloc (kept_refl w) (.cells #[] 110)
    have rda := hr.kept ka
    have HN : Hid ((∀ j u, (xs.map (Value.int .u64))[j]? = some u → (w.alloc (.cells #[] 110)).cell? (ad.add j) = some u) ∧ (xs.map (Value.int .u64)).length = m * 4 ∧ ∀ u ∈ xs.map (Value.int .u64), u.oneCell' = true) := Lib.hid ⟨rd_newsC rda, by rw [List.length_map]; omega, by intro u hu; obtain ⟨z, _, rfl⟩ := List.mem_map.1 hu; rfl⟩
    generalize xs.map (Value.int .u64) = nw at *
    clear rda
    go_enter Tryz.func72, Tryz.ntmps72
    go_wp2_with (at_builtin; refine wpList_append_own _ rfl _ _ 59 rfl w.heap.size 110 i1 _ 4 32 Tryz.underlying59 hif1 hy0 hy1 hy2 rfl (by decide) _ 0 _ rfl hown ad m cap nw rfl ?c0 HN.out.1 ?c1 ?c2 ?c3 ?c4 ?_)
    case c0 => exact HN.out.2.1
    case c1 => exact HN.out.2.2
    case c2 => unfold maxLen; omega
    case c3 => omega
    case c4 => simp
    intro v' w1 o1 hg1 hnil
    have hk := kept_grow ka hg1 (by rintro k h; cases h; exact Nat.le_refl _)
    have hv : ∃ g c, v' = .slice (some ⟨g, 0, none⟩) m c := by
      rcases o1.2 with ⟨h, _⟩ | ⟨g, c, cur, h, _⟩
      · exact (hnil h).elim
      · exact ⟨g, c, by simpa using h⟩
    obtain ⟨g, c, rfl⟩ := hv
    have HO := Lib.hid (⟨o1, hk⟩ : _ ∧ _)
    clear hnil hg1 hown ka o1 hk HN
    go_wp2_with fail
    go_ret
    exact ⟨_, c, rfl, HO.out.1, HO.out.2⟩
def FStep (t : ByteArray) (ys : List Int) (a b : Nat) (en : Int) (tx : ByteArray) (ys' : List Int) (a' : Nat) (en' : Int) : Prop :=
  (a = b ∧ tx = ⟨#[]⟩ ∧ ys' = ys ∧ a' = a ∧ en' = en) ∨ (a < b ∧ ys' = ys.tail ∧ a' = a + feedN ys (b - a) ∧ tx = t.extract a a' ∧ en' = 0)
theorem FeedS.kept {t : ByteArray} {ys : List Int} {a b : Nat} {en : Int} {B : Nat} {Y : Nat → Prop} {w w1 : World} (h : FeedS t ys a b en B Y w) (hk : Kept w w1) : FeedS t ys a b en B Y w1 := by
  obtain ⟨P, c, h1, h2, h3, h4⟩ := h
  exact ⟨P, c, blk_kept hk h1, h2.kept hk, h3, h4⟩
theorem FeedS.chg {t : ByteArray} {ys : List Int} {a b : Nat} {en : Int} {B : Nat} {Y X : Nat → Prop} {w w1 : World} (h : FeedS t ys a b en B Y w) (hc : Chg X w w1) (hB : ¬ X B) (hY : ∀ g, Y g → ¬ X g) : FeedS t ys a b en B Y w1 := by
  obtain ⟨P, c, h1, h2, h3, h4⟩ := h
  exact ⟨P, c, hc.blk h1 hB, h2.chg hc fun ad e => hY _ (h3 ad e), h3, h4⟩
theorem feedread_c (t : ByteArray) (ys : List Int) (a b : Nat) (en : Int) (B : Nat) (Y : Nat → Prop) (hY : ¬ Y B) (hab : a ≤ b) (hb : b ≤ t.size) (ht : t.size ≤ 900000) (w : World) (h : FeedS t ys a b en B Y w) : Calls Tryz.prog 44 #[.pointer (some ⟨B, 0, none⟩)] w fun e w' => ∃ tx ys' a' en', e = .returned (.tuple #[.string tx, .int .i64 en']) ∧ FeedS t ys' a' b en B Y w' ∧ w.grownBy w' (some B) ∧ Hid (FStep t ys a b en tx ys' a' en') := by
  by_cases hlt : a < b
  · cases ys with
    | nil =>
      refine (feedread_nil t a b en B Y hY hlt hb ht w h).mono ?_
      rintro e w' ⟨rfl, hf, hg⟩
      exact ⟨_, _, _, _, rfl, hf, hg, Lib.hid (.inr ⟨hlt, rfl, rfl, rfl, rfl⟩)⟩
    | cons y r =>
      refine (feedread_cons t y r a b en B Y hY hlt hb ht w h).mono ?_
      rintro e w' ⟨rfl, hf, hg⟩
      exact ⟨_, _, _, _, rfl, hf, hg, Lib.hid (.inr ⟨hlt, rfl, rfl, rfl, rfl⟩)⟩
  · obtain rfl : a = b := by omega
    refine (feedread_end t ys a en B Y hY hb ht w h).mono ?_
    rintro e w' ⟨rfl, hk⟩
    exact ⟨_, _, _, _, rfl, h.kept hk, grown_of_kept hk, Lib.hid (.inl ⟨rfl, rfl, rfl, rfl, rfl⟩)⟩
theorem fstep_size {t : ByteArray} {ys : List Int} {a b : Nat} {en : Int} {tx : ByteArray} {ys' : List Int} {a' : Nat} {en' : Int} (h : FStep t ys a b en tx ys' a' en') (hab : a ≤ b) (hb : b ≤ t.size) : a ≤ a' ∧ a' ≤ b ∧ tx.size = a' - a := by
  rcases h with ⟨rfl, rfl, rfl, rfl, rfl⟩ | ⟨h1, rfl, rfl, rfl, rfl⟩
  · exact ⟨Nat.le_refl _, hab, by rw [Nat.sub_self]; rfl⟩
  · have := feedN_le ys (b - a)
    refine ⟨by omega, by omega, ?_⟩
    rw [ByteArray.size_extract]; omega
end Go.Proofs.YtdejablhpljdfaaGreat
namespace Go.Proofs.YtdejablhpljdfaaGreat
open Go.RowKit BG
attribute [local go_sem ↓] Go.wp_at_zero Go.wp_at_succ run_max_at run_min_at
set_option linter.unusedVariables false
set_option maxRecDepth 100000 in
set_option maxHeartbeats 1000000 in
theorem sliteix_c (s : ByteArray) (c : Int) (w : World) : Calls Tryz.prog 232 #[.string s, .int .u8 c] w fun e w' => e = .returned (.int .i64 (Lib.indexByte s.data.toList c.toNat.toUInt8)) ∧ w = w' := by
  go_enter Tryz.func232, Tryz.ntmps232
  go_wp2
  rw [run_callFunc_extern Tryz.func252 (by kernel_rfl) (by kernel_rfl) (by kernel_rfl) (e := Extern.BytealgIndexByte.indexByte) (by kernel_rfl), Lib.run_indexByteString]
  simp only [Result.andThen]
  rw [Oper.upon_value]
  go_wp2
  go_ret
  exact ⟨rfl, rfl⟩
set_option maxRecDepth 100000 in
set_option maxHeartbeats 1000000 in
theorem indexbyte_c (s : ByteArray) (c : Int) (w : World) : Calls Tryz.prog 210 #[.string s, .int .u8 c] w (Ret (.int .i64 (Lib.indexByte s.data.toList c.toNat.toUInt8)) w) := by
  have C := fun w1 => sliteix_c s c w1
  generalize Lib.indexByte s.data.toList c.toNat.toUInt8 = z at *
  go_enter Tryz.func210, Tryz.ntmps210
  go_wp2_with fail
  refine (C _).mono ?_
  rintro e w1 ⟨rfl, rfl⟩
  go_wp2_with fail
  go_ret
  exact ⟨rfl, kept_refl _⟩
def signv (b : Nat) : Bool := decide (32 ≤ b) && decide (b ≤ 126)
set_option maxRecDepth 100000 in
set_option maxHeartbeats 1000000 in
theorem sign_c (b : Nat) (hb : b < 256) (w : World) : Calls Tryz.prog 251 #[.int .u8 (b : Nat)] w (Ret (.bool (signv b)) w) := by
  unfold signv
  by_cases h1 : 32 ≤ b
  · have d1 : decide ((32 : Int) ≤ (b : Int)) = true := decide_eq_true (by omega)
    have d2 : decide (32 ≤ b) = true := decide_eq_true h1
    rw [d2, Bool.true_and]
    have d3 : decide ((b : Int) ≤ 126) = decide (b ≤ 126) := by rw [Bool.eq_iff_iff]; simp; omega
    generalize decide (b ≤ 126) = r at *
    go_enter Tryz.func251, Tryz.ntmps251
    go_wp2_with fail
    go_ret
    exact ⟨rfl, kept_refl _⟩
  · have d1 : decide ((32 : Int) ≤ (b : Int)) = false := decide_eq_false (by omega)
    have d2 : decide (32 ≤ b) = false := decide_eq_false h1
    rw [d2, Bool.false_and]
    go_enter Tryz.func251, Tryz.ntmps251
    go_wp2_with fail
    go_ret
    exact ⟨rfl, kept_refl _⟩
abbrev scO (s : ByteArray) (at_ no : Int) : Obj := .cells #[.string s, .int .i64 at_, .int .i64 no] 222
def ScS (B : Nat) (s : ByteArray) (at_ : Nat) (no : Int) (w : World) : Prop := w.heap[B]? = some (scO s at_ no)
abbrev ScK (B : Nat) (w w' : World) : Prop := w.grownBy w' (some B)
set_option maxRecDepth 100000 in
set_option maxHeartbeats 1000000 in
theorem tend_c (B : Nat) (s : ByteArray) (at_ : Nat) (no : Int) (w : World) (h : ScS B s at_ no w) : Calls Tryz.prog 163 #[.pointer (some ⟨B, 0, none⟩)] w (Ret (.bool (decide (s.size ≤ at_))) w) := by
  have q0 := blk_cell h 0
  have q1 := blk_cell h 1
  have hd : decide (s.size ≤ at_) = decide (s.size ≤ at_) := rfl
  generalize hr : decide (s.size ≤ at_) = r at hd ⊢
  clear hd
  go_enter Tryz.func163, Tryz.ntmps163
  go_wp2_with fail
  go_quiet (fail)
  go_wp2_with fail
  go_ret
  exact ⟨by first | rfl | (rw [← hr]) | simp [hr], kept_drewN (kept_refl _) _⟩
end Go.Proofs.YtdejablhpljdfaaGreat
namespace Go.Proofs.YtdejablhpljdfaaGreat
open Go.RowKit BG
attribute [local go_sem ↓] Go.wp_at_zero Go.wp_at_succ run_max_at run_min_at
set_option linter.unusedVariables false
def hasB (s : ByteArray) (at_ b : Nat) : Bool := decide (at_ < s.size) && decide (byteAt s at_ = b)
theorem ScS.kept {B : Nat} {s : ByteArray} {at_ : Nat} {no : Int} {w w1 : World} (h : ScS B s at_ no w) (hk : Kept w w1) : ScS B s at_ no w1 := blk_kept hk h
set_option maxRecDepth 100000 in
set_option maxHeartbeats 2000000 in
theorem thas_c (B : Nat) (s : ByteArray) (at_ b : Nat) (no : Int) (hb : b < 256) (hs : s.size ≤ 1000000) (w : World) (h : ScS B s at_ no w) : Calls Tryz.prog 164 #[.pointer (some ⟨B, 0, none⟩), .int .u8 (b : Nat)] w fun e w' => e = .returned (.bool (hasB s at_ b)) ∧ ScS B s (if hasB s at_ b = true then at_ + 1 else at_) no w' ∧ ScK B w w' := by
  have EN := fun w1 h => tend_c B s at_ no w1 h
  have RR : ∀ t : KW w, ScS B s at_ no t.val := fun t => h.kept t.kept
  have q0 := blk_cell h 0
  have q1 := blk_cell h 1
  have HH := Lib.hid h
  clear h
  by_cases hlt : at_ < s.size
  · have d0 : decide (s.size ≤ at_) = false := decide_eq_false (by omega)
    simp only [d0] at EN
    have hbt := byteAt_eq hlt
    have hi1 : (0 : Int) ≤ (at_ : Int) := by omega
    have hi2 : (at_ : Int) < (s.size : Int) := by omega
    by_cases he : byteAt s at_ = b
    · have hh : hasB s at_ b = true := by unfold hasB; rw [decide_eq_true hlt, decide_eq_true he]; rfl
      rw [hh, if_pos rfl]
      have e1 : (((byteAt s at_ : Nat) : Int) != (b : Int)) = false := by rw [he]; simp
      have e2 : ((byteAt s at_) != b) = false := by rw [he]; simp
      have HE := Lib.hid he
      clear he hh
      generalize byteAt s at_ = y at *
      go_enter Tryz.func164, Tryz.ntmps164
      go_wp2_with fail
      have ks_q0 := fun s => kw_cell s q0
      have ks_q1 := fun s => kw_cell s q1
      refine wp_region_kept (by kernel_rfl) (by kernel_rfl) ?_
      repeat (first | go_big_quiet_skip | (go_big_quiet_want; go_big_quiet_op; first | go_big_quiet_on | (apply Exists.intro; refine ⟨fun s => ?_, ?_⟩; (first | (go_at_call 163; exact call_kept (EN _ (RR _)))); go_big_quiet_on)))
      refine wpQuiet_nil ?_
      rintro w9 ⟨⟨_, hk9⟩, rfl⟩
      clear ks_q0
      clear ks_q1
      have b9 := blk_kept hk9 HH.out
      have g1 := blk_cell b9 1
      have f1 := blk_frozen b9 1
      have b10 := blk_set b9 1 (.int .i64 ((at_ : Int) + 1))
      have G := grown_trans (grown_of_kept hk9) (setCell_grown w9 ⟨B, 1, none⟩ (.int .i64 ((at_ : Int) + 1)))
      have HB := Lib.hid (⟨b10, G⟩ : _ ∧ _)
      clear b9 b10 G q0 q1 EN RR e1 e2 HE
      go_wp2_with fail
      go_ret
      exact ⟨rfl, HB.out.1, HB.out.2⟩
    · have hh : hasB s at_ b = false := by unfold hasB; rw [decide_eq_false he, Bool.and_false]
      rw [hh, if_neg (by decide)]
      have e1 : (((byteAt s at_ : Nat) : Int) != (b : Int)) = true := by rw [bne_iff_ne]; omega
      have e2 : ((byteAt s at_) != b) = true := by rw [bne_iff_ne]; exact he
      clear he hh
      generalize byteAt s at_ = y at *
      go_enter Tryz.func164, Tryz.ntmps164
      go_wp2_with fail
      have ks_q0 := fun s => kw_cell s q0
      have ks_q1 := fun s => kw_cell s q1
      refine wp_region_kept (by kernel_rfl) (by kernel_rfl) ?_
      repeat (first | go_big_quiet_skip | (go_big_quiet_want; go_big_quiet_op; first | go_big_quiet_on | (apply Exists.intro; refine ⟨fun s => ?_, ?_⟩; (first | (go_at_call 163; exact call_kept (EN _ (RR _)))); go_big_quiet_on)))
      refine wpQuiet_nil ?_
      rintro w9 ⟨⟨_, hk9⟩, rfl⟩
      clear ks_q0
      clear ks_q1
      clear q0 q1 EN RR e1 e2
      go_wp2_with fail
      go_ret
      exact ⟨rfl, HH.out.kept hk9, grown_of_kept hk9⟩
  · have d0 : decide (s.size ≤ at_) = true := decide_eq_true (by omega)
    simp only [d0] at EN
    have hh : hasB s at_ b = false := by unfold hasB; rw [decide_eq_false hlt, Bool.false_and]
    rw [hh, if_neg (by decide)]
    clear hh
    go_enter Tryz.func164, Tryz.ntmps164
    go_wp2_with fail
    have ks_q0 := fun s => kw_cell s q0
    have ks_q1 := fun s => kw_cell s q1
    refine wp_region_kept (by kernel_rfl) (by kernel_rfl) ?_
    repeat (first | go_big_quiet_skip | (go_big_quiet_want; go_big_quiet_op; first | go_big_quiet_on | (apply Exists.intro; refine ⟨fun s => ?_, ?_⟩; (first | (go_at_call 163; exact call_kept (EN _ (RR _)))); go_big_quiet_on)))
    refine wpQuiet_nil ?_
    rintro w9 ⟨⟨_, hk9⟩, rfl⟩
    clear ks_q0
    clear ks_q1
    clear q0 q1 EN RR
    go_wp2_with fail
    go_ret
    exact ⟨rfl, HH.out.kept hk9, grown_of_kept hk9⟩
set_option maxRecDepth 100000 in
set_option maxHeartbeats 2000000 in
theorem tone_plain (B : Nat) (s : ByteArray) (at_ : Nat) (no er : Int) (apart : ByteArray) (hs : s.size ≤ 1000000) (hlt : at_ < s.size) (h92 : byteAt s at_ ≠ 92) (hsg : signv (byteAt s at_) = true) (hap : Lib.indexByte apart.data.toList ((byteAt s at_ : Nat) : Int).toNat.toUInt8 = -1) (w : World) (h : ScS B s at_ no w) :
    Calls Tryz.prog 231 #[.pointer (some ⟨B, 0, none⟩), .string apart, .int .i64 er] w fun e w' => e = .returned (.int .u8 (byteAt s at_ : Nat)) ∧ ScS B s (at_ + 1) no w' ∧ ScK B w w' := by
  have SG := fun w1 => sign_c (byteAt s at_) (byteAt_lt s at_) w1
  have IX := fun w1 => indexbyte_c apart ((byteAt s at_ : Nat) : Int) w1
  rw [hsg] at SG
  rw [hap] at IX
  have q0 := blk_cell h 0
  have q1 := blk_cell h 1
  have hbt := byteAt_eq hlt
  have hi1 : (0 : Int) ≤ (at_ : Int) := by omega
  have hi2 : (at_ : Int) < (s.size : Int) := by omega
  have e1 : (((byteAt s at_ : Nat) : Int) == 92) = false := by rw [beq_eq_false_iff_ne]; omega
  have e2 : ((byteAt s at_) == 92) = false := by rw [beq_eq_false_iff_ne]; exact h92
  have HH := Lib.hid h
  clear h h92 hsg hap
  generalize byteAt s at_ = y at *
  go_enter Tryz.func231, Tryz.ntmps231
  go_wp2_with fail
  go_quiet (fail)
  have kd := kept_drewN (kept_refl w) nq
  generalize w.drewN nq = w1 at *
  clear q0 q1 hbt
  go_wp2_with fail
  refine (SG _).mono ?_
  rintro e w2 ⟨rfl, hk2⟩
  replace kd := kept_trans kd hk2
  clear SG hk2
  go_wp2_with fail
  refine (IX _).mono ?_
  rintro e w3 ⟨rfl, hk3⟩
  replace kd := kept_trans kd hk3
  clear IX hk3
  have b9 := blk_kept kd HH.out
  have g1 := blk_cell b9 1
  have f1 := blk_frozen b9 1
  have b10 := blk_set b9 1 (.int .i64 ((at_ : Int) + 1))
  have G := grown_trans (grown_of_kept kd) (setCell_grown w3 ⟨B, 1, none⟩ (.int .i64 ((at_ : Int) + 1)))
  have HB := Lib.hid (⟨b10, G⟩ : _ ∧ _)
  clear b9 b10 G e1 e2
  go_wp2_with fail
  go_ret
  exact ⟨rfl, HB.out.1, HB.out.2⟩
end Go.Proofs.YtdejablhpljdfaaGreat
