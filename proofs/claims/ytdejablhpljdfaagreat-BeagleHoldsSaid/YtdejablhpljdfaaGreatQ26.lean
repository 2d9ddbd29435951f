/-
  Texts of one claim, joined: TQuery1, TQuery2, TQuery3, TQuery4.
-/
import Derived.Test.YtdejablhpljdfaaGreatQ05
import Derived.Test.YtdejablhpljdfaaGreatQ08
namespace Go.Proofs.YtdejablhpljdfaaGreat
open Go.RowKit BG
attribute [local go_sem ↓] Go.wp_at_zero Go.wp_at_succ run_max_at run_min_at
set_option linter.unusedVariables false
structure Nd where
  k : Int
  n : Int
  A : Option Addr
  m : Nat
  cap : Nat
  K : Int
  xs : List Int
abbrev Nd.v (x : Nd) : Value := .agg #[.int .i64 x.k, .int .i64 x.n, .slice x.A x.m x.cap, .int .i64 x.K]
abbrev Nd.box (x : Nd) : Obj := .cells #[.int .i64 x.k, .int .i64 x.n, .slice x.A x.m x.cap, .int .i64 x.K] 95
def Nd.ok (w : World) (x : Nd) : Prop := x.xs.length = 4 * x.m ∧ U64 x.xs ∧ Rd .u64 w x.A x.xs
theorem Nd.ok.kept {w w1 : World} {x : Nd} (h : x.ok w) (hk : Kept w w1) : x.ok w1 := ⟨h.1, h.2.1, h.2.2.kept hk⟩
def NdAt (w : World) (ad : Addr) (x : Nd) : Prop := w.cell? ad = some (.int .i64 x.k) ∧ w.cell? ⟨ad.block, ad.off + 1, none⟩ = some (.int .i64 x.n) ∧ w.cell? ⟨ad.block, ad.off + 2, none⟩ = some (.slice x.A x.m x.cap) ∧ w.cell? ⟨ad.block, ad.off + 3, none⟩ = some (.int .i64 x.K)
theorem NdAt.kept {w w1 : World} {ad : Addr} {x : Nd} (h : NdAt w ad x) (hk : Kept w w1) : NdAt w1 ad x := ⟨kept_cell hk h.1, kept_cell hk h.2.1, kept_cell hk h.2.2.1, kept_cell hk h.2.2.2⟩
def RdN (w : World) (A : Option Addr) (l : List Nd) : Prop :=
  l.length ≤ 9223372036854775807 ∧ (0 < l.length → ∃ ad, A = some ad ∧ ∀ j x, l[j]? = some x → NdAt w (ad.add (j * 4)) x) ∧ ∀ x ∈ l, x.ok w
theorem RdN.kept {w w1 : World} {A : Option Addr} {l : List Nd} (h : RdN w A l) (hk : Kept w w1) : RdN w1 A l :=
  ⟨h.1, fun h0 => by
    obtain ⟨ad, e, hc⟩ := h.2.1 h0
    exact ⟨ad, e, fun j x hx => (hc j x hx).kept hk⟩, fun x hx => (h.2.2 x hx).kept hk⟩
theorem RdN.at_ {w : World} {A : Option Addr} {l : List Nd} (h : RdN w A l) {j : Nat} (hj : j < l.length) : ∃ ad x, A = some ad ∧ l[j]? = some x ∧ x.ok w ∧ NdAt w (ad.add (j * 4)) x := by
  obtain ⟨ad, e, hc⟩ := h.2.1 (by omega)
  refine ⟨ad, l[j], e, List.getElem?_eq_getElem hj, h.2.2 _ (List.getElem_mem hj), hc j _ (List.getElem?_eq_getElem hj)⟩
theorem nd_cells {w : World} {g : Nat} {x : Nd} (h : w.heap[g]? = some x.box) : w.cell? ⟨g, 0, none⟩ = some (.int .i64 x.k) ∧ w.cell? ⟨g, 1, none⟩ = some (.int .i64 x.n) ∧ w.cell? ⟨g, 2, none⟩ = some (.slice x.A x.m x.cap) ∧ w.cell? ⟨g, 3, none⟩ = some (.int .i64 x.K) := ⟨blk_cell h 0, blk_cell h 1, blk_cell h 2, blk_cell h 3⟩
def arv (k : Int) : Int := if k = 1 then 0 else if k = 4 ∨ k = 5 then 1 else if k = 2 ∨ k = 3 then 2 else -1
set_option maxHeartbeats 2000000 in
theorem arity_c (x : Nd) (w : World) : Calls Tryz.prog 216 #[x.v] w (Ret (.int .i64 (arv x.k)) w) := by
  have hb := nd_cells (blk_new w x.box)
  have ka := kept_alloc (kept_refl w) x.box
  obtain ⟨k, n, A, m, cap, K, xs⟩ := x
  dsimp only [Nd.v, Nd.box] at hb ka ⊢
  obtain ⟨c0, c1, c2, c3⟩ := hb
  have h : k = 1 ∨ k = 4 ∨ k = 5 ∨ k = 2 ∨ k = 3 ∨ (k ≠ 1 ∧ k ≠ 4 ∧ k ≠ 5 ∧ k ≠ 2 ∧ k ≠ 3) := by omega
  rcases h with rfl | rfl | rfl | rfl | rfl | ⟨h1, h2, h3, h4, h5⟩
  · rw [show arv 1 = 0 by decide]
    go_enter Tryz.func216, Tryz.ntmps216
    go_wp2_with fail
    go_ret
    exact ⟨rfl, ka⟩
  · rw [show arv 4 = 1 by decide]
    go_enter Tryz.func216, Tryz.ntmps216
    go_wp2_with fail
    go_ret
    exact ⟨rfl, ka⟩
  · rw [show arv 5 = 1 by decide]
    go_enter Tryz.func216, Tryz.ntmps216
    go_wp2_with fail
    go_ret
    exact ⟨rfl, ka⟩
  · rw [show arv 2 = 2 by decide]
    go_enter Tryz.func216, Tryz.ntmps216
    go_wp2_with fail
    go_ret
    exact ⟨rfl, ka⟩
  · rw [show arv 3 = 2 by decide]
    go_enter Tryz.func216, Tryz.ntmps216
    go_wp2_with fail
    go_ret
    exact ⟨rfl, ka⟩
  · have e : arv k = -1 := by unfold arv; rw [if_neg h1, if_neg (by omega), if_neg (by omega)]
    rw [e]
    have b1 : (k == 1) = false := beq_eq_false_iff_ne.2 h1
    have b2 : (k == 4) = false := beq_eq_false_iff_ne.2 h2
    have b3 : (k == 5) = false := beq_eq_false_iff_ne.2 h3
    have b4 : (k == 2) = false := beq_eq_false_iff_ne.2 h4
    have b5 : (k == 3) = false := beq_eq_false_iff_ne.2 h5
    clear e
    go_enter Tryz.func216, Tryz.ntmps216
    go_wp2_with fail
    go_ret
    exact ⟨rfl, ka⟩
def sizeF : List Int → Int → Nat → Nat
  | [], _, _ => 0
  | x :: r, o, k => if arv x < 0 then 0 else if o + (arv x - 1) = 0 then k + 1 else sizeF r (o + (arv x - 1)) (k + 1)
def sizeT (l : List Nd) : Nat := sizeF (l.map Nd.k) 1 0
theorem arv_bd (k : Int) : -1 ≤ arv k ∧ arv k ≤ 2 := by unfold arv; (repeat' split) <;> omega
theorem drop_at {l : List Nd} {j : Nat} {x : Nd} (h : l[j]? = some x) : (l.map Nd.k).drop j = x.k :: (l.map Nd.k).drop (j + 1) := by
  have hj : j < l.length := by
    rcases Nat.lt_or_ge j l.length with h' | h'
    · exact h'
    · rw [List.getElem?_eq_none h'] at h; cases h
  rw [List.drop_eq_getElem_cons (by simpa using hj)]
  have : l[j] = x := by rw [List.getElem?_eq_getElem hj] at h; exact Option.some.inj h
  simp [this]
set_option maxRecDepth 100000 in
set_option maxHeartbeats 4000000 in
theorem qsize_c (A : Option Addr) (cap : Nat) (l : List Nd) (hl : l.length ≤ 1000000) (w : World) (hr : RdN w A l) : Calls Tryz.prog 168 #[.slice A l.length cap] w (Ret (.int .i64 (sizeT l : Nat)) w) := by
  have AR := fun x w1 => arity_c x w1
  have hs0 : sizeT l = sizeF ((l.map Nd.k).drop 0) 1 0 := rfl
  have HS := Lib.hid hs0
  clear hs0
  generalize sizeT l = sz at *
  generalize hm : l.length = m at *
  have HM := Lib.hid hm
  clear hm
  go_enter Tryz.func168, Tryz.ntmps168
  go_wp2_with fail
  go_step3
  go_wp2_with fail
  go_step3
  go_wp2_with fail
  go_loopw [3, 9] (fun o i wr => ∃ (j : Nat) (op : Int), j ≤ m ∧ 1 ≤ op ∧ op ≤ (j : Int) + 1 ∧ o = .int .i64 op ∧ i = .int .i64 j ∧ Kept w wr ∧ Hid (sz = sizeF ((l.map Nd.k).drop j) op j)) (fun _ i _ => m - (intOf i).toNat)
  case atStart => exact ⟨0, 1, Nat.zero_le _, by omega, by omega, rfl, rfl, kept_refl w, HS⟩
  case round =>
    obtain ⟨j, op, hj, ho1, ho2, rfl, rfl, hkw, HZ⟩ := hrel
    by_cases hlt : j < m
    · obtain ⟨ad, x, rfl, hx, -, e0, e1, e2, e3⟩ := (hr.kept hkw).at_ (j := j) (by rw [HM.out]; exact hlt)
      have hz := HZ.out
      rw [drop_at hx] at hz
      have HZ2 := Lib.hid hz
      have AR := AR x
      have hab := arv_bd x.k
      clear hz HZ hx HS
      dsimp only [Nd.v] at AR
      obtain ⟨k, n, A, mm, cp, K, xs⟩ := x
      dsimp only at AR e0 e1 e2 e3 hab HZ2
      have HZ3 : Hid (sz = if arv k < 0 then 0 else if op + (arv k - 1) = 0 then j + 1 else sizeF ((l.map Nd.k).drop (j + 1)) (op + (arv k - 1)) (j + 1)) := Lib.hid HZ2.out
      clear HZ2
      generalize arv k = ar at *
      have kb := kept_alloc (kept_refl wr) (.cells #[.int .i64 k, .int .i64 n, .slice A mm cp, .int .i64 K] 95)
      have hb := blk_new wr (.cells #[.int .i64 k, .int .i64 n, .slice A mm cp, .int .i64 K] 95)
      have d0 := blk_cell hb 0
      have d1 := blk_cell hb 1
      have d2 := blk_cell hb 2
      have d3 := blk_cell hb 3
      clear hb
      go_wp2_with fail
      refine (AR _).mono ?_
      rintro e w1 ⟨rfl, hk1⟩
      replace hkw := kept_trans hkw (kept_trans kb hk1)
      clear d0 d1 d2 d3 e0 e1 e2 e3 AR kb hk1
      by_cases hn : ar < 0
      · have hz := HZ3.out
        rw [if_pos hn] at hz
        subst hz
        have hn' : decide (ar < 0) = true := decide_eq_true hn
        clear HZ3
        go_wp2_with fail
        go_ret
        exact ⟨rfl, hkw⟩
      · have hn' : decide (ar < 0) = false := decide_eq_false hn
        by_cases h0 : op + (ar - 1) = 0
        · have hz := HZ3.out
          rw [if_neg hn, if_pos h0] at hz
          subst hz
          have h0' : (op + (ar - 1) == 0) = true := beq_iff_eq.2 h0
          clear HZ3
          go_wp2_with fail
          go_ret
          exact ⟨rfl, hkw⟩
        · have hz := HZ3.out
          rw [if_neg hn, if_neg h0] at hz
          have h0' : (op + (ar - 1) == 0) = false := beq_eq_false_iff_ne.2 h0
          have HZ4 := Lib.hid hz
          clear HZ3 hz
          go_wp2_with fail
          go_roundw
          case rel => exact ⟨j + 1, op + (ar - 1), by omega, by omega, by omega, rfl, by go_num, hkw, HZ4⟩
          case measure => simp [intOf]; omega
    · obtain rfl : j = m := by omega
      have hz := HZ.out
      rw [List.drop_of_length_le (by rw [List.length_map, HM.out]; omega)] at hz
      have hz : sz = 0 := hz
      subst hz
      clear HZ HS
      go_wp2_with fail
      go_ret
      exact ⟨rfl, hkw⟩
end Go.Proofs.YtdejablhpljdfaaGreat
namespace Go.Proofs.YtdejablhpljdfaaGreat
open Go.RowKit BG
attribute [local go_sem ↓] Go.wp_at_zero Go.wp_at_succ run_max_at run_min_at
set_option linter.unusedVariables false
inductive Tr where
  | find (x : Nd)
  | one (x : Nd) (a : Tr)
  | two (x : Nd) (a b : Tr)
def Tr.flat : Tr → List Nd
  | .find x => [x]
  | .one x a => x :: a.flat
  | .two x a b => x :: (a.flat ++ b.flat)
def Tr.good : Tr → Prop
  | .find x => x.k = 1
  | .one x a => (x.k = 4 ∨ x.k = 5) ∧ a.good
  | .two x a b => (x.k = 2 ∨ x.k = 3) ∧ a.good ∧ b.good
def Tr.deep : Tr → Nat
  | .find _ => 1
  | .one _ a => a.deep + 1
  | .two _ a b => max a.deep b.deep + 1
def Tr.root : Tr → Nd
  | .find x => x
  | .one x _ => x
  | .two x _ _ => x
def Tr.kids : Tr → List Tr
  | .find _ => []
  | .one _ a => [a]
  | .two _ a b => [a, b]
def flats (l : List Tr) : List Nd := l.flatMap Tr.flat
def deeps (l : List Tr) : Nat := l.foldl (fun m t => max m t.deep) 0
theorem Tr.flat_kids (t : Tr) : t.flat = t.root :: flats t.kids := by cases t <;> simp [Tr.flat, Tr.root, Tr.kids, flats]
theorem Tr.deep_kids (t : Tr) : t.deep = deeps t.kids + 1 := by cases t <;> simp [Tr.deep, Tr.kids, deeps]
theorem Tr.ar_kids {t : Tr} (h : t.good) : arv t.root.k = t.kids.length := by
  cases t with
  | find x => have h : x.k = 1 := h; simp [Tr.root, Tr.kids, arv, h]
  | one x a => have h := h.1; rcases h with h | h <;> simp [Tr.root, Tr.kids, arv, h]
  | two x a b => have h := h.1; rcases h with h | h <;> simp [Tr.root, Tr.kids, arv, h]
theorem Tr.kids_good {t : Tr} (h : t.good) : ∀ c ∈ t.kids, c.good := by
  cases t with
  | find x => simp [Tr.kids]
  | one x a => intro c hc; simp [Tr.kids] at hc; subst hc; exact h.2
  | two x a b => intro c hc; simp [Tr.kids] at hc; rcases hc with rfl | rfl; exact h.2.1; exact h.2.2
theorem Tr.flat_pos (t : Tr) : 0 < t.flat.length := by rw [t.flat_kids]; simp
theorem Tr.deep_le : ∀ (t : Tr), t.deep ≤ t.flat.length
  | .find _ => by simp [Tr.deep, Tr.flat]
  | .one _ a => by have := a.deep_le; simp [Tr.deep, Tr.flat]; omega
  | .two _ a b => by have := a.deep_le; have := b.deep_le; have := a.flat_pos; have := b.flat_pos; simp [Tr.deep, Tr.flat]; omega
theorem sizeF_flat : ∀ (t : Tr), t.good → ∀ (r : List Nd) (o : Int) (k : Nat), 1 ≤ o → sizeF ((t.flat ++ r).map Nd.k) o k = if o = 1 then k + t.flat.length else sizeF (r.map Nd.k) (o - 1) (k + t.flat.length)
  | .find x, h, r, o, k, ho => by
    have h : x.k = 1 := h
    have e : arv 1 = 0 := by decide
    simp only [Tr.flat, List.cons_append, List.nil_append, List.map_cons, sizeF, h, e, List.length_singleton]
    rw [if_neg (by omega)]
    by_cases h1 : o = 1
    · rw [if_pos (by omega), if_pos h1]
    · rw [if_neg (by omega), if_neg h1, show o + (0 - 1) = o - 1 by omega]
  | .one x a, h, r, o, k, ho => by
    have e : arv x.k = 1 := by rcases h.1 with h | h <;> rw [h] <;> decide
    simp only [Tr.flat, List.cons_append, List.map_cons, sizeF, e, List.length_cons]
    rw [if_neg (by omega), if_neg (by omega), show o + (1 - 1) = o by omega, sizeF_flat a h.2 r o (k + 1) ho, show k + 1 + a.flat.length = k + (a.flat.length + 1) by omega]
  | .two x a b, h, r, o, k, ho => by
    have e : arv x.k = 2 := by rcases h.1 with h | h <;> rw [h] <;> decide
    simp only [Tr.flat, List.cons_append, List.map_cons, sizeF, e, List.length_cons, List.append_assoc, List.length_append]
    rw [if_neg (by omega), if_neg (by omega), show o + (2 - 1) = o + 1 by omega, sizeF_flat a h.2.1 (b.flat ++ r) (o + 1) (k + 1) (by omega), if_neg (by omega), show o + 1 - 1 = o by omega, sizeF_flat b h.2.2 r o _ ho, show k + 1 + a.flat.length + b.flat.length = k + (a.flat.length + b.flat.length + 1) by omega]
theorem sizeT_flat {t : Tr} (h : t.good) (r : List Nd) : sizeT (t.flat ++ r) = t.flat.length := by
  unfold sizeT; rw [sizeF_flat t h r 1 0 (by omega), if_pos rfl, Nat.zero_add]
theorem arv_cases (k : Int) : (k = 1 ∧ arv k = 0) ∨ ((k = 4 ∨ k = 5) ∧ arv k = 1) ∨ ((k = 2 ∨ k = 3) ∧ arv k = 2) ∨ arv k = -1 := by
  unfold arv; (repeat' split) <;> simp_all
theorem sizeF_forest : ∀ (l : List Nd) (o : Int) (k : Nat), 1 ≤ o → 0 < k + l.length → sizeF (l.map Nd.k) o k = k + l.length → ∃ ts : List Tr, (ts.length : Int) = o ∧ (∀ t ∈ ts, t.good) ∧ l = flats ts
  | [], o, k, ho, hp, h => by simp [sizeF] at h; simp at hp; omega
  | x :: r, o, k, ho, hp, h => by
    simp only [List.map_cons, sizeF, List.length_cons] at h
    rcases arv_cases x.k with ⟨h1, e⟩ | ⟨h1, e⟩ | ⟨h1, e⟩ | e <;> rw [e] at h
    · rw [if_neg (by omega)] at h
      by_cases ho1 : o = 1
      · rw [if_pos (by omega)] at h
        obtain rfl : r = [] := List.length_eq_zero_iff.1 (by omega)
        exact ⟨[.find x], by simp [ho1], by intro t ht; simp at ht; subst ht; exact h1, by simp [flats, Tr.flat]⟩
      · rw [if_neg (by omega)] at h
        obtain ⟨ts, hl, hg, rfl⟩ := sizeF_forest r (o + (0 - 1)) (k + 1) (by omega) (by omega) (by omega)
        exact ⟨.find x :: ts, by simp; omega, by intro t ht; simp at ht; rcases ht with rfl | ht; exact h1; exact hg t ht, by simp [flats, Tr.flat]⟩
    · rw [if_neg (by omega), if_neg (by omega)] at h
      obtain ⟨ts, hl, hg, rfl⟩ := sizeF_forest r (o + (1 - 1)) (k + 1) (by omega) (by omega) (by omega)
      match ts, hl, hg with
      | [], hl, hg => simp at hl; omega
      | a :: ts, hl, hg => exact ⟨.one x a :: ts, by simp at hl ⊢; omega, by intro t ht; simp at ht; rcases ht with rfl | ht; exact ⟨h1, hg a (by simp)⟩; exact hg t (by simp [ht]), by simp [flats, Tr.flat]⟩
    · rw [if_neg (by omega), if_neg (by omega)] at h
      obtain ⟨ts, hl, hg, rfl⟩ := sizeF_forest r (o + (2 - 1)) (k + 1) (by omega) (by omega) (by omega)
      match ts, hl, hg with
      | [], hl, hg => simp at hl; omega
      | [a], hl, hg => simp at hl; omega
      | a :: b :: ts, hl, hg => exact ⟨.two x a b :: ts, by simp at hl ⊢; omega, by intro t ht; simp at ht; rcases ht with rfl | ht; exact ⟨h1, hg a (by simp), hg b (by simp)⟩; exact hg t (by simp [ht]), by simp [flats, Tr.flat]⟩
    · rw [if_pos (by omega)] at h; omega
theorem sizeT_tree {l : List Nd} (h0 : 0 < l.length) (h : sizeT l = l.length) : ∃ t : Tr, t.good ∧ l = t.flat := by
  obtain ⟨ts, hl, hg, rfl⟩ := sizeF_forest l 1 0 (by omega) (by omega) (by unfold sizeT at h; omega)
  match ts, hl, hg with
  | [], hl, hg => simp at hl
  | [t], hl, hg => exact ⟨t, hg t (by simp), by simp [flats]⟩
  | a :: b :: ts, hl, hg => simp at hl; omega
def trF : Nat → List Nd → Option (Tr × List Nd)
  | 0, _ => none
  | _ + 1, [] => none
  | f + 1, x :: r =>
    if x.k = 1 then some (.find x, r)
    else if x.k = 4 ∨ x.k = 5 then (match trF f r with | some (a, r1) => some (.one x a, r1) | none => none)
    else if x.k = 2 ∨ x.k = 3 then (match trF f r with | some (a, r1) => (match trF f r1 with | some (b, r2) => some (.two x a b, r2) | none => none) | none => none)
    else none
theorem trF_sound : ∀ (f : Nat) (l : List Nd) (t : Tr) (r : List Nd), trF f l = some (t, r) → t.good ∧ l = t.flat ++ r
  | 0, _, _, _, h => by cases h
  | _ + 1, [], _, _, h => by cases h
  | f + 1, x :: r0, t, r, h => by
    unfold trF at h
    by_cases h1 : x.k = 1
    · rw [if_pos h1] at h; cases h; exact ⟨h1, rfl⟩
    · rw [if_neg h1] at h
      by_cases h2 : x.k = 4 ∨ x.k = 5
      · rw [if_pos h2] at h
        cases ha : trF f r0 with
        | none => rw [ha] at h; cases h
        | some p =>
          obtain ⟨a, r1⟩ := p
          rw [ha] at h; cases h
          obtain ⟨g, e⟩ := trF_sound f r0 a r ha
          exact ⟨⟨h2, g⟩, by rw [e]; rfl⟩
      · rw [if_neg h2] at h
        by_cases h3 : x.k = 2 ∨ x.k = 3
        · rw [if_pos h3] at h
          cases ha : trF f r0 with
          | none => rw [ha] at h; cases h
          | some p =>
            obtain ⟨a, r1⟩ := p
            rw [ha] at h
            dsimp only at h
            cases hb : trF f r1 with
            | none => rw [hb] at h; cases h
            | some q =>
              obtain ⟨b, r2⟩ := q
              rw [hb] at h; cases h
              obtain ⟨g, e⟩ := trF_sound f r0 a r1 ha
              obtain ⟨g2, e2⟩ := trF_sound f r1 b r hb
              exact ⟨⟨h3, g, g2⟩, by rw [e, e2]; simp [Tr.flat]⟩
        · rw [if_neg h3] at h; cases h
theorem trF_flat : ∀ (t : Tr), t.good → ∀ (f : Nat) (r : List Nd), t.flat.length ≤ f → trF f (t.flat ++ r) = some (t, r)
  | .find x, h, f, r, hf => by
    have h : x.k = 1 := h
    obtain ⟨g, rfl⟩ : ∃ g, f = g + 1 := ⟨f - 1, by simp [Tr.flat] at hf; omega⟩
    simp [Tr.flat, trF, h]
  | .one x a, h, f, r, hf => by
    obtain ⟨g, rfl⟩ : ∃ g, f = g + 1 := ⟨f - 1, by simp [Tr.flat] at hf; omega⟩
    have ha := trF_flat a h.2 g r (by simp [Tr.flat] at hf; omega)
    have h1 : x.k ≠ 1 := by rcases h.1 with h | h <;> omega
    simp only [Tr.flat, List.cons_append, trF]
    rw [if_neg h1, if_pos h.1, ha]
  | .two x a b, h, f, r, hf => by
    obtain ⟨g, rfl⟩ : ∃ g, f = g + 1 := ⟨f - 1, by simp [Tr.flat] at hf; omega⟩
    have ha := trF_flat a h.2.1 g (b.flat ++ r) (by simp [Tr.flat] at hf; omega)
    have hb := trF_flat b h.2.2 g r (by simp [Tr.flat] at hf; omega)
    have h1 : x.k ≠ 1 := by rcases h.1 with h | h <;> omega
    have h2 : ¬ (x.k = 4 ∨ x.k = 5) := by rcases h.1 with h | h <;> omega
    simp only [Tr.flat, List.cons_append, trF, List.append_assoc]
    rw [if_neg h1, if_neg h2, if_pos h.1, ha]
    dsimp only
    rw [hb]
def treeOf (l : List Nd) : Option Tr := match trF l.length l with
  | some (t, []) => some t
  | _ => none
theorem treeOf_flat {t : Tr} (h : t.good) : treeOf t.flat = some t := by
  have := trF_flat t h t.flat.length [] (Nat.le_refl _)
  rw [List.append_nil] at this
  unfold treeOf; rw [this]
theorem treeOf_sound {l : List Nd} {t : Tr} (h : treeOf l = some t) : t.good ∧ l = t.flat := by
  unfold treeOf at h
  split at h
  · rename_i t' e
    cases h
    have := trF_sound _ _ _ _ e
    rwa [List.append_nil] at this
  · cases h
theorem treeOf_none {l : List Nd} (h : l.length = 0 ∨ sizeT l ≠ l.length) : treeOf l = none := by
  cases ht : treeOf l with
  | none => rfl
  | some t =>
    obtain ⟨g, rfl⟩ := treeOf_sound ht
    have e := sizeT_flat g []
    rw [List.append_nil] at e
    have := t.flat_pos
    rcases h with h | h <;> omega
def depthv (l : List Nd) : Nat := match treeOf l with
  | some t => t.deep
  | none => 0
theorem ad_add (ad : Addr) (a b : Nat) : (ad.add a).add b = ad.add (a + b) := by
  unfold Addr.add
  by_cases ha : a = 0
  · subst ha; simp
  · by_cases hb : b = 0
    · subst hb; simp
    · rw [if_neg ha, if_neg hb, if_neg (by omega)]; simp; omega
theorem RdN.sub {w : World} {ad : Addr} {l : List Nd} (h : RdN w (some ad) l) (at_ n : Nat) : RdN w (some (ad.add (at_ * 4))) ((l.drop at_).take n) := by
  refine ⟨by have := h.1; simp; omega, fun h0 => ⟨_, rfl, fun j x hx => ?_⟩, fun x hx => h.2.2 x (List.mem_of_mem_drop (List.mem_of_mem_take hx))⟩
  have h0' : 0 < l.length := by simp at h0; omega
  obtain ⟨ad', e, hc⟩ := h.2.1 h0'
  cases e
  have hx' : l[at_ + j]? = some x := by
    rw [List.getElem?_take] at hx
    split at hx
    · rwa [List.getElem?_drop] at hx
    · cases hx
  have := hc _ _ hx'
  rwa [ad_add, show at_ * 4 + j * 4 = (at_ + j) * 4 by omega]
theorem flats_take {l : List Tr} {j : Nat} {c : Tr} (h : l[j]? = some c) : flats l = flats (l.take j) ++ (c.flat ++ flats (l.drop (j + 1))) := by
  have hj : j < l.length := by
    rcases Nat.lt_or_ge j l.length with h' | h'
    · exact h'
    · rw [List.getElem?_eq_none h'] at h; cases h
  have hc : l[j] = c := by rw [List.getElem?_eq_getElem hj] at h; exact Option.some.inj h
  conv => lhs; rw [← List.take_append_drop j l, List.drop_eq_getElem_cons hj, hc]
  simp [flats]
theorem flats_succ {l : List Tr} {j : Nat} {c : Tr} (h : l[j]? = some c) : flats (l.take (j + 1)) = flats (l.take j) ++ c.flat := by
  rw [List.take_add_one, h]; simp [flats]
theorem deeps_succ {l : List Tr} {j : Nat} {c : Tr} (h : l[j]? = some c) : deeps (l.take (j + 1)) = max (deeps (l.take j)) c.deep := by
  rw [List.take_add_one, h]; simp [deeps]
end Go.Proofs.YtdejablhpljdfaaGreat
namespace Go.Proofs.YtdejablhpljdfaaGreat
open Go.RowKit BG
attribute [local go_sem ↓] Go.wp_at_zero Go.wp_at_succ run_max_at run_min_at
set_option linter.unusedVariables false
theorem ad0 (ad : Addr) : ad.add 0 = ad := by simp [Addr.add]
theorem len_flats : ∀ (ks : List Tr), ks.length ≤ (flats ks).length
  | [] => by simp
  | a :: r => by have := len_flats r; have := a.flat_pos; simp [flats] at *; omega
set_option maxRecDepth 100000 in
set_option maxHeartbeats 1000000 in
theorem deep_c : ∀ (f : Nat) (t : Tr), t.flat.length ≤ f → t.good → t.flat.length ≤ 64 → ∀ (A : Option Addr) (cap : Nat) (w : World), t.flat.length ≤ cap → cap ≤ 9223372036854775807 → RdN w A t.flat → Calls Tryz.prog 169 #[.slice A t.flat.length cap] w (Ret (.int .i64 (t.deep : Nat)) w)
  | 0, t, hf, _, _ => by have := t.flat_pos; omega
  | f + 1, t, hf, hg, h64 => fun A cap w hcap hcap2 hr => by
    have IH := deep_c f
    have AR := fun x w1 => arity_c x w1
    have SZ := fun A cap l hl w1 h => qsize_c A cap l hl w1 h
    obtain ⟨ad, rfl, hc⟩ := hr.2.1 t.flat_pos
    obtain ⟨e0, e1, e2, e3⟩ := hc 0 t.root (by rw [t.flat_kids]; rfl)
    rw [Nat.zero_mul, ad0] at e0 e1 e2 e3
    have AR := AR t.root
    have hk := Tr.ar_kids hg
    have hgk := Tr.kids_good hg
    have hfl : t.flat.length = 1 + (flats t.kids).length := by rw [t.flat_kids]; simp; omega
    have hsub : ∀ j c, t.kids[j]? = some c → ((t.flat.drop (1 + (flats (t.kids.take j)).length)).take c.flat.length = c.flat) ∧ sizeT (t.flat.drop (1 + (flats (t.kids.take j)).length)) = c.flat.length ∧ c.good ∧ 1 + (flats (t.kids.take j)).length + c.flat.length ≤ t.flat.length := by
      intro j c hj
      have e : t.flat.drop (1 + (flats (t.kids.take j)).length) = c.flat ++ flats (t.kids.drop (j + 1)) := by
        rw [t.flat_kids, flats_take hj, Nat.add_comm, List.drop_succ_cons, List.drop_left]
      have hcg := hgk c (List.mem_of_getElem? hj)
      refine ⟨by rw [e, List.take_left], by rw [e, sizeT_flat hcg], hcg, ?_⟩
      rw [hfl, flats_take hj]; simp; omega
    rw [t.deep_kids]
    rw [hk] at AR
    have hpos := t.flat_pos
    have HSUB := Lib.hid hsub
    have HFL := Lib.hid hfl
    clear hsub hk hgk hc hg hfl
    generalize ht : t.root = x at *
    clear ht
    obtain ⟨k, n, A, mm, cp, K, xs⟩ := x
    dsimp only at AR e0 e1 e2 e3
    generalize hks : t.kids = ks at *
    generalize htl : t.flat.length = tl at *
    generalize htf : t.flat = tf at *
    have HT := Lib.hid (⟨htl, htf⟩ : _ ∧ _)
    clear hks htl htf
    have hkl : ks.length ≤ 64 := by
      have h := HFL.out
      have := len_flats ks
      omega
    generalize hkn : ks.length = kn at *
    have HKN := Lib.hid hkn
    clear hkn
    go_enter Tryz.func169, Tryz.ntmps169
    go_wp2_with fail
    refine (AR _).mono ?_
    rintro e w1 ⟨rfl, hk1⟩
    clear e0 e1 e2 e3 AR
    go_wp2_with fail
    go_loopw [3, 4, 5, 10] (fun o a _ i wr => ∃ (j at_ : Nat) (d : Nat), j ≤ kn ∧ 1 ≤ at_ ∧ at_ ≤ 64 ∧ d ≤ 64 ∧ o = .int .i64 d ∧ a = .int .i64 at_ ∧ i = .int .i64 j ∧ Kept w wr ∧ Hid (at_ = 1 + (flats (ks.take j)).length ∧ d = deeps (ks.take j))) (fun _ _ _ i _ => kn - (intOf i).toNat)
    case atStart => exact ⟨0, 1, 0, Nat.zero_le _, by omega, by omega, by omega, rfl, rfl, rfl, hk1, by simp [flats], by simp [deeps]⟩
    case round =>
      obtain ⟨j, at_, d, hj, ha1, ha2, hd, rfl, rfl, rfl, hkw, HD⟩ := hrel
      clear hk1
      by_cases hlt : j < kn
      · obtain ⟨c, hcj⟩ : ∃ c, ks[j]? = some c := ⟨ks[j]'(by rw [HKN.out]; exact hlt), List.getElem?_eq_getElem _⟩
        obtain ⟨s1, s2, s3, s4⟩ := HSUB.out j c hcj
        obtain ⟨d1, d2⟩ := HD.out
        obtain ⟨t1, t2⟩ := HT.out
        rw [← d1] at s1 s2 s4
        have hdl : (tf.drop at_).length = tl - at_ := by rw [List.length_drop, t1]
        have rd0 := (hr.kept hkw).sub at_ (tl - at_)
        rw [List.take_of_length_le (by omega)] at rd0
        have rd1 := (hr.kept hkw).sub at_ c.flat.length
        rw [s1] at rd1
        have SZ := SZ (some (ad.add (at_ * 4))) (cap - at_) (tf.drop at_) (by omega)
        rw [hdl, s2] at SZ
        have cpos := c.flat_pos
        have IH := fun cap w1 h1 h2 h3 => IH c (by omega) s3 (by omega) (some (ad.add (at_ * 4))) cap w1 h1 h2 h3
        have HREL : Hid (at_ + c.flat.length = 1 + (flats (ks.take (j + 1))).length ∧ max d c.deep = deeps (ks.take (j + 1))) := Lib.hid ⟨by rw [flats_succ hcj, d1]; simp; omega, by rw [deeps_succ hcj, d2]⟩
        have hcd : c.deep ≤ c.flat.length := c.deep_le
        have RD1 := Lib.hid rd1
        clear s1 s2 hdl d1 d2 HD HSUB hcj t1 t2 rd1
        generalize c.deep = cd at *
        generalize c.flat.length = cl at *
        trace "A"
        go_wp2_with fail
        refine (SZ _ rd0).mono ?_
        rintro e w2 ⟨rfl, hk2⟩
        replace hkw := kept_trans hkw hk2
        clear SZ rd0
        trace "B"
        go_wp2_with fail
        refine (IH _ _ (by omega) (by omega) (RD1.out.kept hk2)).mono ?_
        rintro e w3 ⟨rfl, hk3⟩
        replace hkw := kept_trans hkw hk3
        clear hk2 hk3 IH
        trace "C"
        go_wp2_with fail
        go_roundw
        case rel => exact ⟨j + 1, at_ + cl, max d cd, by omega, by omega, by omega, by omega, by go_num, by go_num, by go_num, hkw, HREL⟩
        case measure => simp [intOf]; omega
      · obtain rfl : j = kn := by omega
        have hz : d = deeps ks := by rw [HD.out.2, List.take_of_length_le (by rw [HKN.out]; omega)]
        have HZ := Lib.hid hz
        clear hz HD HSUB
        go_wp2_with fail
        go_ret
        exact ⟨by rw [HZ.out]; simp, hkw⟩
set_option maxRecDepth 100000 in
set_option maxHeartbeats 4000000 in
theorem depth_c (A : Option Addr) (cap : Nat) (l : List Nd) (hl : l.length ≤ 64) (hcap : l.length ≤ cap) (hcap2 : cap ≤ 9223372036854775807) (w : World) (hr : RdN w A l) : Calls Tryz.prog 112 #[.slice A l.length cap] w (Ret (.int .i64 (depthv l : Nat)) w) := by
  have SZ := fun w1 h => qsize_c A cap l (by omega) w1 h
  have DP := fun t f ht hg h w1 h1 => deep_c f t ht hg h A cap w1 h1
  by_cases h0 : l.length = 0
  · have hz : depthv l = 0 := by unfold depthv; rw [treeOf_none (.inl h0)]
    rw [hz]
    obtain rfl : l = [] := List.length_eq_zero_iff.1 h0
    show Calls _ _ #[.slice A 0 cap] w _
    clear SZ DP hz h0
    go_enter Tryz.func112, Tryz.ntmps112
    go_wp2_with fail
    go_ret
    exact ⟨rfl, kept_refl _⟩
  · have hp : 0 < l.length := by omega
    by_cases h1 : sizeT l = l.length
    · obtain ⟨t, hg, rfl⟩ := sizeT_tree (by omega) h1
      have hz : depthv t.flat = t.deep := by unfold depthv; rw [treeOf_flat hg]
      rw [hz]
      have DP := DP t _ (Nat.le_refl _) hg hl
      rw [h1] at SZ
      clear hz h1
      generalize t.flat.length = n at *
      have b0 : (n == 0) = false := beq_eq_false_iff_ne.2 h0
      go_enter Tryz.func112, Tryz.ntmps112
      go_wp2_with fail
      refine (SZ _ hr).mono ?_
      rintro e w1 ⟨rfl, hk1⟩
      clear SZ
      go_wp2_with fail
      refine (DP _ hcap hcap2 (hr.kept hk1)).mono ?_
      rintro e w2 ⟨rfl, hk2⟩
      clear DP
      go_wp2_with fail
      go_ret
      exact ⟨rfl, kept_trans hk1 hk2⟩
    · have hz : depthv l = 0 := by unfold depthv; rw [treeOf_none (.inr h1)]
      rw [hz]
      clear DP
      have H1 := Lib.hid h1
      generalize sizeT l = sz at *
      generalize l.length = n at *
      have b0 : (n == 0) = false := beq_eq_false_iff_ne.2 h0
      have b1 : (sz != n) = true := bne_iff_ne.2 h1
      have b2 : ((sz : Int) != (n : Int)) = true := bne_iff_ne.2 (by omega)
      clear hz h1
      go_enter Tryz.func112, Tryz.ntmps112
      go_wp2_with fail
      refine (SZ _ hr).mono ?_
      rintro e w1 ⟨rfl, hk1⟩
      clear SZ
      go_wp2_with fail
      go_ret
      exact ⟨rfl, hk1⟩
end Go.Proofs.YtdejablhpljdfaaGreat
namespace Go.Proofs.YtdejablhpljdfaaGreat
open Go.RowKit BG
attribute [local go_sem ↓] Go.wp_at_zero Go.wp_at_succ run_max_at run_min_at
set_option linter.unusedVariables false
set_option maxRecDepth 100000 in
set_option maxHeartbeats 1000000 in
theorem zero_c (A : Option Addr) (cap m : Nat) (K : Int) (w : World) : Calls Tryz.prog 180 #[leafV A m cap K] w (Ret (.bool (decide (m = 0) && decide (K = 0))) w) := by
  have hb := blk_new w (.cells #[.slice A m cap, .int .i64 K] 61)
  have ka := kept_alloc (kept_refl w) (.cells #[.slice A m cap, .int .i64 K] 61)
  have c0 := blk_cell hb 0
  have c1 := blk_cell hb 1
  clear hb
  by_cases hm : m = 0
  · subst hm
    rw [decide_eq_true (rfl : 0 = 0), Bool.true_and]
    have hk : (K == 0) = decide (K = 0) := by rw [Bool.eq_iff_iff]; simp
    generalize decide (K = 0) = b at *
    go_enter Tryz.func180, Tryz.ntmps180
    go_wp2_with fail
    go_ret
    exact ⟨rfl, ka⟩
  · rw [decide_eq_false hm, Bool.false_and]
    have hk : (m == 0) = false := beq_eq_false_iff_ne.2 hm
    have hk2 : ((m : Int) == 0) = false := beq_eq_false_iff_ne.2 (by omega)
    go_enter Tryz.func180, Tryz.ntmps180
    go_wp2_with fail
    go_ret
    exact ⟨rfl, ka⟩
def ndokv (x : Nd) : Bool := (decide (x.k = 5) || decide (x.n = 0)) && decide (0 ≤ x.n) && decide (x.n ≤ 1000000) && (if x.k = 1 then rightv x.xs x.m x.K else decide (x.m = 0) && decide (x.K = 0))
set_option maxRecDepth 100000 in
set_option maxHeartbeats 4000000 in
theorem node_c (x : Nd) (w : World) (hx : x.ok w) : Calls Tryz.prog 135 #[x.v] w (Ret (.bool (ndokv x)) w) := by
  obtain ⟨hl, -, hr⟩ := hx
  have hb := nd_cells (blk_new w x.box)
  have ka := kept_alloc (kept_refl w) x.box
  unfold ndokv
  obtain ⟨k, n, A, m, cap, K, xs⟩ := x
  dsimp only [Nd.v, Nd.box] at hb ka hl hr ⊢
  have RI := fun w1 h => right_c A cap m xs K hl w1 h
  have ZE := fun w1 => zero_c A cap m K w1
  obtain ⟨c0, c1, c2, c3⟩ := hb
  generalize rightv xs m K = rv at *
  generalize (decide (m = 0) && decide (K = 0)) = zv at *
  by_cases h5 : k = 5
  · subst h5
    rw [decide_eq_true (rfl : (5 : Int) = 5), Bool.true_or, Bool.true_and, if_neg (by decide)]
    by_cases hn : 0 ≤ n
    · by_cases hn2 : n ≤ 1000000
      · rw [decide_eq_true hn, decide_eq_true hn2, Bool.true_and, Bool.true_and]
        have d1 : decide (n < 0) = false := decide_eq_false (by omega)
        have d2 : decide ((1000000 : Int) < n) = false := decide_eq_false (by omega)
        clear RI
        go_enter Tryz.func135, Tryz.ntmps135
        go_wp2_with fail
        go_quiet (fail)
        replace ka := kept_drewN ka nq
        replace c1 := kept_cell (kept_drewN (kept_refl _) nq) c1
        replace c2 := kept_cell (kept_drewN (kept_refl _) nq) c2
        replace c3 := kept_cell (kept_drewN (kept_refl _) nq) c3
        clear c0
        go_wp2_with fail
        refine (ZE _).mono ?_
        rintro e w1 ⟨rfl, hk1⟩
        clear ZE c1 c2 c3
        go_wp2_with fail
        go_ret
        exact ⟨rfl, kept_trans ka hk1⟩
      · rw [decide_eq_true hn, decide_eq_false hn2, Bool.true_and, Bool.false_and]
        have d1 : decide (n < 0) = false := decide_eq_false (by omega)
        have d2 : decide ((1000000 : Int) < n) = true := decide_eq_true (by omega)
        clear RI ZE
        go_enter Tryz.func135, Tryz.ntmps135
        go_wp2_with fail
        go_quiet (fail)
        replace ka := kept_drewN ka nq
        replace c1 := kept_cell (kept_drewN (kept_refl _) nq) c1
        clear c0 c2 c3
        go_wp2_with fail
        go_ret
        exact ⟨rfl, ka⟩
    · rw [decide_eq_false hn, Bool.false_and, Bool.false_and]
      have d1 : decide (n < 0) = true := decide_eq_true (by omega)
      clear RI ZE
      go_enter Tryz.func135, Tryz.ntmps135
      go_wp2_with fail
      go_quiet (fail)
      replace ka := kept_drewN ka nq
      replace c1 := kept_cell (kept_drewN (kept_refl _) nq) c1
      clear c0 c2 c3
      go_wp2_with fail
      go_ret
      exact ⟨rfl, ka⟩
  · have b5 : (k == 5) = false := beq_eq_false_iff_ne.2 h5
    by_cases hn : n = 0
    · subst hn
      rw [decide_eq_false h5, decide_eq_true (rfl : (0 : Int) = 0), Bool.false_or, Bool.true_and, decide_eq_true (by decide : (0 : Int) ≤ 0), decide_eq_true (by decide : (0 : Int) ≤ 1000000), Bool.true_and, Bool.true_and]
      by_cases h1 : k = 1
      · subst h1
        rw [if_pos rfl]
        clear ZE
        go_enter Tryz.func135, Tryz.ntmps135
        go_wp2_with fail
        go_quiet (fail)
        replace ka := kept_drewN ka nq
        replace c1 := kept_cell (kept_drewN (kept_refl _) nq) c1
        replace c2 := kept_cell (kept_drewN (kept_refl _) nq) c2
        replace c3 := kept_cell (kept_drewN (kept_refl _) nq) c3
        clear c0
        go_wp2_with fail
        refine (RI _ (hr.kept ka)).mono ?_
        rintro e w1 ⟨rfl, hk1⟩
        clear RI c1 c2 c3
        go_wp2_with fail
        go_ret
        exact ⟨rfl, kept_trans ka hk1⟩
      · rw [if_neg h1]
        have b1 : (k == 1) = false := beq_eq_false_iff_ne.2 h1
        clear RI
        go_enter Tryz.func135, Tryz.ntmps135
        go_wp2_with fail
        go_quiet (fail)
        replace ka := kept_drewN ka nq
        replace c1 := kept_cell (kept_drewN (kept_refl _) nq) c1
        replace c2 := kept_cell (kept_drewN (kept_refl _) nq) c2
        replace c3 := kept_cell (kept_drewN (kept_refl _) nq) c3
        clear c0
        go_wp2_with fail
        refine (ZE _).mono ?_
        rintro e w1 ⟨rfl, hk1⟩
        clear ZE c1 c2 c3
        go_wp2_with fail
        go_ret
        exact ⟨rfl, kept_trans ka hk1⟩
    · rw [decide_eq_false h5, decide_eq_false hn, Bool.false_or, Bool.false_and, Bool.false_and, Bool.false_and]
      have bn : (n != 0) = true := bne_iff_ne.2 hn
      have bn2 : (n == 0) = false := beq_eq_false_iff_ne.2 hn
      clear RI ZE
      go_enter Tryz.func135, Tryz.ntmps135
      go_wp2_with fail
      go_quiet (fail)
      replace ka := kept_drewN ka nq
      replace c1 := kept_cell (kept_drewN (kept_refl _) nq) c1
      clear c0 c2 c3
      go_wp2_with fail
      go_ret
      exact ⟨rfl, ka⟩
set_option maxRecDepth 100000 in
set_option maxHeartbeats 1000000 in
theorem right1_c (x : Nd) (w : World) (hx : x.ok w) : Calls Tryz.prog 134 #[x.v] w (Ret (.bool (!ndokv x)) w) := by
  have N := fun w1 h => node_c x w1 h
  have hb := nd_cells (blk_new w x.box)
  have ka := kept_alloc (kept_refl w) x.box
  have HX := Lib.hid hx
  have N := N _ (hx.kept ka)
  generalize ndokv x = b at *
  obtain ⟨k, n, A, m, cap, K, xs⟩ := x
  dsimp only [Nd.v, Nd.box] at hb ka N ⊢
  obtain ⟨c0, c1, c2, c3⟩ := hb
  go_enter Tryz.func134, Tryz.ntmps134
  go_wp2_with fail
  refine N.mono ?_
  rintro e w1 ⟨rfl, hk1⟩
  clear N c0 c1 c2 c3
  go_wp2_with fail
  go_ret
  exact ⟨rfl, kept_trans ka hk1⟩
def badI (l : List Nd) : Int := match l.findIdx? (fun x => !ndokv x) with
  | some j => j
  | none => -1
theorem badI_no {l : List Nd} (h : ∀ x ∈ l, ndokv x = true) : badI l = -1 := by
  unfold badI
  rw [List.findIdx?_eq_none_iff.2 (fun x hx => by rw [h x hx]; rfl)]
theorem badI_at {l : List Nd} {j : Nat} {x : Nd} (hx : l[j]? = some x) (h : ndokv x = false) (hm : ∀ q y, q < j → l[q]? = some y → ndokv y = true) : badI l = j := by
  have hj : j < l.length := by
    rcases Nat.lt_or_ge j l.length with h' | h'
    · exact h'
    · rw [List.getElem?_eq_none h'] at hx; cases hx
  have hxe : l[j] = x := by rw [List.getElem?_eq_getElem hj] at hx; exact Option.some.inj hx
  unfold badI
  rw [List.findIdx?_eq_some_iff_getElem.2 ⟨hj, by rw [hxe, h]; rfl, fun q hq => by rw [hm q l[q] hq (List.getElem?_eq_getElem _)]; decide⟩]
set_option maxRecDepth 100000 in
set_option maxHeartbeats 2000000 in
theorem nodeidx_c (A : Option Addr) (cap : Nat) (l : List Nd) (w : World) (hr : RdN w A l) : Calls Tryz.prog 175 #[.slice A l.length cap, .func (.func 134) #[] #[]] w (Ret (.int .i64 (badI l)) w) := by
  have R1 := fun x w1 h => right1_c x w1 h
  have hm := hr.1
  have hat := fun j x => badI_at (l := l) (j := j) (x := x)
  have hno := badI_no (l := l)
  have HAT := Lib.hid (⟨hat, hno⟩ : _ ∧ _)
  clear hat hno
  generalize badI l = ix at *
  generalize hll : l.length = m at *
  have HM := Lib.hid hll
  clear hll
  go_enter Tryz.func175, Tryz.ntmps175
  go_wp2_with fail
  go_loopw [5, 8] (fun _ i wr => ∃ j : Nat, j ≤ m ∧ i = .int .i64 j ∧ Kept w wr ∧ Hid (∀ q y, q < j → l[q]? = some y → ndokv y = true)) (fun _ i _ => m - (intOf i).toNat)
  case atStart => exact ⟨0, Nat.zero_le _, rfl, kept_refl w, fun q y hq => absurd hq (Nat.not_lt_zero q)⟩
  case round =>
    obtain ⟨j, hj, rfl, hkw, HQ⟩ := hrel
    by_cases hlt : j < m
    · obtain ⟨ad, x, rfl, hx, hok, e0, e1, e2, e3⟩ := (hr.kept hkw).at_ (j := j) (by rw [HM.out]; exact hlt)
      have R1 := R1 x _ hok
      have HA : Hid (ndokv x = false → ix = j) := fun h => HAT.out.1 j x hx h HQ.out
      have HB : Hid (ndokv x = true → Hid (∀ q y, q < j + 1 → l[q]? = some y → ndokv y = true)) := fun h q y hq hy => by
        rcases Nat.lt_or_ge q j with h' | h'
        · exact HQ.out q y h' hy
        · obtain rfl : q = j := by omega
          rw [hx] at hy; cases hy; exact h
      clear hx hok HAT HQ
      generalize ndokv x = b at *
      obtain ⟨k, n, A, mm, cp, K, xs⟩ := x
      dsimp only [Nd.v] at R1 e0 e1 e2 e3
      go_wp2_with fail
      refine R1.mono ?_
      rintro e w1 ⟨rfl, hk1⟩
      replace hkw := kept_trans hkw hk1
      clear R1 e0 e1 e2 e3 hk1
      cases b
      · obtain rfl := HA.out rfl
        clear HA HB
        go_wp2_with fail
        go_ret
        exact ⟨rfl, hkw⟩
      · have HQ := HB.out rfl
        clear HA HB
        go_wp2_with fail
        go_roundw
        case rel => exact ⟨j + 1, by omega, by go_num, hkw, HQ⟩
        case measure => simp [intOf]; omega
    · obtain rfl : j = m := by omega
      have hix := HAT.out.2 (fun x hx => by
        obtain ⟨q, hq, rfl⟩ := List.getElem_of_mem hx
        exact HQ.out q _ (by rw [← HM.out]; exact hq) (List.getElem?_eq_getElem _))
      subst hix
      clear HAT HQ
      go_wp2_with fail
      go_ret
      exact ⟨rfl, hkw⟩
def anybad (l : List Nd) : Bool := l.any fun x => !ndokv x
theorem badI_any (l : List Nd) : decide (0 ≤ badI l) = anybad l := by
  unfold badI anybad
  cases h : l.findIdx? (fun x => !ndokv x) with
  | none =>
    have := List.findIdx?_eq_none_iff.1 h
    simp only [Int.reduceNeg, Int.reduceLE, decide_false]
    symm; rw [List.any_eq_false]; intro x hx; rw [this x hx]; decide
  | some j =>
    obtain ⟨hj, h1, _⟩ := List.findIdx?_eq_some_iff_getElem.1 h
    have : decide (0 ≤ (j : Int)) = true := decide_eq_true (by omega)
    rw [show (match some j with | some j => (j : Int) | none => -1) = (j : Int) from rfl, this]
    symm; rw [List.any_eq_true]; exact ⟨l[j], List.getElem_mem hj, h1⟩
set_option maxRecDepth 100000 in
set_option maxHeartbeats 2000000 in
theorem nodehas_c (A : Option Addr) (cap : Nat) (l : List Nd) (w : World) (hr : RdN w A l) : Calls Tryz.prog 123 #[.slice A l.length cap, .func (.func 134) #[] #[]] w (Ret (.bool (anybad l)) w) := by
  have I := fun w1 h => nodeidx_c A cap l w1 h
  have hb := badI_any l
  have HB := Lib.hid hb
  clear hb
  generalize badI l = ix at *
  generalize anybad l = b at *
  generalize l.length = m at *
  go_enter Tryz.func123, Tryz.ntmps123
  go_wp2_with fail
  refine (I _ hr).mono ?_
  rintro e w1 ⟨rfl, hk1⟩
  clear I
  go_wp2_with fail
  go_ret
  exact ⟨by rw [← HB.out]; rfl, hk1⟩
def qrightv (l : List Nd) : Bool := decide (l.length ≤ 64) && !anybad l && decide (1 ≤ depthv l) && decide (depthv l ≤ 16)
set_option maxRecDepth 100000 in
set_option maxHeartbeats 2000000 in
theorem qright_c (A : Option Addr) (cap : Nat) (l : List Nd) (hcap : l.length ≤ cap) (hcap2 : cap ≤ 9223372036854775807) (w : World) (hr : RdN w A l) : Calls Tryz.prog 71 #[.slice A l.length cap] w (Ret (.bool (qrightv l)) w) := by
  have CF := fun w1 h => nodehas_c A cap l w1 h
  have DP := fun h64 w1 h => depth_c A cap l h64 hcap hcap2 w1 h
  have hq : qrightv l = (decide (l.length ≤ 64) && !anybad l && decide (1 ≤ depthv l) && decide (depthv l ≤ 16)) := rfl
  have HQ := Lib.hid hq
  clear hq
  generalize qrightv l = qv at *
  generalize anybad l = ab at *
  generalize depthv l = dv at *
  generalize hll : l.length = m at *
  clear hll
  have hm := hr.1
  by_cases h64 : m ≤ 64
  · have DP := DP h64
    have d1 : decide (64 < m) = false := decide_eq_false (by omega)
    cases ab
    · by_cases h1 : 1 ≤ dv
      · have d3 : decide (0 < dv) = true := decide_eq_true h1
        go_enter Tryz.func71, Tryz.ntmps71
        go_wp2_with fail
        refine (CF _ hr).mono ?_
        rintro e w1 ⟨rfl, hk1⟩
        clear CF
        go_wp2_with fail
        refine (DP _ (hr.kept hk1)).mono ?_
        rintro e w2 ⟨rfl, hk2⟩
        clear DP
        go_wp2_with fail
        go_ret
        exact ⟨by rw [HQ.out, decide_eq_true h64, decide_eq_true h1]; simp; omega, kept_trans hk1 hk2⟩
      · obtain rfl : dv = 0 := by omega
        go_enter Tryz.func71, Tryz.ntmps71
        go_wp2_with fail
        refine (CF _ hr).mono ?_
        rintro e w1 ⟨rfl, hk1⟩
        clear CF
        go_wp2_with fail
        refine (DP _ (hr.kept hk1)).mono ?_
        rintro e w2 ⟨rfl, hk2⟩
        clear DP
        go_wp2_with fail
        go_ret
        exact ⟨by rw [HQ.out]; simp, kept_trans hk1 hk2⟩
    · clear DP
      go_enter Tryz.func71, Tryz.ntmps71
      go_wp2_with fail
      refine (CF _ hr).mono ?_
      rintro e w1 ⟨rfl, hk1⟩
      clear CF
      go_wp2_with fail
      go_ret
      exact ⟨by rw [HQ.out]; simp, hk1⟩
  · have d1 : decide (64 < m) = true := decide_eq_true (by omega)
    clear DP CF
    go_enter Tryz.func71, Tryz.ntmps71
    go_wp2_with fail
    go_ret
    exact ⟨by rw [HQ.out, decide_eq_false h64]; simp, kept_refl _⟩
end Go.Proofs.YtdejablhpljdfaaGreat
