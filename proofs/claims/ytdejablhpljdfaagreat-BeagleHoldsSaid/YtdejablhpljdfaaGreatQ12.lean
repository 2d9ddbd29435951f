/-
  Texts of one claim, joined: Float, TNaive3, TSplit1.
-/
import Derived.OrdersHeld
import Derived.Deep.MidRow
import Derived.Laws.IdiomCopy
import Derived.WalkSpells
import Derived.Test.YtdejablhpljdfaaGreatQ09
import Derived.Test.YtdejablhpljdfaaGreatQ10
import Derived.Test.YtdejablhpljdfaaGreatQ11
import Derived.Test.YtdejablhpljdfaaGreatQ07
set_option linter.unusedVariables false
namespace Go.Proofs.YtdejablhpljdfaaGreat
open Go.RowKit
section
variable {P : Program} {ops : Array Oper} {md : Region.Mode} {S : World → Prop} {Q : Exit → Act → World → Prop}
def anyHW (P : Program) (md : Region.Mode) (ops : Array Oper) (Q : Exit → Act → World → Prop) (S : World → Prop) (n : Nat) (L : Array Bool → Act → World → Prop) : Nat → Array Bool → Act → World → Prop
  | 0, listed, a, w => L listed a w
  | f + 1, listed, a, w => Region.ready md ops listed ≠ [] ∧ ∀ i ∈ Region.ready md ops listed, i < n ∧ wpOp P ops Q i (fun a' w' => S w' ∧ anyHW P md ops Q S n L f (listed.setIfInBounds i true) a' w') a w
theorem any_of_HW {n g : Nat} {L : Array Bool → Act → World → Prop} (hL : ∀ listed a w, L listed a w → wpAny P md ops Q g listed a w) : ∀ (f : Nat) (listed : Array Bool) (a : Act) (w : World), anyHW P md ops Q S n L f listed a w → wpAny P md ops Q (f + g) listed a w := by
  intro f
  induction f with
  | zero => intro listed a w h; rw [Nat.zero_add]; exact hL _ _ _ h
  | succ f ih =>
    intro listed a w h
    rw [show f + 1 + g = (f + g) + 1 from by omega]
    exact ⟨fun h0 => absurd h0 h.1, fun i hi => wpOp_mono (fun a' w' h' => ih _ a' w' h'.2) (h.2 i hi).2⟩
theorem HW_first {n i : Nat} {oi : Oper} {v : Value} {L : Array Bool → Act → World → Prop} (hi : ops[i]? = some oi) (hsel : ∀ (j : Nat) (o : Oper) cs b, ops[j]? = some o → o.op ≠ .select cs b)
    (hQ : ∀ c a w, Q (.panic c) (a.put oi.dst v) w → Q (.panic c) a w)
    (hs : sinkFrom md ops 0 n = true) (hc : chainFrom md ops n = true) (hn : n < ops.size) (hin : i < n) (hdone : ∀ listed a w, L listed a w → ∀ j ∈ Region.ready md ops listed, n ≤ j) :
    ∀ (f : Nat) (listed : Array Bool) (a : Act) (w : World), HeadInv md ops n listed →
      (∀ j oj, ops[j]? = some oj → j ≠ i → listed.getD j true = false → (∀ e ∈ oj.after, Region.binds md e = true → e.on ≠ i) → oi.apart ops oj = true) →
      i ∈ Region.ready md ops listed → YieldsIf P ops S oi v a → S w →
      anyHW P md ops Q S n L f (listed.setIfInBounds i true) (a.put oi.dst v) w → anyHW P md ops Q S n L (f + 1) listed a w := by
  intro f
  induction f with
  | zero =>
    intro listed a w inv _ hr hy hS H
    refine ⟨fun h => (by rw [h] at hr; cases hr), fun j hj => ?_⟩
    have hjn : j < n := Nat.lt_of_not_le fun h => tail_waits_from hs hc hn inv _ i rfl (Nat.zero_le _) hin (mem_ready.1 hr).1 j h hj
    refine ⟨hjn, ?_⟩
    by_cases hji : j = i
    · subst hji; exact hy.wpOp hi hS ⟨hS, H⟩
    · have := hdone _ _ _ H j (ready_mono hj hji)
      omega
  | succ f ih =>
    intro listed a w inv hfree hr hy hS H
    have hun := (mem_ready.1 hr).1
    refine ⟨fun h => (by rw [h] at hr; cases hr), fun j hj => ?_⟩
    have hjn : j < n := Nat.lt_of_not_le fun h => tail_waits_from hs hc hn inv _ i rfl (Nat.zero_le _) hin hun j h hj
    refine ⟨hjn, ?_⟩
    by_cases hji : j = i
    · subst hji; exact hy.wpOp hi hS ⟨hS, H⟩
    · obtain ⟨hjun, oj, hoj, hall⟩ := mem_ready.1 hj
      have hnot : ∀ e ∈ oj.after, Region.binds md e = true → e.on ≠ i := fun e he hb heq => by
        have h1 := hall e he hb
        rw [heq, getD_both hun] at h1
        cases h1
      have h2 := wpOp_putIf hoj (hfree j oj hoj hji hjun hnot) (fun cs b => hsel i oi cs b hi) (fun cs b => hsel j oj cs b hoj) hQ hy (H.2 j (ready_mono hj hji)).2
      refine wpOp_mono (fun a' w' h3 => ⟨h3.2.1, ih _ a' w' (inv.set hj hjn) (fun q oq hq hqi hqun hno => hfree q oq hq hqi ?_ hno) (ready_mono hr (Ne.symm hji)) h3.1 h3.2.1 ?_⟩) h2
      · by_cases hjq : j = q
        · subst hjq; exact hjun
        · rw [getD_set_ne true hjq] at hqun; exact hqun
      · rw [Array.setIfInBounds_comm _ _ hji]
        exact h3.2.2
def floatL (P : Program) (ops : Array Oper) (S : World → Prop) (K : Act → Prop) : List Oper → Act → Prop
  | [], a => K a
  | o :: L, a => ∃ v, YieldsIf P ops S o v a ∧ floatL P ops S K L (a.put o.dst v)
theorem float_nil {K : Act → Prop} {a : Act} (h : K a) : floatL P ops S K [] a := h
theorem float_cons {K : Act → Prop} {a : Act} {o : Oper} {L : List Oper} {v : Value} (hw : Region.wanted o (yielded ops a.tmps) = true) (hv : ∀ w, S w → (execOp a.eval o).run P w = .ok (.value v) w) (h : floatL P ops S K L (a.put o.dst v)) : floatL P ops S K (o :: L) a := ⟨v, .inl ⟨hw, hv⟩, h⟩
def earlyL (P : Program) (ops : Array Oper) (Q : Exit → Act → World → Prop) (S : World → Prop) (K : Act → World → Prop) : List Oper → Act → World → Prop
  | [], a, w => K a w
  | o :: L, a, w => if Region.wanted o (yielded ops a.tmps) = true then o.wp P a w (fun a' w' => S w' ∧ earlyL P ops Q S K L a' w') Q ∨ (o.asks P a w ∧ LetsOut Q) else S w ∧ earlyL P ops Q S K L (a.put o.dst undef) w
def eQ (Q : Exit → Act → World → Prop) (N : Act → World → Prop) : Exit → Act → World → Prop
  | .normal, a, w => N a w
  | e, a, w => Q e a w
theorem eQ_mk {N : Act → World → Prop} {a : Act} {w : World} (h : S w) (h' : N a w) : eQ Q (fun a w => S w ∧ N a w) .normal a w := ⟨h, h'⟩
theorem eQ_one {N : Act → World → Prop} {o : Oper} {a : Act} {w : World} (hq : ¬ LetsOut Q) (h : o.wp P a w (wpList P ops (eQ Q N) []) (eQ Q N)) : o.wp P a w N Q := by
  unfold Oper.wp at *
  generalize (execOp a.eval o).run P w = r at *
  cases r with
  | ok n w' =>
    cases n <;> simp only [Oper.upon] at h ⊢ <;>
      first
        | exact h
        | exact Calls.mono h (fun e w'' he => by
            cases e with
            | returned v => exact he
            | panicked c => exact he
            | outgrown => exact absurd he hq)
        | exact Rows.mono h (fun _ _ he => he)
  | halt x w' => cases x <;> simp only [Oper.upon] at h ⊢ <;> exact h
theorem early_nil {K : Act → World → Prop} {a : Act} {w : World} (h : K a w) : earlyL P ops Q S K [] a w := h
theorem early_cons {K : Act → World → Prop} {o : Oper} {L : List Oper} {a : Act} {w : World} (hq : ¬ LetsOut Q) (hw : Region.wanted o (yielded ops a.tmps) = true) (h : wpList P ops (eQ Q (fun a' w' => S w' ∧ earlyL P ops Q S K L a' w')) [o] a w) : earlyL P ops Q S K (o :: L) a w := by
  unfold wpList at h
  rw [if_pos hw] at h
  unfold earlyL
  rw [if_pos hw]
  rcases h with h | h
  · exact .inl (eQ_one hq h)
  · exact absurd h.2 hq
def floatHeadB (md : Region.Mode) (ops : Array Oper) (n m : Nat) : Nat → Nat → Array Bool → Bool
  | 0, k, listed => (Region.ready md ops listed).all (fun j => decide (m ≤ j)) && tailB md ops (ops.size - m) m listed
  | f + 1, k, listed => (if k < n then (Region.ready md ops listed).contains k && Region.free md ops listed k else decide (Region.ready md ops listed = [k])) && floatHeadB md ops n m f (k + 1) (listed.setIfInBounds k true)
def floatB (md : Region.Mode) (ops : Array Oper) (n m : Nat) : Bool :=
  Region.noSelect ops && decide (n ≤ m) && decide (m < ops.size) && sinkFrom md ops 0 m && chainFrom md ops m && floatHeadB md ops n m m 0 (Array.replicate ops.size false)
theorem HW_of_float {n m : Nat} {K : Act → World → Prop} (hq : ¬ LetsOut Q) (hQ : ∀ c a a' w, Q (.panic c) a w → Q (.panic c) a' w) (hsel : Region.noSelect ops = true) (hs : sinkFrom md ops 0 m = true) (hc : chainFrom md ops m = true) (hm : m < ops.size) :
    ∀ (l e : List Oper) (k : Nat) (listed : Array Bool) (a : Act) (w : World), (∀ j, j < (l ++ e).length → (l ++ e)[j]? = ops[k + j]?) → k + (l ++ e).length = m → (l = [] ∨ k + l.length = n) → (l = [] → n ≤ k) → HeadInv md ops m listed →
    floatHeadB md ops n m (l ++ e).length k listed = true → S w → floatL P ops S (fun a' => earlyL P ops Q S K e a' w) l a →
    anyHW P md ops Q S m (fun listed' a' w' => ((∀ j ∈ Region.ready md ops listed', m ≤ j) ∧ tailB md ops (ops.size - m) m listed' = true) ∧ K a' w') (l ++ e).length listed a w := by
  intro l
  induction l with
  | nil =>
    intro e
    simp only [List.nil_append]
    induction e with
    | nil =>
      intro k listed a w _ hk _ _ inv hB hS h
      simp only [List.length_nil, floatHeadB, Bool.and_eq_true, List.all_eq_true, decide_eq_true_eq] at hB
      exact ⟨hB, h⟩
    | cons o e ih =>
      intro k listed a w hl hk _ hnk inv hB hS h
      have h0 : ops[k]? = some o := by simpa using (hl 0 (by simp)).symm
      simp only [List.length_cons, floatHeadB, Bool.and_eq_true] at hB
      obtain ⟨hr, hB'⟩ := hB
      rw [if_neg (by have := hnk (by first | rfl | trivial); omega), decide_eq_true_eq] at hr
      have hkm : k < m := by simp only [List.length_cons] at hk; omega
      refine ⟨fun h1 => (by rw [hr] at h1; cases h1), fun i hi => ?_⟩
      have hi' := hi
      rw [hr] at hi
      have hik : i = k := by simpa using hi
      subst hik
      refine ⟨hkm, ?_⟩
      have h : earlyL P ops Q S K (o :: e) a w := h
      unfold earlyL at h
      have hop : wpOp P ops Q i (fun a' w' => S w' ∧ earlyL P ops Q S K e a' w') a w := by unfold wpOp; simp only [h0]; exact h
      exact wpOp_mono (fun a' w' h3 => ⟨h3.1, ih (i + 1) _ a' w' (fun j hj => by have := hl (j + 1) (by simp; omega); simpa [Nat.add_assoc, Nat.add_comm 1 j] using this) (by simp only [List.length_cons] at hk; omega) (.inl (by first | rfl | trivial)) (fun _ => by have := hnk (by first | rfl | trivial); omega) (inv.set hi' hkm) hB' h3.1 h3.2⟩) hop
  | cons o l ih =>
    intro e k listed a w hl hk hln hnk inv hB hS h
    have hkn : k + (o :: l).length = n := hln.resolve_left (by simp)
    have h0 : ops[k]? = some o := by simpa using (hl 0 (by simp)).symm
    simp only [List.cons_append, List.length_cons, floatHeadB, Bool.and_eq_true] at hB
    obtain ⟨hr, hB'⟩ := hB
    rw [if_pos (by simp only [List.length_cons] at hkn; omega), Bool.and_eq_true] at hr
    obtain ⟨hr, hf⟩ := hr
    have hkm : k < m := by simp only [List.cons_append, List.length_cons] at hk; omega
    have hr' : k ∈ Region.ready md ops listed := by simpa using hr
    obtain ⟨v, hy, hK⟩ := h
    refine HW_first h0 (Region.noSelect_spec hsel) (fun c a w => hQ c _ _ w) hs hc hm hkm (fun _ _ _ hL => hL.1.1) (l ++ e).length listed a w inv (Region.free_spec h0 hf) hr' hy hS ?_
    exact ih e (k + 1) _ _ w (fun j hj => by have := hl (j + 1) (by simp at hj ⊢; omega); simpa [Nat.add_assoc, Nat.add_comm 1 j] using this) (by simp only [List.cons_append, List.length_cons] at hk; omega) (.inr (by simp only [List.length_cons] at hkn; omega)) (fun hl0 => by subst hl0; simp only [List.length_cons, List.length_nil] at hkn; omega) (inv.set hr' hkm) hB' hS hK
end
section
variable {P : Program}
theorem any_region_float {S : World → Prop} {Q : Exit → Act → World → Prop} {a : Act} {w : World} {l : List Oper} (n m : Nat) (hB : floatB .any l.toArray n m = true) (hq : ¬ LetsOut Q) (hQ : ∀ c a a' w, Q (.panic c) a w → Q (.panic c) a' w) (hS : S w.drew)
    (h : floatL P l.toArray S (fun a' => earlyL P l.toArray Q S (fun a w => wpList P l.toArray Q (l.drop m) a w) ((l.take m).drop n) a' w.drew) (l.take n) a) : wpAny P .any l.toArray Q l.toArray.size (Array.replicate l.toArray.size false) a { w with drawn := w.drawn + 1 } := by
  simp only [floatB, Bool.and_eq_true, decide_eq_true_eq] at hB
  obtain ⟨⟨⟨⟨⟨hsel, hnm⟩, hm⟩, hs⟩, hc⟩, hlex⟩ := hB
  have hm' : m < l.length := by simpa using hm
  have hnm2 : min n m = n := by omega
  have htl : (l.take n ++ (l.take m).drop n) = l.take m := by
    have := List.take_append_drop n (l.take m)
    rwa [List.take_take, hnm2] at this
  have hml : (l.take m).length = m := by simp; omega
  have hdl : (l.drop m).length = l.toArray.size - m := by simp
  have inv0 : HeadInv .any l.toArray m (Array.replicate l.toArray.size false) :=
    ⟨by simp, fun j oj _ hl => (by rw [getD_replicate_false] at hl; cases hl), fun t _ ht => getD_in (by simpa using ht) (getD_replicate_false _ _)⟩
  have H := HW_of_float (md := .any) (n := n) (m := m) hq hQ hsel hs hc hm (l.take n) ((l.take m).drop n) 0 _ a w.drew (fun j hj => by
    rw [htl] at hj ⊢
    have hj' : j < m := by rw [hml] at hj; exact hj
    simp [hj']) (by rw [htl, hml]; omega) (.inr (by simp; omega)) (fun h0 => by
      rcases Nat.eq_zero_or_pos n with e | e
      · omega
      · have := congrArg List.length h0; simp at this; rcases this with e2 | e2 <;> first | omega | (subst e2; simp at hm')) inv0 (by rw [htl, hml]; exact hlex) hS h
  have := any_of_HW (Q := Q) (g := l.toArray.size - m) (fun listed a' w' hL => by
    have := wpAny_of_tail (md := .any) (Q' := Q) hq hQ hsel (l.drop m) m listed a' w' (fun j => by simp [List.getElem?_drop]) (by rw [hdl]; exact hL.1.2) hL.2
    rwa [hdl] at this) _ _ _ _ H
  rw [htl, hml, show m + (l.toArray.size - m) = l.toArray.size from by omega] at this
  exact this
theorem rd_region_float {id k r : Nat} {S : World → Prop} {Q : Exit → Act → World → Prop} {a : Act} {w : World} {l : List Oper} (n m : Nat) (hm : P.follows .mixedOrders = true) (hB : floatB .any l.toArray n m = true) (hd : l.toArray.all noDefer = true) (hq : ¬ LetsOut Q) (hQ : ∀ c a a' w, Q (.panic c) a w → Q (.panic c) a' w) (hS : S w.drew)
    (h : floatL P l.toArray S (fun a' => earlyL P l.toArray Q S (fun a w => wpList P l.toArray Q (l.drop m) a w) ((l.take m).drop n) a' w.drew) (l.take n) a) : (Code.region id l.toArray true).wpIn (RoundFence r) k P Q a w :=
  wpIn_region_any hm (bridge_any hq hd _ _ _ _ (any_region_float n m hB hq hQ hS h))
end
end Go.Proofs.YtdejablhpljdfaaGreat
namespace Go.Proofs.YtdejablhpljdfaaGreat
open Go.RowKit BG
attribute [local go_sem] Oper.semAt_some
attribute [local go_sem ↓] Go.wp_at_zero Go.wp_at_succ run_max_at
set_option linter.unusedVariables false
theorem own_cells {w : World} {base n size : Nat} {e : TypeId} {v : Value} {xs : List Value} (h : w.ownsRow base e size v n xs) (j : Nat) (o : Obj) (hj : v.ownBlock = some j) (ho : w.heap[j]? = some o) : o.isCells = true := by
  rcases h.2 with ⟨rfl, _⟩ | ⟨g, cap, cur, rfl, _, hg, _⟩
  · cases hj
  · simp only [Value.ownBlock, Option.some.injEq] at hj
    subst hj
    rw [hg] at ho; cases ho; rfl
def BoxI (wd : World) (base bo : Nat) (e t : TypeId) (F : List Nat → List Int) {NB : Nat} (pre : List (BI NB)) (W : World) : Prop :=
  (∃ v, W.heap[bo]? = some (.cells #[v] t (0, 0)) ∧ Own .i64 e base W v (F (pre.map fun x => x.1))) ∧ Kept wd W ∧ base ≤ W.heap.size
theorem BoxI.own {wd : World} {base bo : Nat} {e t : TypeId} {F : List Nat → List Int} {NB : Nat} (hd : wd.heap.size ≤ base) (hbo : bo < base) : OwnFrom base (BoxI wd base bo e t F (NB := NB)) := by
  rintro s W W' row ⟨⟨v, h1, h2⟩, h3, h4⟩ hg hr
  refine ⟨⟨v, (hg.block bo (by omega) (fun e => by have := (hr bo e.symm).1; omega)).trans h1, World.ownsRow.kept h2 hg ?_⟩, h3.grown hg h3.size (fun k e => by have := (hr k e).1; omega), by have := hg.size; omega⟩
  rcases h2.2 with ⟨rfl, _⟩ | ⟨g', cap, cur, rfl, _, hgb, _⟩
  · exact .inl rfl
  · refine .inr fun e' => ?_
    obtain ⟨_, o, ho, hc⟩ := hr g' (by simpa [Value.ownBlock] using e'.symm)
    rw [hgb] at ho; cases ho; cases hc
theorem boxI_store {wd W w7 w1 : World} {base bo B1 B3 : Nat} {e t : TypeId} {F : List Nat → List Int} {NB : Nat} {pre : List (BI NB)} {x : BI NB} {v v' : Value} {l l' : List Int} (hd : wd.heap.size ≤ bo) (hbo : bo < base) (h1 : B1 < base) (h3 : B3 < base) (n1 : B1 ≠ bo) (n3 : B3 ≠ bo) (hsW : base ≤ W.heap.size) (hk7 : Kept W w7) (hO : w7.heap[bo]? = some (.cells #[v] t (0, 0))) (ho : Own .i64 e base w7 v l) (ho' : Own .i64 e base w1 v' l') (hg : w7.grownBy w1 v.ownBlock) (hK : Kept wd w1) (hF : F ((pre ++ [x]).map fun x => x.1) = l') :
    KeepsOthers W (w1.setCell ⟨bo, 0, none⟩ v') ∧ KpB B1 B3 W (w1.setCell ⟨bo, 0, none⟩ v') ∧ BoxI wd base bo e t F (pre ++ [x]) (w1.setCell ⟨bo, 0, none⟩ v') := by
  have hne : ∀ i, i < base → some i ≠ v.ownBlock := fun i hi => own_farN ho hi
  have hs7 := hk7.size
  have hO6 : w1.heap[bo]? = some (.cells #[v] t (0, 0)) := (hg.block bo (by omega) (hne bo hbo)).trans hO
  have hfar : ∀ i, i < base → i ≠ bo → (w1.setCell ⟨bo, 0, none⟩ v').heap[i]? = W.heap[i]? := fun i h1 h2 => (Below.heap_setCell w1 ⟨bo, 0, none⟩ v' i h2).trans ((hg.block i (by omega) (hne i h1)).trans (hk7.block i (by omega)))
  refine ⟨KeepsOthers.trans ⟨hk7.size, fun k o hk _ => blk_kept hk7 hk⟩ (KeepsOthers.trans (KeepsOthers.of_grownBy hg (own_cells ho)) (KeepsOthers.setCell _ _ _)), ⟨hfar B1 h1 n1, hfar B3 h3 n3⟩, ⟨v', blk_set hO6 0 _, ?_⟩, kept_set hK (p := ⟨bo, 0, none⟩) hd _, by have := hg.size; simp; omega⟩
  rw [hF]
  exact own_set ho' (p := ⟨bo, 0, none⟩) hbo _
theorem nplaces_c (A : Option Addr) (cap n : Nat) (xs : List Int) (K : Int) (s : ByteArray) (w : World) : Calls Tryz.prog 139 #[leafV A n cap K, .string s, .int .i64 0] w fun e w' => e = .returned (.func (.func 184) #[] #[.pointer (some ⟨w.heap.size, 0, none⟩), .pointer (some ⟨w.heap.size + 2, 0, none⟩), .pointer (some ⟨w.heap.size + 1, 0, none⟩)]) ∧ w'.heap[w.heap.size]? = some (.cells #[.slice A n cap, .int .i64 K] 61) ∧ w'.heap[w.heap.size + 1]? = some (.cells #[.string s] 9) ∧ w'.heap[w.heap.size + 2]? = some (.cells #[.int .i64 0] 3) ∧ Kept w w' := by
  go_enter Tryz.func139, Tryz.ntmps139
  go_wp2_with fail
  go_ret
  exact ⟨rfl, blk_alloc (blk_alloc (blk_new w (.cells #[.slice A n cap, .int .i64 K] 61)) _) _, blk_alloc (blk_new1 w (.cells #[.slice A n cap, .int .i64 K] 61) (.cells #[.string s] 9)) _, blk_new2 w (.cells #[.slice A n cap, .int .i64 K] 61) (.cells #[.string s] 9) (.cells #[.int .i64 0] 3), kept_alloc (kept_alloc (kept_alloc (kept_refl w) _) _) _⟩
theorem nsums_le (xs : List Int) (n : Nat) (K : Int) (s : ByteArray) : nsums xs n K s ≤ s.size + 1 := by unfold nsums; split <;> omega
theorem nsums_lt {xs : List Int} {n : Nat} {K : Int} {s : ByteArray} {q : Nat} (h : q < nsums xs n K s) : rightv xs n K = true ∧ q + n ≤ s.size ∧ 1 ≤ n ∧ n ≤ 64 ∧ 0 ≤ K ∧ K ≤ 64 := by
  unfold nsums at h
  by_cases hr : rightv xs n K = true
  · rw [if_pos hr] at h
    have hr2 := hr
    unfold rightv at hr2
    simp only [Bool.and_eq_true, decide_eq_true_eq] at hr2
    refine ⟨hr, by omega, by omega, by omega, by omega, by omega⟩
  · rw [if_neg hr] at h; omega
def cntF (xs : List Int) (n : Nat) (s : ByteArray) (l : List Nat) : List Int := l.map (missF xs n s)
theorem cntF_all (xs : List Int) (n : Nat) (K : Int) (s : ByteArray) : cntF xs n s (List.range (nsums xs n K s)) = countsv xs n K s := by
  unfold cntF nsums countsv
  split
  · rfl
  · rfl
def hitF (xs : List Int) (n : Nat) (K : Int) (s : ByteArray) (l : List Nat) : List Int := (l.filter fun i => decide (missF xs n s i ≤ K)).map fun i : Nat => (i : Int)
theorem hitF_all (xs : List Int) (n : Nat) (K : Int) (s : ByteArray) : hitF xs n K s (List.range (nsums xs n K s)) = hitsv (countsv xs n K s) K := by
  unfold hitF hitsv hitsT
  rw [← cntF_all, show (cntF xs n s (List.range (nsums xs n K s))).length = nsums xs n K s by simp [cntF]]
  congr 1
  refine List.filter_congr fun i hi => ?_
  have hi := List.mem_range.1 hi
  rw [show nth (cntF xs n s (List.range (nsums xs n K s))) i = missF xs n s i from nth_mk hi]
theorem hitF_len (xs : List Int) (n : Nat) (K : Int) (s : ByteArray) (l : List Nat) : (hitF xs n K s l).length ≤ l.length := by
  unfold hitF; rw [List.length_map]; exact List.length_filter_le _ _
theorem missM_small {xs : List Int} {n : Nat} {s : ByteArray} {i most : Nat} (h : n ≤ most) : ((missM xs n s i most : Nat) : Int) = missF xs n s i := by
  have := missv_le xs n s i
  unfold missM missF
  omega
theorem missM_le {xs : List Int} {n : Nat} {s : ByteArray} {i k : Nat} : decide (((missM xs n s i k : Nat) : Int) ≤ (k : Int)) = decide (missF xs n s i ≤ (k : Int)) := by
  unfold missM missF
  rw [Bool.eq_iff_iff, decide_eq_true_eq, decide_eq_true_eq]
  omega
set_option maxRecDepth 100000 in
set_option maxHeartbeats 8000000 in
theorem ncounts_c (A : Option Addr) (cap n : Nat) (xs : List Int) (K : Int) (s : ByteArray) (hu : U64 xs) (hl : xs.length = 4 * n) (hn : n ≤ 1000000) (hsz : s.size ≤ 900000) (w : World) (hr : Rd .u64 w A xs) : Calls Tryz.prog 81 #[leafV A n cap K, .string s] w fun e w' => ∃ v, e = .returned v ∧ Own .i64 3 w.heap.size w' v (countsv xs n K s) ∧ Kept w w' := by
  obtain ⟨i1, hif1, hy0, hy1, hy2⟩ := info_parts info_i64c
  have hm := hr.1
  have hL := blk_alloc (blk_new w (.cells #[.slice A n cap, .int .i64 K] 61)) (.cells #[.string s] 9)
  have hT := blk_new1 w (.cells #[.slice A n cap, .int .i64 K] 61) (.cells #[.string s] 9)
  have kd := kept_alloc (kept_alloc (kept_refl w) (.cells #[.slice A n cap, .int .i64 K] 61)) (.cells #[.string s] 9)
  have hO := blk_new ((w.alloc (.cells #[.slice A n cap, .int .i64 K] 61)).alloc (.cells #[.string s] 9)) (.cells #[.slice none 0 0] 24)
  have ko := kept_alloc (kept_refl ((w.alloc (.cells #[.slice A n cap, .int .i64 K] 61)).alloc (.cells #[.string s] 9))) (.cells #[.slice none 0 0] 24)
  have hsd : ((w.alloc (.cells #[.slice A n cap, .int .i64 K] 61)).alloc (.cells #[.string s] 9)).heap.size = w.heap.size + 2 := by simp
  have hall := cntF_all xs n K s
  have HALL := Lib.hid hall
  clear hall
  refine (callsIn_wide (n := 5)).1 ?_
  refine callsIn_of_wp_marks Tryz.func81 rfl trivial ?_ rfl
  refine (wpIn_wide (n := 5)).2 ?_
  simp only [Tryz.ntmps81, List.size_toArray, List.length_cons, List.length_nil, Nat.reduceAdd, Nat.reduceSub, Array.replicate_succ, Array.replicate_zero, List.push_toArray, List.append_toArray, List.nil_append, List.cons_append]
  go_wp2_with fail
  have PC := nplaces_c A cap n xs K s (((w.alloc (.cells #[.slice A n cap, .int .i64 K] 61)).alloc (.cells #[.string s] 9)).alloc (.cells #[.slice none 0 0] 24))
  rw [show (((w.alloc (.cells #[.slice A n cap, .int .i64 K] 61)).alloc (.cells #[.string s] 9)).alloc (.cells #[.slice none 0 0] 24)).heap.size = w.heap.size + 3 by simp] at PC
  refine PC.mono ?_
  rintro e wp ⟨rfl, p1, p2, p3, hkp⟩
  clear PC
  generalize (w.alloc (.cells #[.slice A n cap, .int .i64 K] 61)).alloc (.cells #[.string s] 9) = wd at *
  rw [hsd] at hO
  have hOp := blk_kept hkp hO
  have kdp := kept_trans ko hkp
  have hsp : w.heap.size + 3 < wp.heap.size := by have := blk_lt p3; omega
  have HL := Lib.hid hL
  have HT := Lib.hid hT
  have HSD := Lib.hid hsd
  have rp := hr.kept (kept_trans kd kdp)
  clear hL hT hO ko hkp
  go_wp2_with fail
  refine (wpIn_wide (n := 5)).1 ?_
  have hI : OwnFrom wp.heap.size (BoxI wd wp.heap.size (w.heap.size + 2) 3 24 (cntF xs n s) (NB := nsums xs n K s)) := BoxI.own kdp.size (by omega)
  refine wpIn_rangeFunc_ownF rfl (by decide) (gf := 184) (lb := #[.pointer (some ⟨w.heap.size + 3, 0, none⟩), .pointer (some ⟨w.heap.size + 3 + 2, 0, none⟩), .pointer (some ⟨w.heap.size + 3 + 1, 0, none⟩)]) rfl trivial (enters_of Tryz.func184 (by kernel_rfl) rfl) (nplaces_stops (5 - 1) (w.heap.size + 3) (w.heap.size + 3 + 2) (w.heap.size + 3 + 1) A cap n xs K s hu hl hn (by omega) (by decide) wp rp p1 p3 p2) kpB_t (kpB_b (by omega) (blk_lt p2)) (Below.refl _ _) (fun _ => rfl) _ (fun _ _ _ => False) hI (fun _ _ _ _ _ hs _ _ => hs) ⟨⟨_, hOp, Own.nil _ _ _ _⟩, kdp, Nat.le_refl _⟩ ?a1 ?assign ?body ?done ?stop
  case assign =>
    intro l x W K' hK
    unfold pencs
    gi_wp2
    exact hK
  case stop =>
    rintro D c pre W _ _ h _
    exact h.elim
  case done =>
    rintro D ys W hD hys ⟨⟨v, hb, ho⟩, hk, hsW⟩ hdf
    rw [hys, HALL.out] at ho
    have c3 := blk_cell hb 0
    clear hys
    have ho8 := ownsRow_putObj ho (.deferred none) hdf rfl
    have hsd := HSD.out
    have hw8 : Kept w (World.putObj W D (.deferred none)) := belowK_t (kept_trans kd hk) (belowK_b (w := w) (Nat.le_refl _) W D _ (.deferred none) (by omega) hdf rfl rfl)
    go_wp2_with fail
    refine ⟨by simp, .inl ⟨_, _, rfl, run_takeDeferred hdf, ?_⟩⟩
    exact ⟨v, by simp [results, Tryz.results81, go_sem], _, rfl, (show Own .i64 3 wp.heap.size _ v _ from ho8).less (by omega), hw8⟩
  case body =>
    rintro l pre ⟨q, hq⟩ W ⟨⟨v, hb, ho⟩, hk, hsW⟩ hlen
    obtain ⟨hrv, hqn, hn1, hn64, hK0, hK64⟩ := nsums_lt hq
    have hsd := HSD.out
    have hp2 := blk_lt p2
    have hNB := nsums_le xs n K s
    have d0 : W.cell? ⟨w.heap.size, 0, none⟩ = some (.slice A n cap) := blk_cell (blk_kept hk HL.out) 0
    have d1 : W.cell? ⟨w.heap.size, 1, none⟩ = some (.int .i64 K) := blk_cell (blk_kept hk HL.out) 1
    have d2 : W.cell? ⟨w.heap.size + 1, 0, none⟩ = some (.string s) := blk_cell (blk_kept hk HT.out) 0
    have d3 : W.cell? ⟨w.heap.size + 2, 0, none⟩ = some v := blk_cell hb 0
    have rw_ := hr.kept (kept_trans kd hk)
    have PRE := Lib.hid (⟨hb, ho⟩ : _ ∧ _)
    have HALL := 0
    dsimp only
    clear hI rp p1 p3 hOp hrv hb ho hr
    have MC := fun w1 h => misses_c A cap n xs K s q n hu hl hn (by omega) (by omega) (by omega) w1 h
    rw [missM_small (Nat.le_refl n)] at MC
    have hFs : cntF xs n s ((pre ++ [(⟨q, hq⟩ : BI (nsums xs n K s))]).map fun x => x.1) = cntF xs n s (pre.map fun x => x.1) ++ [missF xs n s q] := by simp [cntF]
    have hFl : (cntF xs n s (pre.map fun x => x.1)).length = pre.length := by simp [cntF]
    have HF := Lib.hid hFs
    have HFL := Lib.hid hFl
    clear hFs hFl
    generalize missF xs n s q = mz at *
    gi_wp2_with fail
    have ks_0 := fun s => kw_cell s d0
    have ks_1 := fun s => kw_cell s d1
    have ks_2 := fun s => kw_cell s d2
    have ks_3 := fun s => kw_cell s d3
    refine rd_region_float (S := fun w' => ∃ s : KW W, w' = s.val) 7 9 (by kernel_rfl) (by kernel_rfl) (by kernel_rfl) (by rintro ⟨a, w, h⟩; exact h) (fun _ _ _ _ h => h) ⟨⟨_, kept_drew (kept_refl _)⟩, rfl⟩ ?_
    simp only [List.take_succ_cons, List.take_zero, List.drop_succ_cons, List.drop_zero]
    repeat (refine float_cons (by rfl) (by rintro _ ⟨s, rfl⟩; go_simp; with_reducible rfl) ?_; simp only [Act.put, List.setIfInBounds_toArray, List.set_cons_zero, List.set_cons_succ])
    refine float_nil ?_
    refine early_cons (by rintro ⟨a, w, h⟩; exact h) (by rfl) ?_
    go_wp2_with fail
    refine (MC _ (rw_.kept (kept_drew (kept_refl _)))).mono ?_
    rintro e w6 ⟨rfl, hk6⟩
    go_wp2_with fail
    have hk7 := kept_trans (kept_drew (kept_refl W)) hk6
    refine eQ_mk ⟨⟨_, hk7⟩, rfl⟩ ?_
    refine early_cons (by rintro ⟨a, w, h⟩; exact h) (by rfl) ?_
    go_wp2_with fail
    refine eQ_mk ⟨⟨_, kept_alloc hk7 _⟩, rfl⟩ ?_
    refine early_nil ?_
    clear ks_0 ks_1 ks_2 ks_3 d0 d1 d2 d3 MC rw_
    obtain ⟨hb, ho⟩ := PRE.out
    have ho7 := Own.kept ho hk7
    have hb7 := blk_kept hk7 hb
    have kd7 := kept_trans hk hk7
    have hs7 := hk7.size
    have hlen2 := HFL.out
    go_wp2_with (at_builtin; refine app_one Tryz.underlying24 hif1 hy0 hy1 hy2 (by decide) rfl rfl rfl rfl rfl ho7 ?c1 ?c2 kd7 ?c3 ?_)
    case c1 => rw [hlen2]; omega
    case c2 => omega
    case c3 => exact Nat.le_trans kdp.size (Nat.le_refl _)
    intro v' w1 o1 hg1 k1
    have hb1 := grown_blk hg1 hb7 (own_farN ho7 (by omega))
    have E6 : w1.cell? ⟨w.heap.size + 2, 0, none⟩ = some v := blk_cell hb1 0
    have F6 := blk_frozen hb1 0
    obtain ⟨A1, c1, hv1, _, _, _⟩ := o1.rd
    rw [List.length_append, List.length_singleton] at hv1
    subst hv1
    have HO := Lib.hid (⟨o1, hg1, k1⟩ : _ ∧ _ ∧ _)
    clear o1 hg1 k1
    go_wp2_with fail
    gi_wp2_with fail
    exact boxI_store (by omega) (by omega) (by omega) (by omega) (by omega) (by omega) hsW hk7 hb7 ho7 HO.out.1 HO.out.2.1 HO.out.2.2 HF.out
set_option maxRecDepth 100000 in
set_option maxHeartbeats 8000000 in
theorem nfind_c (A : Option Addr) (cap n : Nat) (xs : List Int) (K : Int) (s : ByteArray) (hu : U64 xs) (hl : xs.length = 4 * n) (hn : n ≤ 1000000) (hsz : s.size ≤ 900000) (w : World) (hr : Rd .u64 w A xs) : Calls Tryz.prog 79 #[leafV A n cap K, .string s] w fun e w' => ∃ v, e = .returned v ∧ Own .i64 3 w.heap.size w' v (hitsv (countsv xs n K s) K) ∧ Kept w w' := by
  obtain ⟨i1, hif1, hy0, hy1, hy2⟩ := info_parts info_i64c
  have hm := hr.1
  have hL := blk_alloc (blk_new w (.cells #[.slice A n cap, .int .i64 K] 61)) (.cells #[.string s] 9)
  have hT := blk_new1 w (.cells #[.slice A n cap, .int .i64 K] 61) (.cells #[.string s] 9)
  have kd := kept_alloc (kept_alloc (kept_refl w) (.cells #[.slice A n cap, .int .i64 K] 61)) (.cells #[.string s] 9)
  have hO := blk_new ((w.alloc (.cells #[.slice A n cap, .int .i64 K] 61)).alloc (.cells #[.string s] 9)) (.cells #[.slice none 0 0] 24)
  have ko := kept_alloc (kept_refl ((w.alloc (.cells #[.slice A n cap, .int .i64 K] 61)).alloc (.cells #[.string s] 9))) (.cells #[.slice none 0 0] 24)
  have hsd : ((w.alloc (.cells #[.slice A n cap, .int .i64 K] 61)).alloc (.cells #[.string s] 9)).heap.size = w.heap.size + 2 := by simp
  have hall := hitF_all xs n K s
  have HALL := Lib.hid hall
  clear hall
  refine (callsIn_wide (n := 5)).1 ?_
  refine callsIn_of_wp_marks Tryz.func79 rfl trivial ?_ rfl
  refine (wpIn_wide (n := 5)).2 ?_
  simp only [Tryz.ntmps79, List.size_toArray, List.length_cons, List.length_nil, Nat.reduceAdd, Nat.reduceSub, Array.replicate_succ, Array.replicate_zero, List.push_toArray, List.append_toArray, List.nil_append, List.cons_append]
  go_wp2_with fail
  have PC := nplaces_c A cap n xs K s (((w.alloc (.cells #[.slice A n cap, .int .i64 K] 61)).alloc (.cells #[.string s] 9)).alloc (.cells #[.slice none 0 0] 24))
  rw [show (((w.alloc (.cells #[.slice A n cap, .int .i64 K] 61)).alloc (.cells #[.string s] 9)).alloc (.cells #[.slice none 0 0] 24)).heap.size = w.heap.size + 3 by simp] at PC
  refine PC.mono ?_
  rintro e wp ⟨rfl, p1, p2, p3, hkp⟩
  clear PC
  generalize (w.alloc (.cells #[.slice A n cap, .int .i64 K] 61)).alloc (.cells #[.string s] 9) = wd at *
  rw [hsd] at hO
  have hOp := blk_kept hkp hO
  have kdp := kept_trans ko hkp
  have hsp : w.heap.size + 3 < wp.heap.size := by have := blk_lt p3; omega
  have HL := Lib.hid hL
  have HT := Lib.hid hT
  have HSD := Lib.hid hsd
  have rp := hr.kept (kept_trans kd kdp)
  clear hL hT hO ko hkp
  go_wp2_with fail
  refine (wpIn_wide (n := 5)).1 ?_
  have hI : OwnFrom wp.heap.size (BoxI wd wp.heap.size (w.heap.size + 2) 3 24 (hitF xs n K s) (NB := nsums xs n K s)) := BoxI.own kdp.size (by omega)
  refine wpIn_rangeFunc_ownF rfl (by decide) (gf := 184) (lb := #[.pointer (some ⟨w.heap.size + 3, 0, none⟩), .pointer (some ⟨w.heap.size + 3 + 2, 0, none⟩), .pointer (some ⟨w.heap.size + 3 + 1, 0, none⟩)]) rfl trivial (enters_of Tryz.func184 (by kernel_rfl) rfl) (nplaces_stops (5 - 1) (w.heap.size + 3) (w.heap.size + 3 + 2) (w.heap.size + 3 + 1) A cap n xs K s hu hl hn (by omega) (by decide) wp rp p1 p3 p2) kpB_t (kpB_b (by omega) (blk_lt p2)) (Below.refl _ _) (fun _ => rfl) _ (fun _ _ _ => False) hI (fun _ _ _ _ _ hs _ _ => hs) ⟨⟨_, hOp, Own.nil _ _ _ _⟩, kdp, Nat.le_refl _⟩ ?a1 ?assign ?body ?done ?stop
  case assign =>
    intro l x W K' hK
    unfold pencs
    gi_wp2
    exact hK
  case stop =>
    rintro D c pre W _ _ h _
    exact h.elim
  case done =>
    rintro D ys W hD hys ⟨⟨v, hb, ho⟩, hk, hsW⟩ hdf
    rw [hys, HALL.out] at ho
    have c3 := blk_cell hb 0
    clear hys
    have ho8 := ownsRow_putObj ho (.deferred none) hdf rfl
    have hsd := HSD.out
    have hw8 : Kept w (World.putObj W D (.deferred none)) := belowK_t (kept_trans kd hk) (belowK_b (w := w) (Nat.le_refl _) W D _ (.deferred none) (by omega) hdf rfl rfl)
    go_wp2_with fail
    refine ⟨by simp, .inl ⟨_, _, rfl, run_takeDeferred hdf, ?_⟩⟩
    exact ⟨v, by simp [results, Tryz.results79, go_sem], _, rfl, (show Own .i64 3 wp.heap.size _ v _ from ho8).less (by omega), hw8⟩
  case body =>
    rintro l pre ⟨q, hq⟩ W ⟨⟨v, hb, ho⟩, hk, hsW⟩ hlen
    obtain ⟨hrv, hqn, hn1, hn64, hK0, hK64⟩ := nsums_lt hq
    have hsd := HSD.out
    have hp2 := blk_lt p2
    have hNB := nsums_le xs n K s
    have d0 : W.cell? ⟨w.heap.size, 0, none⟩ = some (.slice A n cap) := blk_cell (blk_kept hk HL.out) 0
    have d1 : W.cell? ⟨w.heap.size, 1, none⟩ = some (.int .i64 K) := blk_cell (blk_kept hk HL.out) 1
    have d2 : W.cell? ⟨w.heap.size + 1, 0, none⟩ = some (.string s) := blk_cell (blk_kept hk HT.out) 0
    have d3 : W.cell? ⟨w.heap.size + 2, 0, none⟩ = some v := blk_cell hb 0
    have rw_ := hr.kept (kept_trans kd hk)
    have PRE := Lib.hid (⟨hb, ho⟩ : _ ∧ _)
    have HALL := 0
    dsimp only
    clear hI rp p1 p3 hOp hrv hb ho hr
    obtain ⟨k, rfl⟩ : ∃ k : Nat, K = (k : Int) := ⟨K.toNat, by omega⟩
    have MC := fun w1 h => misses_c A cap n xs (k : Int) s q k hu hl hn (by omega) (by omega) (by omega) w1 h
    have hFs : hitF xs n (k : Int) s ((pre ++ [(⟨q, hq⟩ : BI (nsums xs n (k : Int) s))]).map fun x => x.1) = hitF xs n (k : Int) s (pre.map fun x => x.1) ++ (if missF xs n s q ≤ (k : Int) then [(q : Int)] else []) := by
      unfold hitF
      rw [List.map_append, List.filter_append, List.map_append]
      congr 1
      by_cases h : missF xs n s q ≤ (k : Int) <;> simp [h]
    have hFl := hitF_len xs n (k : Int) s (pre.map fun x => x.1)
    rw [List.length_map] at hFl
    have hcmp := missM_le (xs := xs) (n := n) (s := s) (i := q) (k := k)
    have hcmpN : decide (missM xs n s q k ≤ k) = decide (missF xs n s q ≤ (k : Int)) := by rw [← hcmp, Bool.eq_iff_iff, decide_eq_true_eq, decide_eq_true_eq]; omega
    have HF := Lib.hid hFs
    clear hFs
    generalize missF xs n s q = mz at *
    generalize missM xs n s q k = mm at *
    by_cases hle : mz ≤ (k : Int)
    · rw [decide_eq_true hle] at hcmp hcmpN
      gi_wp2_with fail
      have ks_0 := fun s => kw_cell s d0
      have ks_1 := fun s => kw_cell s d1
      have ks_2 := fun s => kw_cell s d2
      refine rd_region_kept (by kernel_rfl) (by kernel_rfl) (by kernel_rfl) (by rintro ⟨a, w, h⟩; exact h) ?_
      repeat (first | go_big_quiet_skip | (go_big_quiet_want; go_big_quiet_op; first | go_big_quiet_on | (apply Exists.intro; refine ⟨fun s => ?_, ?_⟩; (first | (go_at_call 140; exact call_kept (MC _ (rw_.kept s.kept)))); go_big_quiet_on)))
      refine wpQuiet_nil ?_
      rintro w7 ⟨⟨_, hk7⟩, rfl⟩
      clear ks_0 ks_1 ks_2 d0 d1 d2 d3 MC rw_
      obtain ⟨hb, ho⟩ := PRE.out
      have ho7 := Own.kept ho hk7
      have hb7 := blk_kept hk7 hb
      have kd7 := kept_trans hk hk7
      have hs7 := hk7.size
      have D3 : w7.cell? ⟨w.heap.size + 2, 0, none⟩ = some v := blk_cell hb7 0
      have hF := HF.out
      rw [if_pos (by omega)] at hF
      have HF2 := Lib.hid hF
      clear hF HF hle
      gi_wp2_with (gi_at_builtin; refine Hid.out ?_)
      refine Lib.hid ?_
      refine bridge_list (by rintro ⟨a, w, h⟩; exact h) _ _ _ (by kernel_rfl) ?_
      refine app_one Tryz.underlying24 hif1 hy0 hy1 hy2 (by decide) rfl rfl rfl rfl rfl ho7 ?c1 ?c2 kd7 ?c3 ?_
      case c1 => omega
      case c2 => omega
      case c3 => exact Nat.le_trans kdp.size (Nat.le_refl _)
      intro v' w1 o1 hg1 k1
      have hb1 := grown_blk hg1 hb7 (own_farN ho7 (by omega))
      have E6 : w1.cell? ⟨w.heap.size + 2, 0, none⟩ = some v := blk_cell hb1 0
      have F6 := blk_frozen hb1 0
      obtain ⟨A1, c1, hv1, _, _, _⟩ := o1.rd
      rw [List.length_append, List.length_singleton] at hv1
      subst hv1
      have HO := Lib.hid (⟨o1, hg1, k1⟩ : _ ∧ _ ∧ _)
      clear o1 hg1 k1
      go_wp2_with fail
      gi_wp2_with fail
      exact boxI_store (by omega) (by omega) (by omega) (by omega) (by omega) (by omega) hsW hk7 hb7 ho7 HO.out.1 HO.out.2.1 HO.out.2.2 HF2.out
    · rw [decide_eq_false hle] at hcmp hcmpN
      gi_wp2_with fail
      have ks_0 := fun s => kw_cell s d0
      have ks_1 := fun s => kw_cell s d1
      have ks_2 := fun s => kw_cell s d2
      refine rd_region_kept (by kernel_rfl) (by kernel_rfl) (by kernel_rfl) (by rintro ⟨a, w, h⟩; exact h) ?_
      repeat (first | go_big_quiet_skip | (go_big_quiet_want; go_big_quiet_op; first | go_big_quiet_on | (apply Exists.intro; refine ⟨fun s => ?_, ?_⟩; (first | (go_at_call 140; exact call_kept (MC _ (rw_.kept s.kept)))); go_big_quiet_on)))
      refine wpQuiet_nil ?_
      rintro w7 ⟨⟨_, hk7⟩, rfl⟩
      clear ks_0 ks_1 ks_2 d0 d1 d2 d3 MC rw_
      obtain ⟨hb, ho⟩ := PRE.out
      have ho7 := Own.kept ho hk7
      have hb7 := blk_kept hk7 hb
      have kd7 := kept_trans hk hk7
      have hs7 := hk7.size
      have D3 : w7.cell? ⟨w.heap.size + 2, 0, none⟩ = some v := blk_cell hb7 0
      have hF := HF.out
      rw [if_neg (by omega), List.append_nil] at hF
      have HF2 := Lib.hid hF
      clear hF HF hle
      gi_wp2_with fail
      exact ⟨⟨hk7.size, fun i o hi _ => blk_kept hk7 hi⟩, ⟨hk7.block _ (by omega), hk7.block _ (by omega)⟩, ⟨v, hb7, by rw [HF2.out]; exact ho7⟩, kd7, Nat.le_trans hsW hs7⟩
end Go.Proofs.YtdejablhpljdfaaGreat
namespace Go.Proofs.YtdejablhpljdfaaGreat
open Go.RowKit BG
attribute [local go_sem ↓] Go.wp_at_zero Go.wp_at_succ
set_option linter.unusedVariables false
theorem nil_slice_eq (A : Option Addr) (n c : Nat) (w : World) : (binOp .eql 59 (.slice A n c) (.slice none 0 0)).run Tryz.prog w = .ok (.bool A.isNone) w := by
  cases A with
  | none => kernel_rfl
  | some a => kernel_rfl
theorem rd_news {w : World} {ad : Addr} {xs : List Int} (h : Rd .u64 w (some ad) xs) : ∀ j u, (xs.map (Value.int .u64))[j]? = some u → w.cell? (ad.add j) = some u := by
  intro j u hu
  rw [List.getElem?_map] at hu
  by_cases hj : j < xs.length
  · obtain ⟨ad', e, hc⟩ := h.at_ hj
    cases e
    rw [List.getElem?_eq_getElem hj, Option.map_some] at hu
    rw [hc, nth_lt hj]; exact hu
  · rw [List.getElem?_eq_none (by omega)] at hu; cases hu
set_option maxRecDepth 100000 in
set_option maxHeartbeats 2000000 in
theorem cloneC_c (ad : Addr) (cap m : Nat) (xs : List Int) (hl : xs.length = 4 * m) (hm : m ≤ 1000000) (w : World) (hr : Rd .u64 w (some ad) xs) : Calls Tryz.prog 72 #[.slice (some ad) m cap] w fun e w' => ∃ g c, e = .returned (.slice (some ⟨g, 0, none⟩) m c) ∧ w'.ownsRow w.heap.size 110 4 (.slice (some ⟨g, 0, none⟩) m c) m (xs.map (Value.int .u64)) ∧ Kept w w' := by
  obtain ⟨i1, hif1, hy0, hy1, hy2⟩ := info_parts info_class
  have hn := nil_slice_eq (some ad) m cap w
  have hown : (w.alloc (.cells #[] 110)).ownsRow w.heap.size 110 4 (.slice (some ⟨w.heap.size, 0, none⟩) 0 0) 0 [] := ⟨rfl, .inr ⟨w.heap.size, 0, #[], rfl, Nat.le_refl _, blk_new w _, Nat.le_refl _, by unfold maxLen; omega, rfl, rfl⟩⟩
  have ka := kept_alloc (kept_refl w) (.cells #[] 110)
  have rda := hr.kept ka
  go_enter Tryz.func72, Tryz.ntmps72
  go_wp2_with (at_builtin; refine wpList_append_own _ rfl _ _ 59 rfl w.heap.size 110 i1 _ 4 32 Tryz.underlying59 hif1 hy0 hy1 hy2 rfl (by decide) _ 0 _ rfl hown ad m cap (xs.map (Value.int .u64)) rfl ?c0 (rd_news rda) ?c1 ?c2 ?c3 ?c4 ?_)
  case c0 => rw [List.length_map]; omega
  case c1 => intro u hu; obtain ⟨z, _, rfl⟩ := List.mem_map.1 hu; rfl
  case c2 => unfold maxLen; omega
  case c3 => omega
  case c4 => simp
  intro v' w1 o1 hg1 hnil
  have hk := kept_grow ka hg1 (by rintro k h; cases h; exact Nat.le_refl _)
  have hv : ∃ g c, v' = .slice (some ⟨g, 0, none⟩) m c := by
    rcases o1.2 with ⟨h, _⟩ | ⟨g, c, cur, h, _⟩
    · exact (hnil h).elim
    · exact ⟨g, c, h⟩
  obtain ⟨g, c, rfl⟩ := hv
  clear hnil hg1 hown rda ka
  go_wp2_with fail
  go_ret
  exact ⟨g, c, rfl, o1, hk⟩
def fstv (p : Cl → Bool) (xs : List Int) (m : Nat) : Int :=
  match (List.range m).find? fun j => p (cls xs j) with
  | some j => (j : Int)
  | none => -1
theorem fstv_at {p : Cl → Bool} {xs : List Int} {m j : Nat} (hj : j < m) (h : p (cls xs j) = true) (hm : ∀ q, q < j → p (cls xs q) = false) : fstv p xs m = j := by
  unfold fstv
  rw [find_at (p := fun j => p (cls xs j)) hj h hm]
theorem fstv_no {p : Cl → Bool} {xs : List Int} {m : Nat} (hm : ∀ q, q < m → p (cls xs q) = false) : fstv p xs m = -1 := by
  unfold fstv
  rw [find_no (p := fun j => p (cls xs j)) hm]
set_option maxRecDepth 100000 in
set_option maxHeartbeats 2000000 in
theorem idxf_c (F : FuncId) (bd : Array Value) (hent : ∀ args w, (callFunc F args).run Tryz.prog w = .ok (.enter F args) w) (p : Cl → Bool) (A : Option Addr) (cap m : Nat) (xs : List Int) (hl : xs.length = 4 * m) (hm : m ≤ 1000000) (w : World) (hr : Rd .u64 w A xs) (hcall : ∀ j w', j < m → Kept w w' → Calls Tryz.prog F (#[(cls xs j).v] ++ bd) w' (Ret (.bool (p (cls xs j))) w')) :
    Calls Tryz.prog 227 #[.slice A m cap, .func (.func F) #[] bd] w (Ret (.int .i64 (fstv p xs m)) w) := by
  have hat := fun j => fstv_at (p := p) (xs := xs) (m := m) (j := j)
  have hno := fstv_no (p := p) (xs := xs) (m := m)
  have HAT := Lib.hid hat
  have HNO := Lib.hid hno
  generalize fstv p xs m = fv at *
  clear hat hno
  go_enter Tryz.func227, Tryz.ntmps227
  go_wp2_with fail
  go_loopw [8] (fun i wr => ∃ j : Nat, j ≤ m ∧ i = .int .i64 j ∧ Kept w wr ∧ Hid (∀ q, q < j → p (cls xs q) = false)) (fun i _ => m - (intOf i).toNat)
  case atStart => exact ⟨0, Nat.zero_le _, rfl, kept_refl _, fun q hq => absurd hq (Nat.not_lt_zero q)⟩
  case round =>
    obtain ⟨j, hj, rfl, hkw, HQ⟩ := hrel
    by_cases hlt : j < m
    · obtain ⟨ad, rfl, d0, d1, d2, d3⟩ := (hr.kept hkw).cl hl hlt
      have C := hcall j wr hlt hkw
      have HA := Lib.hid (HAT.out j hlt)
      have HQ2 : Hid (p (cls xs j) = false → Hid (∀ q, q < j + 1 → p (cls xs q) = false)) := fun ho q hq => by
        rcases Nat.lt_or_ge q j with h | h
        · exact HQ q h
        · obtain rfl : q = j := by omega
          exact ho
      clear HAT HNO
      generalize hpb : p (cls xs j) = b at *
      clear hpb
      generalize cls xs j = x at *
      obtain ⟨x0, x1, x2, x3⟩ := x
      dsimp only [Cl.v] at d0 d1 d2 d3 C
      go_wp2_with fail
      refine C.mono ?_
      rintro e w1 ⟨rfl, hk1⟩
      have hk := kept_trans hkw hk1
      clear C d0 d1 d2 d3
      cases b
      · have H3 := HQ2.out (by first | rfl | trivial)
        go_wp2_with fail
        exact ⟨⟨j + 1, by omega, by go_num, hk, H3⟩, by simp [intOf]; omega⟩
      · have H3 := HA.out (by first | rfl | trivial) HQ.out
        subst H3
        go_wp2_with fail
        go_ret
        exact ⟨rfl, hk⟩
    · obtain rfl : j = m := by omega
      have H3 := HNO.out HQ.out
      subst H3
      clear HAT HNO hcall
      go_wp2_with fail
      go_ret
      exact ⟨rfl, hkw⟩
end Go.Proofs.YtdejablhpljdfaaGreat
