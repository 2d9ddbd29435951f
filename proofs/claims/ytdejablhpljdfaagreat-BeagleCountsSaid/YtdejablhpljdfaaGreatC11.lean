/-
  Texts of one claim, joined: Bridge, WBlk5, WBlk6, WBlk7, TNaive2.
-/
import Derived.RangeFuncNested
import Derived.RangeFuncBound
import Derived.RangeFuncCalls
import Derived.RangeFuncLeaves
import Derived.RangeFuncFrom
import Derived.OwnWalkIn
import Derived.OrdersIn
import Derived.TacticsInMore
import Derived.LoopNIn
import Derived.LoopIn
import Derived.Shelf.Abstract
import Derived.Shelf.RegionOpen
import Derived.WalkKit
import Derived.Test.YtdejablhpljdfaaGreatC02
import Derived.Test.YtdejablhpljdfaaGreatC10
import Derived.Test.YtdejablhpljdfaaGreatC09
namespace Go.Proofs.YtdejablhpljdfaaGreat
open Go.RowKit BG
set_option linter.unusedVariables false
section
variable {P : Program} {ops : Array Oper} {Q : Exit → Act → World → Prop} {n l : Nat}
abbrev RoundFence (l : Nat) : Fence := Fence.wide.inRound l
theorem rowsIn_wide {row : String} {args : Array Value} {w : World} {R : Value → World → Prop} (h : Rows P row args w R) : RowsIn Fence.wide n P row args w R :=
  fun c cs _ => let ⟨v, w', r, s⟩ := h c cs; ⟨v, w', r, stepsIn_wide.2 s⟩
theorem bridge_op {o : Oper} {a : Act} {w : World} {K : Act → World → Prop} (hd : ∀ c, o.op ≠ .defer c) (h : o.wp P a w K Q) : o.wpIn (RoundFence l) n P a w K Q := by
  refine ⟨fun _ _ => trivial, ?_⟩
  rw [Fence.inRound_round, Oper.semAt_some l _ o hd]
  unfold Oper.wp at h
  generalize (execOp a.eval o).run P w = r at *
  cases r with
  | ok n w' =>
    cases n <;> simp only [Oper.upon, Oper.uponIn] at h ⊢ <;>
      first
        | exact h
        | exact ⟨fun h => (by cases h), CallsIn.inRound l (callsIn_wide.2 h)⟩
        | exact ⟨fun h => (by cases h), rowsIn_wide h⟩
  | halt x w' => cases x <;> simp only [Oper.upon, Oper.uponIn] at h ⊢ <;> exact h
def noDefer (o : Oper) : Bool := match o.op with | .defer _ => false | _ => true
theorem noDefer_spec {o : Oper} (h : noDefer o = true) : ∀ c, o.op ≠ .defer c := by
  intro c e
  unfold noDefer at h
  rw [e] at h
  cases h
theorem bridge_list (hq : ¬ LetsOut Q) : ∀ (L : List Oper) (a : Act) (w : World), L.all noDefer = true → wpList P ops Q L a w → wpListIn (RoundFence l) n P ops Q L a w := by
  intro L
  induction L with
  | nil => intro a w _ h; exact h
  | cons o L ih =>
    intro a w hd h
    rw [List.all_cons, Bool.and_eq_true] at hd
    unfold wpList at h
    unfold wpListIn
    by_cases hw : Region.wanted o (yielded ops a.tmps) = true
    · rw [if_pos hw] at h ⊢
      rcases h with h | h
      · exact Oper.wpIn_mono (fun a w h => ih a w hd.2 h) (bridge_op (noDefer_spec hd.1) h)
      · exact absurd h.2 hq
    · rw [if_neg hw] at h ⊢
      exact ⟨fun _ _ => trivial, ih _ _ hd.2 h⟩
theorem bridge_opAt (hq : ¬ LetsOut Q) (hd : ops.all noDefer = true) {i : Nat} {K : Act → World → Prop} {a : Act} {w : World} (h : wpOp P ops Q i K a w) : wpOpIn (RoundFence l) n P ops Q i K a w := by
  unfold wpOp at h
  unfold wpOpIn
  split
  · rename_i ho; rw [ho] at h; exact h
  · rename_i o ho
    rw [ho] at h
    by_cases hw : Region.wanted o (yielded ops a.tmps) = true
    · simp only [hw, if_true] at h ⊢
      rcases h with h | h
      · have hdo : noDefer o = true := by
          rw [Array.all_eq_true] at hd
          obtain ⟨hi, e⟩ := Array.getElem?_eq_some_iff.1 ho
          rw [← e]; exact hd i hi
        exact bridge_op (noDefer_spec hdo) h
      · exact absurd h.2 hq
    · simp only [hw] at h ⊢
      exact ⟨fun _ _ => trivial, h⟩
theorem bridge_any (hq : ¬ LetsOut Q) (hd : ops.all noDefer = true) {md : Region.Mode} : ∀ (f : Nat) (listed : Array Bool) (a : Act) (w : World), wpAny P md ops Q f listed a w → wpAnyIn (RoundFence l) n P md ops Q f listed a w := by
  intro f
  induction f with
  | zero => intro listed a w h; exact h
  | succ f ih =>
    intro listed a w h
    exact ⟨h.1, fun i hi => wpOpIn_mono (fun a w h => ih _ a w h) (bridge_opAt hq hd (h.2 i hi))⟩
end
section
variable {P : Program} {n r : Nat}
theorem any_region_tail {Q : Exit → Act → World → Prop} {a : Act} {w : World} {l : List Oper} (n : Nat) (hB : Region.lexTailB .any l.toArray n = true)
    (h : wpQuiet P l.toArray (fun w' => ∃ s : KW w, w' = s.val) (fun a' => ∀ w', (∃ s : KW w, w' = s.val) → wpList P l.toArray Q (l.drop n) a' w') (l.take n) a) : wpAny P .any l.toArray Q l.toArray.size (Array.replicate l.toArray.size false) a { w with drawn := w.drawn + 1 } := by
  simp only [Region.lexTailB, Bool.and_eq_true, decide_eq_true_eq] at hB
  obtain ⟨⟨⟨⟨hsel, hn⟩, hs⟩, hc⟩, hlex⟩ := hB
  have hn' : n < l.length := by simpa using hn
  have htl : (l.take n).length = n := by simp; omega
  have hdl : (l.drop n).length = l.toArray.size - n := by simp
  have inv0 : HeadInv .any l.toArray n (Array.replicate l.toArray.size false) :=
    ⟨by simp, fun j oj _ hl => (by rw [getD_replicate_false] at hl; cases hl), fun t _ ht => getD_in (by simpa using ht) (getD_replicate_false _ _)⟩
  have H := head_lex (md := .any) (g := l.toArray.size - n) hsel hs hc hn (l.take n) 0 _ a (fun j hj => by
    have hj' : j < n := by rw [htl] at hj; exact hj
    simp [hj']) (by simpa using htl) inv0 (by rw [htl]; exact hlex) h
  have := any_of_head (Q' := Q) (g := l.toArray.size - n) (fun listed a' w' hw' hL => by
    have := wpAny_of_seq (md := .any) (Q' := Q) (l.drop n) n listed a' w' (fun j => by simp [List.getElem?_drop]) (by rw [hdl]; exact hL.1) (hL.2 w' hw')
    rwa [hdl] at this) _ _ _ { w with drawn := w.drawn + 1 } ⟨⟨w.drew, kept_drew (kept_refl w)⟩, rfl⟩ H
  rw [htl, show n + (l.toArray.size - n) = l.toArray.size from by omega] at this
  exact this
theorem any_region_quiet {C : World → Prop} {Q : Exit → Act → World → Prop} {a : Act} {w : World} {l : List Oper} (hB : Region.lexB .any l.toArray = true) (hC : C { w with drawn := w.drawn + 1 })
    (h : wpQuiet P l.toArray C (fun a' => ∀ w', C w' → Q .normal a' w') l a) : wpAny P .any l.toArray Q l.toArray.size (Array.replicate l.toArray.size false) a { w with drawn := w.drawn + 1 } := by
  simp only [Region.lexB, Bool.and_eq_true] at hB
  refine wpAny_of_quiet (Q := fun a' => ∀ w', C w' → Q .normal a' w') (fun _ w' hw' h => h w' hw') _ _ _ _ hC ?_
  have := wpAnyQ_lex (C := C) (md := .any) hB.1 l 0 (Array.replicate l.toArray.size false) a (by simp) (by simpa using hB.2) h
  simpa using this
theorem rd_region_kept {id : Nat} {Q : Exit → Act → World → Prop} {a : Act} {w : World} {l : List Oper} (hm : P.follows .mixedOrders = true) (hB : Region.lexB .any l.toArray = true) (hd : l.toArray.all noDefer = true) (hq : ¬ LetsOut Q)
    (h : wpQuiet P l.toArray (fun w' => ∃ s : KW w, w' = s.val) (fun a' => ∀ w', (∃ s : KW w, w' = s.val) → Q .normal a' w') l a) : (Code.region id l.toArray true).wpIn (RoundFence r) n P Q a w :=
  wpIn_region_any hm (bridge_any hq hd _ _ _ _ (any_region_quiet (C := fun w' => ∃ s : KW w, w' = s.val) hB ⟨⟨w.drew, kept_drew (kept_refl w)⟩, rfl⟩ h))
end
section
variable {P : Program} {ops : Array Oper} {md : Region.Mode} {C : World → Prop}
def sinkFrom (md : Region.Mode) (ops : Array Oper) (s n : Nat) : Bool :=
  (List.range n).all fun i => decide (i < s) || (List.range (n + 1)).any fun j => decide (i < j) && Region.waitsFor md ops j i
def chainFrom (md : Region.Mode) (ops : Array Oper) (n : Nat) : Bool :=
  (List.range ops.size).all fun t => decide (t ≤ n) || (List.range t).any fun j => decide (n ≤ j) && Region.waitsFor md ops t j
theorem tail_waits_from {s n : Nat} {listed : Array Bool} (hs : sinkFrom md ops s n = true) (hc : chainFrom md ops n = true) (hn : n < ops.size) (inv : HeadInv md ops n listed) :
    ∀ (d i : Nat), n - i = d → s ≤ i → i < n → listed.getD i true = false → ∀ t, n ≤ t → t ∉ Region.ready md ops listed := by
  intro d
  induction d using Nat.strongRecOn with
  | _ d ih =>
    intro i hd hsi hi hun t ht hr
    obtain ⟨_, ot, hot, hall⟩ := mem_ready.1 hr
    have htlt : t < ops.size := (Array.getElem?_eq_some_iff.1 hot).1
    by_cases htn : t = n
    · subst htn
      have h1 := List.all_eq_true.1 hs i (List.mem_range.2 hi)
      rw [Bool.or_eq_true, decide_eq_true_eq] at h1
      obtain ⟨j, hj, hj2⟩ := List.any_eq_true.1 (h1.resolve_left (by omega))
      simp only [Bool.and_eq_true, decide_eq_true_eq] at hj2
      obtain ⟨oj, hoj, e, he, hb, hon⟩ := Region.waitsFor_spec hj2.2
      have hjle : j ≤ t := by have := List.mem_range.1 hj; omega
      by_cases hjt : j = t
      · subst hjt
        have : oj = ot := Option.some.inj (hoj.symm.trans hot)
        subst this
        have h2 := hall e he hb
        rw [hon, getD_both hun] at h2
        cases h2
      · cases hl : listed.getD j false with
        | true =>
          have h2 := inv.closed j oj hoj hl e he hb
          rw [hon, getD_both hun] at h2
          cases h2
        | false =>
          have hjs : j < listed.size := by rw [inv.size]; omega
          exact ih (t - j) (by omega) j rfl (by omega) (by omega) (getD_in hjs hl) t (Nat.le_refl _) hr
    · have h1 := List.all_eq_true.1 hc t (List.mem_range.2 htlt)
      simp only [Bool.or_eq_true, decide_eq_true_eq] at h1
      rcases h1 with h1 | h1
      · omega
      · obtain ⟨j, hj, hj2⟩ := List.any_eq_true.1 h1
        simp only [Bool.and_eq_true, decide_eq_true_eq] at hj2
        have hjt := List.mem_range.1 hj
        obtain ⟨o', ho', e, he, hb, hon⟩ := Region.waitsFor_spec hj2.2
        have : o' = ot := Option.some.inj (ho'.symm.trans hot)
        subst this
        have h2 := hall e he hb
        rw [hon, getD_both (inv.tail j hj2.1 (by omega))] at h2
        cases h2
theorem head_first_from {s n i : Nat} {oi : Oper} {v : Value} {L : Array Bool → Act → Prop} (hi : ops[i]? = some oi) (hsel : ∀ (j : Nat) (o : Oper) cs b, ops[j]? = some o → o.op ≠ .select cs b)
    (hs : sinkFrom md ops s n = true) (hc : chainFrom md ops n = true) (hn : n < ops.size) (hsi : s ≤ i) (hin : i < n) (hdone : ∀ listed a, L listed a → ∀ j ∈ Region.ready md ops listed, n ≤ j) :
    ∀ (f : Nat) (listed : Array Bool) (a : Act), HeadInv md ops n listed →
      (∀ j oj, ops[j]? = some oj → j ≠ i → listed.getD j true = false → (∀ e ∈ oj.after, Region.binds md e = true → e.on ≠ i) → oi.apart ops oj = true) →
      i ∈ Region.ready md ops listed → YieldsIn P ops C oi v a →
      anyHead P md ops C n L f (listed.setIfInBounds i true) (a.put oi.dst v) → anyHead P md ops C n L (f + 1) listed a := by
  intro f
  induction f with
  | zero =>
    intro listed a inv _ hr hy H
    refine ⟨fun h => (by rw [h] at hr; cases hr), fun j hj => ?_⟩
    have hjn : j < n := Nat.lt_of_not_le fun h => tail_waits_from hs hc hn inv _ i rfl hsi hin (mem_ready.1 hr).1 j h hj
    refine ⟨hjn, ?_⟩
    by_cases hji : j = i
    · subst hji; exact hy.qOp hi H
    · have := hdone _ _ H j (ready_mono hj hji)
      omega
  | succ f ih =>
    intro listed a inv hfree hr hy H
    have hun := (mem_ready.1 hr).1
    refine ⟨fun h => (by rw [h] at hr; cases hr), fun j hj => ?_⟩
    have hjn : j < n := Nat.lt_of_not_le fun h => tail_waits_from hs hc hn inv _ i rfl hsi hin hun j h hj
    refine ⟨hjn, ?_⟩
    by_cases hji : j = i
    · subst hji; exact hy.qOp hi H
    · obtain ⟨hjun, oj, hoj, hall⟩ := mem_ready.1 hj
      have hnot : ∀ e ∈ oj.after, Region.binds md e = true → e.on ≠ i := fun e he hb heq => by
        have h1 := hall e he hb
        rw [heq, getD_both hun] at h1
        cases h1
      have h2 := qOp_put hoj (hfree j oj hoj hji hjun hnot) (fun cs b => hsel i oi cs b hi) (fun cs b => hsel j oj cs b hoj) hy (H.2 j (ready_mono hj hji)).2
      refine qOp_mono (fun a' h3 => ih _ a' (inv.set hj hjn) (fun q oq hq hqi hqun hno => hfree q oq hq hqi ?_ hno) (ready_mono hr (Ne.symm hji)) h3.1 ?_) h2
      · by_cases hjq : j = q
        · subst hjq; exact hjun
        · rw [getD_set_ne true hjq] at hqun; exact hqun
      · rw [Array.setIfInBounds_comm _ _ hji]
        exact h3.2
def pureB (o : Oper) : Bool := match o.op with | .move _ | .extract .. => true | _ => false
theorem pure_yields {o : Oper} (hp : pureB o = true) {a : Act} {w : World} {K : Act → World → Prop} {Q : Exit → Act → World → Prop} (h : o.wp P a w K Q) : ∃ v, (∀ w', (execOp a.eval o).run P w' = .ok (.value v) w') ∧ K (a.put o.dst v) w := by
  obtain ⟨dst, op, type, pos, after, guard⟩ := o
  cases op <;> simp only [pureB, Bool.false_eq_true] at hp
  case move x => exact ⟨_, fun _ => rfl, h⟩
  case extract x i =>
    unfold Oper.wp at h
    simp only [execOp] at h ⊢
    unfold Instr.extract at h ⊢
    split at h
    · split at h
      · exact ⟨_, fun _ => rfl, h⟩
      · exact h.elim
    · exact h.elim
def tailB (md : Region.Mode) (ops : Array Oper) : Nat → Nat → Array Bool → Bool
  | 0, _, listed => (Region.ready md ops listed).isEmpty
  | g + 1, k, listed => (decide (Region.ready md ops listed = [k]) || ((match ops[k]? with | some o => pureB o | none => false) && Region.free md ops listed k && (Region.ready md ops listed).contains k)) && tailB md ops g (k + 1) (listed.setIfInBounds k true)
theorem wpAny_of_tail {Q' : Exit → Act → World → Prop} (hq : ¬ LetsOut Q') (hQ : ∀ c a a' w, Q' (.panic c) a w → Q' (.panic c) a' w) (hsel : Region.noSelect ops = true) : ∀ (l : List Oper) (k : Nat) (listed : Array Bool) (a : Act) (w : World), (∀ j, l[j]? = ops[k + j]?) →
    tailB md ops l.length k listed = true → wpList P ops Q' l a w → wpAny P md ops Q' l.length listed a w
  | [], _, _, _, _, _, hB, h => ⟨by simpa [tailB] using hB, h⟩
  | o :: l, k, listed, a, w, hl, hB, h => by
    have h0 : ops[k]? = some o := by simpa using (hl 0).symm
    simp only [List.length_cons, tailB, Bool.and_eq_true, Bool.or_eq_true, decide_eq_true_eq, h0] at hB
    have hl' : ∀ j, l[j]? = ops[k + 1 + j]? := fun j => by have := hl (j + 1); simpa [Nat.add_assoc, Nat.add_comm 1 j] using this
    obtain ⟨hB | ⟨⟨hp, hf⟩, hr⟩, hB'⟩ := hB
    · refine ⟨fun h1 => (by rw [hB] at h1; cases h1), fun i hi => ?_⟩
      rw [hB] at hi
      have hik : i = k := by simpa using hi
      subst hik
      have hw : wpOp P ops Q' i (wpList P ops Q' l) a w := by unfold wpOp; simp only [h0]; exact h
      exact wpOp_mono (fun a' w' h' => wpAny_of_tail hq hQ hsel l (i + 1) _ a' w' hl' hB' h') hw
    · unfold wpList at h
      by_cases hw : Region.wanted o (yielded ops a.tmps) = true
      · rw [if_pos hw] at h
        obtain ⟨v, hv, hK⟩ := pure_yields hp (h.resolve_right fun h => hq h.2)
        exact wpAny_take h0 hsel hf hr (fun c a w => hQ c _ _ w) (.inl ⟨hw, hv⟩) (wpAny_of_tail hq hQ hsel l (k + 1) _ _ _ hl' hB' hK)
      · rw [if_neg hw] at h
        exact wpAny_take h0 hsel hf hr (fun c a w => hQ c _ _ w) (.inr ⟨by simpa using hw, rfl⟩) (wpAny_of_tail hq hQ hsel l (k + 1) _ _ _ hl' hB' h)
def lexHeadT (md : Region.Mode) (ops : Array Oper) (g : Nat) : Nat → Nat → Array Bool → Bool
  | 0, k, listed => (Region.ready md ops listed).all (fun j => decide (k ≤ j)) && tailB md ops g k listed
  | f + 1, k, listed => (Region.ready md ops listed).contains k && Region.free md ops listed k && lexHeadT md ops g f (k + 1) (listed.setIfInBounds k true)
theorem head_lex_from {s n g : Nat} {Lq : Act → Prop} (hsel : Region.noSelect ops = true) (hs : sinkFrom md ops s n = true) (hc : chainFrom md ops n = true) (hn : n < ops.size) :
    ∀ (l : List Oper) (k : Nat) (listed : Array Bool) (a : Act), s ≤ k → (∀ j, j < l.length → l[j]? = ops[k + j]?) → k + l.length = n → HeadInv md ops n listed →
    lexHeadT md ops g l.length k listed = true → wpQuiet P ops C Lq l a →
    anyHead P md ops C n (fun listed' a' => ((∀ j ∈ Region.ready md ops listed', n ≤ j) ∧ tailB md ops g n listed' = true) ∧ Lq a') l.length listed a := by
  intro l
  induction l with
  | nil =>
    intro k listed a _ _ hk _ hB h
    obtain rfl : k = n := by simpa using hk
    simp only [List.length_nil, lexHeadT, Bool.and_eq_true, List.all_eq_true, decide_eq_true_eq] at hB
    exact ⟨hB, h⟩
  | cons o l ih =>
    intro k listed a hsk hl hk inv hB h
    have h0 : ops[k]? = some o := by simpa using (hl 0 (by simp)).symm
    simp only [List.length_cons, lexHeadT, Bool.and_eq_true] at hB
    obtain ⟨⟨hr, hf⟩, hB'⟩ := hB
    have hkn : k < n := by simp only [List.length_cons] at hk; omega
    have hr' : k ∈ Region.ready md ops listed := by simpa using hr
    have hst : qOp P ops C k (wpQuiet P ops C Lq l) a := by unfold qOp; simp only [h0]; exact h
    obtain ⟨v, hy, hK⟩ := yieldsIn_of_qOp h0 hst
    refine head_first_from h0 (Region.noSelect_spec hsel) hs hc hn hsk hkn (fun listed' a' hL => hL.1.1) l.length listed a inv (Region.free_spec h0 hf) hr' hy ?_
    exact ih (k + 1) _ _ (by omega) (fun j hj => by have := hl (j + 1) (by simp; omega); simpa [Nat.add_assoc, Nat.add_comm 1 j] using this) (by simp only [List.length_cons] at hk; omega) (inv.set hr' hkn) hB' hK
def lexTail0B (md : Region.Mode) (ops : Array Oper) (n : Nat) : Bool :=
  Region.noSelect ops && decide (n < ops.size) && sinkFrom md ops 0 n && chainFrom md ops n && lexHeadT md ops (ops.size - n) n 0 (Array.replicate ops.size false)
def lexTail1B (md : Region.Mode) (ops : Array Oper) (n : Nat) : Bool :=
  Region.noSelect ops && decide (n < ops.size) && sinkFrom md ops 1 n && chainFrom md ops n && (Region.ready md ops (Array.replicate ops.size false)).contains 0 && Region.free md ops (Array.replicate ops.size false) 0 && lexHeadT md ops (ops.size - n) (n - 1) 1 ((Array.replicate ops.size false).setIfInBounds 0 true)
end
section
variable {P : Program} {n r : Nat}
theorem any_region_tail0 {Q : Exit → Act → World → Prop} {a : Act} {w : World} {l : List Oper} (n : Nat) (hq : ¬ LetsOut Q) (hQ : ∀ c a a' w, Q (.panic c) a w → Q (.panic c) a' w) (hB : lexTail0B .any l.toArray n = true)
    (h : wpQuiet P l.toArray (fun w' => ∃ s : KW w, w' = s.val) (fun a' => ∀ w', (∃ s : KW w, w' = s.val) → wpList P l.toArray Q (l.drop n) a' w') (l.take n) a) : wpAny P .any l.toArray Q l.toArray.size (Array.replicate l.toArray.size false) a { w with drawn := w.drawn + 1 } := by
  simp only [lexTail0B, Bool.and_eq_true, decide_eq_true_eq] at hB
  obtain ⟨⟨⟨⟨hsel, hn⟩, hs⟩, hc⟩, hlex⟩ := hB
  have hn' : n < l.length := by simpa using hn
  have htl : (l.take n).length = n := by simp; omega
  have hdl : (l.drop n).length = l.toArray.size - n := by simp
  have inv0 : HeadInv .any l.toArray n (Array.replicate l.toArray.size false) :=
    ⟨by simp, fun j oj _ hl => (by rw [getD_replicate_false] at hl; cases hl), fun t _ ht => getD_in (by simpa using ht) (getD_replicate_false _ _)⟩
  have H := head_lex_from (md := .any) (g := l.toArray.size - n) hsel hs hc hn (l.take n) 0 _ a (Nat.le_refl _) (fun j hj => by
    have hj' : j < n := by rw [htl] at hj; exact hj
    simp [hj']) (by simpa using htl) inv0 (by rw [htl]; exact hlex) h
  have := any_of_head (Q' := Q) (g := l.toArray.size - n) (fun listed a' w' hw' hL => by
    have := wpAny_of_tail (md := .any) (Q' := Q) hq hQ hsel (l.drop n) n listed a' w' (fun j => by simp [List.getElem?_drop]) (by rw [hdl]; exact hL.1.2) (hL.2 w' hw')
    rwa [hdl] at this) _ _ _ { w with drawn := w.drawn + 1 } ⟨⟨w.drew, kept_drew (kept_refl w)⟩, rfl⟩ H
  rw [htl, show n + (l.toArray.size - n) = l.toArray.size from by omega] at this
  exact this
theorem any_region_tail1 {Q : Exit → Act → World → Prop} {a : Act} {w : World} {o : Oper} {l : List Oper} (v : Value) (n : Nat) (hn1 : 1 ≤ n) (hq : ¬ LetsOut Q) (hQ : ∀ c a a' w, Q (.panic c) a w → Q (.panic c) a' w) (hB : lexTail1B .any (o :: l).toArray n = true) (hy : Yields P (o :: l).toArray o v a)
    (h : wpQuiet P (o :: l).toArray (fun w' => ∃ s : KW w, w' = s.val) (fun a' => ∀ w', (∃ s : KW w, w' = s.val) → wpList P (o :: l).toArray Q (l.drop (n - 1)) a' w') (l.take (n - 1)) (a.put o.dst v)) : wpAny P .any (o :: l).toArray Q (o :: l).toArray.size (Array.replicate (o :: l).toArray.size false) a { w with drawn := w.drawn + 1 } := by
  obtain ⟨n, rfl⟩ : ∃ m, n = m + 1 := ⟨n - 1, by omega⟩
  simp only [lexTail1B, Bool.and_eq_true, decide_eq_true_eq, Nat.add_sub_cancel] at hB h
  obtain ⟨⟨⟨⟨⟨⟨hsel, hn⟩, hs⟩, hc⟩, hr⟩, hf⟩, hlex⟩ := hB
  have hn' : n < l.length := by simpa using hn
  have htl : (l.take n).length = n := by simp; omega
  have hdl : (l.drop n).length = (o :: l).toArray.size - (n + 1) := by simp
  have h0 : (o :: l).toArray[0]? = some o := by simp
  have inv0 : HeadInv .any (o :: l).toArray (n + 1) (Array.replicate (o :: l).toArray.size false) :=
    ⟨by simp, fun j oj _ hl => (by rw [getD_replicate_false] at hl; cases hl), fun t _ ht => getD_in (by simpa using ht) (getD_replicate_false _ _)⟩
  have inv1 := inv0.set (i := 0) (by simpa using hr) (by omega)
  have H := head_lex_from (md := .any) (g := (o :: l).toArray.size - (n + 1)) hsel hs hc hn (l.take n) 1 _ _ (Nat.le_refl _) (fun j hj => by
    have hj' : j < n := by rw [htl] at hj; exact hj
    rw [List.getElem?_take_of_lt hj', Nat.add_comm 1 j]; simp) (by rw [htl]; omega) inv1 (by rw [htl]; exact hlex) h
  have := any_of_head (Q' := Q) (g := (o :: l).toArray.size - (n + 1)) (fun listed a' w' hw' hL => by
    have := wpAny_of_tail (md := .any) (Q' := Q) hq hQ hsel (l.drop n) (n + 1) listed a' w' (fun j => by rw [List.getElem?_drop, show n + 1 + j = (n + j) + 1 from by omega]; simp) (by rw [hdl]; exact hL.1.2) (hL.2 w' hw')
    rwa [hdl] at this) _ _ _ { w with drawn := w.drawn + 1 } ⟨⟨w.drew, kept_drew (kept_refl w)⟩, rfl⟩ H
  rw [htl] at this
  have := wpAny_take h0 hsel hf hr (fun c a w => hQ c _ _ w) hy this
  rw [show n + ((o :: l).toArray.size - (n + 1)) + 1 = (o :: l).toArray.size from by omega] at this
  exact this
theorem rd_region_tail0 {id : Nat} {Q : Exit → Act → World → Prop} {a : Act} {w : World} {l : List Oper} (m : Nat) (hm : P.follows .mixedOrders = true) (hB : lexTail0B .any l.toArray m = true) (hd : l.toArray.all noDefer = true) (hq : ¬ LetsOut Q) (hQ : ∀ c a a' w, Q (.panic c) a w → Q (.panic c) a' w)
    (h : wpQuiet P l.toArray (fun w' => ∃ s : KW w, w' = s.val) (fun a' => ∀ w', (∃ s : KW w, w' = s.val) → wpList P l.toArray Q (l.drop m) a' w') (l.take m) a) : (Code.region id l.toArray true).wpIn (RoundFence r) n P Q a w :=
  wpIn_region_any hm (bridge_any hq hd _ _ _ _ (any_region_tail0 m hq hQ hB h))
theorem rd_region_tail1 {id : Nat} {Q : Exit → Act → World → Prop} {a : Act} {w : World} {o : Oper} {l : List Oper} (v : Value) (m : Nat) (hm : P.follows .mixedOrders = true) (hm1 : 1 ≤ m) (hB : lexTail1B .any (o :: l).toArray m = true) (hd : (o :: l).toArray.all noDefer = true) (hq : ¬ LetsOut Q) (hQ : ∀ c a a' w, Q (.panic c) a w → Q (.panic c) a' w) (hy : Yields P (o :: l).toArray o v a)
    (h : wpQuiet P (o :: l).toArray (fun w' => ∃ s : KW w, w' = s.val) (fun a' => ∀ w', (∃ s : KW w, w' = s.val) → wpList P (o :: l).toArray Q (l.drop (m - 1)) a' w') (l.take (m - 1)) (a.put o.dst v)) : (Code.region id (o :: l).toArray true).wpIn (RoundFence r) n P Q a w :=
  wpIn_region_any hm (bridge_any hq hd _ _ _ _ (any_region_tail1 v m hm1 hq hQ hB hy h))
end
end Go.Proofs.YtdejablhpljdfaaGreat
namespace Go.Proofs.YtdejablhpljdfaaGreat
open Go.RowKit BG
attribute [local go_sem] Oper.semAt_some
attribute [local go_sem ↓] run_min_at
set_option linter.unusedVariables false
abbrev BI (NB : Nat) := { q : Nat // q < NB }
def firstB (NB q : Nat) : List (BI NB) := (List.range q).filterMap fun i => if h : i < NB then some ⟨i, h⟩ else none
theorem firstB_succ {NB q : Nat} (h : q < NB) : firstB NB (q + 1) = firstB NB q ++ [⟨q, h⟩] := by
  unfold firstB
  rw [List.range_succ, List.filterMap_append]
  simp [h]
theorem firstB_map {NB : Nat} : ∀ q, q ≤ NB → (firstB NB q).map (fun x => x.1) = List.range q := by
  intro q
  induction q with
  | zero => intro _; rfl
  | succ q ih => intro h; rw [firstB_succ (show q < NB by omega), List.map_append, ih (by omega), List.range_succ]; rfl
theorem firstB_length {NB q : Nat} (h : q ≤ NB) : (firstB NB q).length = q := by
  have := congrArg List.length (firstB_map q h)
  simpa using this
def KpB (B1 B2 : Nat) (W W' : World) : Prop := W'.heap[B1]? = W.heap[B1]? ∧ W'.heap[B2]? = W.heap[B2]?
theorem kpB_t {B1 B2 : Nat} {X Y Z : World} (h : KpB B1 B2 X Y) (k : KpB B1 B2 Y Z) : KpB B1 B2 X Z := ⟨k.1.trans h.1, k.2.trans h.2⟩
theorem kpB_b {B1 B2 : Nat} {w : World} (h1 : B1 < w.heap.size) (h2 : B2 < w.heap.size) (W : World) (l : Nat) (o o' : Obj) (hl : w.heap.size ≤ l) (h : W.heap[l]? = some o) (_ : o.isCells = false) (_ : o.isWalk = false) : KpB B1 B2 W (W.putObj l o') :=
  ⟨World.putObj_heap_other (by omega), World.putObj_heap_other (by omega)⟩
theorem KpB.cell1 {B1 B2 : Nat} {W W' : World} (h : KpB B1 B2 W W') {v : Value} (c : W.cell? ⟨B1, 0, none⟩ = some v) : W'.cell? ⟨B1, 0, none⟩ = some v := (World.cell?_of_block (a := ⟨B1, 0, none⟩) h.1).trans c
theorem KpB.cell2 {B1 B2 : Nat} {W W' : World} (h : KpB B1 B2 W W') {v : Value} (c : W.cell? ⟨B2, 0, none⟩ = some v) : W'.cell? ⟨B2, 0, none⟩ = some v := (World.cell?_of_block (a := ⟨B2, 0, none⟩) h.2).trans c
def bencs (NB sums each : Nat) (x : BI NB) : Array Value := #[.int .i64 ((x.1 * each : Nat) : Int), .int .i64 ((manyv sums each x.1 : Nat) : Int)]
set_option maxRecDepth 100000 in
set_option maxHeartbeats 4000000 in
theorem blocks_stops (n B1 B2 sums each NB : Nat) (hn : 1 ≤ n) (hs : sums ≤ 1099511627776) (he : each ≤ 4096) (hNB : ∀ q, q < NB → q * each < sums) (hall : sums ≤ NB * each) (w : World) (h1 : B1 < w.heap.size) (h2 : B2 < w.heap.size)
    (c1 : w.cell? ⟨B1, 0, none⟩ = some (.int .i64 (sums : Nat))) (c2 : w.cell? ⟨B2, 0, none⟩ = some (.int .i64 (each : Nat))) :
    SeqStopsK Fence.wide n Tryz.prog 159 #[.pointer (some ⟨B1, 0, none⟩), .pointer (some ⟨B2, 0, none⟩)] (bencs NB sums each) (KpB B1 B2) (fun xs => xs.map (fun x => x.1) = List.range NB) (fun _ => True) NB w := by
  intro l J Jx W hW hJ hJx hY h0
  have C1 : W.cell? ⟨B1, 0, none⟩ = some (.int .i64 (sums : Nat)) := (hW.cell (p := ⟨B1, 0, none⟩) (by show B1 < _; omega)).trans c1
  have C2 : W.cell? ⟨B2, 0, none⟩ = some (.int .i64 (each : Nat)) := (hW.cell (p := ⟨B2, 0, none⟩) (by show B2 < _; omega)).trans c2
  refine callsIn_of_wp Tryz.func159 rfl trivial ?_ rfl
  simp only [Tryz.ntmps159, List.size_toArray, List.length_cons, List.length_nil, Nat.reduceAdd, Nat.reduceSub, Array.replicate_succ, Array.replicate_zero, List.push_toArray, List.append_toArray, List.nil_append, List.cons_append]
  clear c1 c2 hW
  gi_wp2
  gi_loopw [4] (fun p wr => ∃ q : Nat, q ≤ NB ∧ p = .int .i64 ((min sums (q * each) : Nat) : Int) ∧ KpB B1 B2 W wr ∧ J (firstB NB q) wr) (fun p _ => sums - (intOf p).toNat)
  case atStart => exact ⟨0, Nat.zero_le _, by simp, ⟨rfl, rfl⟩, h0⟩
  case round =>
    obtain ⟨q, hq, rfl, hb, hj⟩ := hrel
    have d1 : wr.cell? ⟨B1, 0, none⟩ = some (.int .i64 (sums : Nat)) := hb.cell1 C1
    have d2 : wr.cell? ⟨B2, 0, none⟩ = some (.int .i64 (each : Nat)) := hb.cell2 C2
    by_cases hlt : q < NB
    · have hqe := hNB q hlt
      have hmin : min sums (q * each) = q * each := by omega
      have hY := hY (firstB NB q) ⟨q, hlt⟩ wr hj (by rw [firstB_length hq]; exact hlt)
      have hF := firstB_succ hlt
      have hnx : min sums ((q + 1) * each) = q * each + manyv sums each q := by
        have : (q + 1) * each = q * each + each := Nat.succ_mul q each
        unfold manyv; omega
      have hmz : 0 < manyv sums each q := by
        have : 0 < each := by
          rcases Nat.eq_zero_or_pos each with e | e
          · subst e; simp at hall; omega
          · exact e
        unfold manyv; omega
      have hmv : min (each : Int) ((sums : Int) - ((q * each : Nat) : Int)) = ((manyv sums each q : Nat) : Int) := by unfold manyv; omega
      have hmle : manyv sums each q ≤ sums - q * each := by unfold manyv; omega
      unfold bencs at hY
      dsimp only at hY
      rw [hmin]
      generalize manyv sums each q = M at *
      have HNX := Lib.hid hnx
      have HF := Lib.hid hF
      clear hnx hmin hF
      generalize q * each = a at *
      obtain ⟨fn, tmps, assign, body, hy, hR⟩ := hY
      gi_wp2
      refine hR.mono ?_
      rintro e W3 (⟨rfl, hJ3, hk3⟩ | ⟨rfl, hJx3⟩)
      · have hb3 := kpB_t hb hk3
        have d3 : W3.cell? ⟨B1, 0, none⟩ = some (.int .i64 (sums : Nat)) := hb3.cell1 C1
        have d4 : W3.cell? ⟨B2, 0, none⟩ = some (.int .i64 (each : Nat)) := hb3.cell2 C2
        rw [← HF.out] at hJ3
        gi_wp2
        exact ⟨⟨q + 1, by omega, by rw [HNX.out]; go_num, hb3, hJ3⟩, by simp [intOf]; omega⟩
      · gi_wp2
        refine bodyPost_ret (results_none rfl _ _ _) rfl ?_
        exact ⟨⟨_, rfl⟩, .inr ⟨_, trivial, hJx3⟩⟩
    · obtain rfl : q = NB := by omega
      have hmin : min sums (q * each) = sums := by omega
      rw [hmin]
      clear hmin
      gi_wp2
      go_end0
      exact ⟨⟨_, rfl⟩, .inl ⟨_, firstB_map q (Nat.le_refl _), hj⟩⟩
end Go.Proofs.YtdejablhpljdfaaGreat
namespace Go.Proofs.YtdejablhpljdfaaGreat
open Go.RowKit BG
attribute [local go_sem ↓] Go.wp_at_zero Go.wp_at_succ run_min_at run_max_at
set_option linter.unusedVariables false
def berrv (ps ts : List Int) (size : Int) : Int := berr ps.length ts.length size (greatest ps) (greatest ts)
def bgood (ps ts : List Int) (size : Int) : Prop := berrv ps ts size = 0 ∧ slb ps.length ts.length = true
instance (ps ts : List Int) (size : Int) : Decidable (bgood ps ts size) := by unfold bgood; infer_instance
def bval (ps ts : List Int) (size : Int) : List Int := if bgood ps ts size then slidev (nth ps) (nth ts) ps.length ts.length else []
def bcnt (ps ts : List Int) (size : Int) : Int := if bgood ps ts size then countv ps.length ts.length size else 0
theorem berr_zero {m n : Nat} {size x y : Int} (hx : 0 ≤ x) (hy : 0 ≤ y) (h : berr m n size x y = 0) (hs : slb m n = true) : szb m size = true ∧ 1 ≤ m ∧ m ≤ n ∧ x * y ≤ 18446744073709551615 ∧ x * y * (m : Int) ≤ 18446744073709551615 := by
  obtain ⟨h1, h2⟩ : 1 ≤ (m : Int) ∧ (m : Int) ≤ n := of_decide_eq_true hs
  unfold berr at h
  rw [if_pos hs] at h
  by_cases h3 : szb m size = true
  · rw [if_pos h3] at h
    cases h4 : ovr x y
    · rw [h4, if_neg (by decide)] at h
      cases h5 : ovr (x * y) m
      · exact ⟨h3, by omega, by omega, ovr_no hx hy h4, ovr_no (Int.mul_nonneg hx hy) (by omega) h5⟩
      · rw [h5, if_pos rfl] at h; exact absurd h (by decide)
    · rw [h4, if_pos rfl] at h; exact absurd h (by decide)
  · rw [if_neg h3] at h; exact absurd h (by decide)
def Ans3 (l : List Int) (c er : Int) (w : World) (e : Ending) (w' : World) : Prop :=
  ∃ A cap, e = .returned (.tuple #[.slice A l.length cap, .int .i64 c, .int .i64 er]) ∧ Rd .u64 w' A l ∧ Kept w w' ∧ l.length ≤ cap ∧ cap ≤ 9223372036854775807 ∧ Own .u64 108 w.heap.size w' (.slice A l.length cap) l
theorem Ans3.none {l : List Int} {c er : Int} {w w' : World} (hl : l = []) (hc : c = 0) (hk : Kept w w') : Ans3 l c er w (.returned (.tuple #[.slice none 0 0, .int .i64 0, .int .i64 er])) w' := by
  subst hl hc; exact ⟨Option.none, 0, rfl, Rd.nil _ _ _, hk, by simp, by omega, Own.nil _ _ _ _⟩
theorem bval_bad {ps ts : List Int} {size : Int} (h : ¬ bgood ps ts size) : bval ps ts size = [] ∧ bcnt ps ts size = 0 := by
  unfold bval bcnt; rw [if_neg h, if_neg h]; exact ⟨rfl, rfl⟩
theorem bval_good {ps ts : List Int} {size : Int} (h : bgood ps ts size) : bval ps ts size = slidev (nth ps) (nth ts) ps.length ts.length ∧ bcnt ps ts size = countv ps.length ts.length size := by
  unfold bval bcnt; rw [if_pos h, if_pos h]; exact ⟨rfl, rfl⟩
theorem blocks_c (sums each : Int) (w : World) : Calls Tryz.prog 101 #[.int .i64 sums, .int .i64 each] w fun e w' => e = .returned (.func (.func 159) #[] #[.pointer (some ⟨w.heap.size, 0, none⟩), .pointer (some ⟨w.heap.size + 1, 0, none⟩)]) ∧ w'.cell? ⟨w.heap.size, 0, none⟩ = some (.int .i64 sums) ∧ w'.cell? ⟨w.heap.size + 1, 0, none⟩ = some (.int .i64 each) ∧ w'.heap.size = w.heap.size + 2 ∧ Kept w w' := by
  go_enter Tryz.func101, Tryz.ntmps101
  go_wp2_with fail
  go_ret
  refine ⟨rfl, ?_, ?_, by simp, kept_alloc (kept_alloc (kept_refl w) _) _⟩
  · exact blk_cell (blk_alloc (blk_new w (.cells #[.int .i64 sums] 3)) _) 0
  · exact blk_cell (blk_new1 w (.cells #[.int .i64 sums] 3) (.cells #[.int .i64 each] 3)) 0
end Go.Proofs.YtdejablhpljdfaaGreat
namespace Go.Proofs.YtdejablhpljdfaaGreat
open Go.RowKit BG
attribute [local go_sem ↓] Go.wp_at_zero Go.wp_at_succ run_min_at run_max_at
set_option linter.unusedVariables false
set_option maxRecDepth 100000 in
set_option maxHeartbeats 4000000 in
theorem correlate_bad (A B : Option Addr) (ca cb : Nat) (ps ts : List Int) (size : Int) (hu : U64 ps) (hv : U64 ts) (hlx : ps.length ≤ 10000000000000) (hly : ts.length ≤ 10000000000000) (hbad : ¬ bgood ps ts size) (w : World) (hr : Rd .u64 w A ps) (hs : Rd .u64 w B ts) : Calls Tryz.prog 57 #[.slice A ps.length ca, .slice B ts.length cb, .int .i64 size] w (Ans3 (bval ps ts size) (bcnt ps ts size) (berrv ps ts size) w) := by
  have hm := hr.1
  have hm2 := hs.1
  have C := fun w1 (a : Rd .u64 w1 A ps) (b : Rd .u64 w1 B ts) => check_c5 A B ca cb ps ts size hu hv (by omega) (by omega) w1 a b
  rw [show berr ps.length ts.length size (greatest ps) (greatest ts) = berrv ps ts size from rfl] at C
  obtain ⟨e1, e2⟩ := bval_bad (ps := ps) (ts := ts) (size := size) hbad
  have E1 := Lib.hid e1
  have E2 := Lib.hid e2
  clear e1 e2
  by_cases he : berrv ps ts size = 0
  · have S := fun w => slides_c ps.length ts.length w
    rw [show slb ps.length ts.length = false by
      cases hsl : slb ps.length ts.length
      · rfl
      · exact absurd ⟨he, hsl⟩ hbad] at S
    rw [he] at C
    rw [he]
    clear hbad he
    generalize bval ps ts size = bv at *
    generalize bcnt ps ts size = bc at *
    generalize ps.length = m at *
    generalize ts.length = n at *
    go_enter Tryz.func57, Tryz.ntmps57
    go_wp2_with fail
    have hT := blk_alloc (blk_new w (.cells #[.slice B n cb] 123)) (.cells #[.int .i64 size] 3)
    have hZ := blk_new1 w (.cells #[.slice B n cb] 123) (.cells #[.int .i64 size] 3)
    have kw := kept_alloc (kept_alloc (kept_refl w) (.cells #[.slice B n cb] 123)) (.cells #[.int .i64 size] 3)
    have hsz : ((w.alloc (.cells #[.slice B n cb] 123)).alloc (.cells #[.int .i64 size] 3)).heap.size = w.heap.size + 2 := by simp
    generalize (w.alloc (.cells #[.slice B n cb] 123)).alloc (.cells #[.int .i64 size] 3) = w0 at *
    have t1 : w0.cell? ⟨w.heap.size, 0, none⟩ = some (.slice B n cb) := blk_cell hT 0
    have t2 : w0.drew.cell? ⟨w.heap.size, 0, none⟩ = some (.slice B n cb) := t1
    have t3 : (w0.alloc (.cells #[.int .i64 0] 3)).cell? ⟨w.heap.size, 0, none⟩ = some (.slice B n cb) := kept_cell (kept_alloc (kept_refl _) _) t1
    have t4 : (w0.alloc (.cells #[.int .i64 0] 3)).drew.cell? ⟨w.heap.size, 0, none⟩ = some (.slice B n cb) := t3
    have t5 : (w0.drew.alloc (.cells #[.int .i64 0] 3)).cell? ⟨w.heap.size, 0, none⟩ = some (.slice B n cb) := t3
    go_big_region
    clear t1 t2 t3 t4 t5
    have hN0 : (w0.alloc (.cells #[.int .i64 n] 3)).heap[w.heap.size + 2]? = some (.cells #[.int .i64 n] 3) := by rw [← hsz]; exact blk_new w0 _
    have hN : (w0.alloc (.cells #[.int .i64 n] 3)).drew.heap[w.heap.size + 2]? = some (.cells #[.int .i64 n] 3) := hN0
    replace hT : (w0.alloc (.cells #[.int .i64 n] 3)).drew.heap[w.heap.size]? = some (.cells #[.slice B n cb] 123) := blk_alloc hT (.cells #[.int .i64 n] 3)
    replace hZ : (w0.alloc (.cells #[.int .i64 n] 3)).drew.heap[w.heap.size + 1]? = some (.cells #[.int .i64 size] 3) := blk_alloc hZ (.cells #[.int .i64 n] 3)
    replace kw := kept_drew (kept_alloc kw (.cells #[.int .i64 n] 3))
    have hsz1 : w.heap.size + 3 ≤ (w0.alloc (.cells #[.int .i64 n] 3)).drew.heap.size := by
      have : (w0.alloc (.cells #[.int .i64 n] 3)).drew.heap.size = w0.heap.size + 1 := by show (w0.alloc _).heap.size = _; simp
      omega
    generalize (w0.alloc (.cells #[.int .i64 n] 3)).drew = w1 at *
    clear hN0 hsz
    have c1 := blk_cell hT 0
    have c2 := blk_cell hZ 0
    have c3 := blk_cell hN 0
    have C := C w1 (hr.kept kw) (hs.kept kw)
    go_wp2_with fail
    refine C.mono ?_
    rintro e w2 ⟨rfl, hk2⟩
    clear C c1 c2 c3
    replace hT := blk_kept hk2 hT
    replace hZ := blk_kept hk2 hZ
    replace hN := blk_kept hk2 hN
    replace kw := kept_trans kw hk2
    replace hsz1 := Nat.le_trans hsz1 hk2.size
    clear hk2
    have c1 := blk_cell hT 0
    have c2 := blk_cell hZ 0
    have c3 := blk_cell hN 0
    go_wp2_with fail
    refine (S _).mono ?_
    rintro e w3 ⟨rfl, hk3⟩
    go_wp2_with fail
    exact bodyPost_ret (v := .tuple #[.slice none 0 0, .int .i64 0, .int .i64 0]) (by simp [results, Tryz.results57, go_sem]) rfl (Ans3.none E1.out E2.out (kept_trans kw hk3))
  · clear hbad
    generalize berrv ps ts size = er at *
    generalize bval ps ts size = bv at *
    generalize bcnt ps ts size = bc at *
    have hne : (er != 0) = true := by simpa using he
    generalize ps.length = m at *
    generalize ts.length = n at *
    go_enter Tryz.func57, Tryz.ntmps57
    go_wp2_with fail
    have hT := blk_alloc (blk_new w (.cells #[.slice B n cb] 123)) (.cells #[.int .i64 size] 3)
    have hZ := blk_new1 w (.cells #[.slice B n cb] 123) (.cells #[.int .i64 size] 3)
    have kw := kept_alloc (kept_alloc (kept_refl w) (.cells #[.slice B n cb] 123)) (.cells #[.int .i64 size] 3)
    have hsz : ((w.alloc (.cells #[.slice B n cb] 123)).alloc (.cells #[.int .i64 size] 3)).heap.size = w.heap.size + 2 := by simp
    generalize (w.alloc (.cells #[.slice B n cb] 123)).alloc (.cells #[.int .i64 size] 3) = w0 at *
    have t1 : w0.cell? ⟨w.heap.size, 0, none⟩ = some (.slice B n cb) := blk_cell hT 0
    have t2 : w0.drew.cell? ⟨w.heap.size, 0, none⟩ = some (.slice B n cb) := t1
    have t3 : (w0.alloc (.cells #[.int .i64 0] 3)).cell? ⟨w.heap.size, 0, none⟩ = some (.slice B n cb) := kept_cell (kept_alloc (kept_refl _) _) t1
    have t4 : (w0.alloc (.cells #[.int .i64 0] 3)).drew.cell? ⟨w.heap.size, 0, none⟩ = some (.slice B n cb) := t3
    have t5 : (w0.drew.alloc (.cells #[.int .i64 0] 3)).cell? ⟨w.heap.size, 0, none⟩ = some (.slice B n cb) := t3
    go_big_region
    clear t1 t2 t3 t4 t5
    have hN0 : (w0.alloc (.cells #[.int .i64 n] 3)).heap[w.heap.size + 2]? = some (.cells #[.int .i64 n] 3) := by rw [← hsz]; exact blk_new w0 _
    have hN : (w0.alloc (.cells #[.int .i64 n] 3)).drew.heap[w.heap.size + 2]? = some (.cells #[.int .i64 n] 3) := hN0
    replace hT : (w0.alloc (.cells #[.int .i64 n] 3)).drew.heap[w.heap.size]? = some (.cells #[.slice B n cb] 123) := blk_alloc hT (.cells #[.int .i64 n] 3)
    replace hZ : (w0.alloc (.cells #[.int .i64 n] 3)).drew.heap[w.heap.size + 1]? = some (.cells #[.int .i64 size] 3) := blk_alloc hZ (.cells #[.int .i64 n] 3)
    replace kw := kept_drew (kept_alloc kw (.cells #[.int .i64 n] 3))
    have hsz1 : w.heap.size + 3 ≤ (w0.alloc (.cells #[.int .i64 n] 3)).drew.heap.size := by
      have : (w0.alloc (.cells #[.int .i64 n] 3)).drew.heap.size = w0.heap.size + 1 := by show (w0.alloc _).heap.size = _; simp
      omega
    generalize (w0.alloc (.cells #[.int .i64 n] 3)).drew = w1 at *
    clear hN0 hsz
    have c1 := blk_cell hT 0
    have c2 := blk_cell hZ 0
    have c3 := blk_cell hN 0
    have C := C w1 (hr.kept kw) (hs.kept kw)
    go_wp2_with fail
    refine C.mono ?_
    rintro e w2 ⟨rfl, hk2⟩
    clear C c1 c2 c3
    replace hT := blk_kept hk2 hT
    replace hZ := blk_kept hk2 hZ
    replace hN := blk_kept hk2 hN
    replace kw := kept_trans kw hk2
    replace hsz1 := Nat.le_trans hsz1 hk2.size
    clear hk2
    have c1 := blk_cell hT 0
    have c2 := blk_cell hZ 0
    have c3 := blk_cell hN 0
    go_wp2_with fail
    exact bodyPost_ret (v := .tuple #[.slice none 0 0, .int .i64 0, .int .i64 er]) (by simp [results, Tryz.results57, go_sem]) rfl (Ans3.none E1.out E2.out kw)
end Go.Proofs.YtdejablhpljdfaaGreat
namespace Go.Proofs.YtdejablhpljdfaaGreat
open Go.RowKit BG
attribute [local go_sem] Oper.semAt_some
attribute [local go_sem ↓] run_max_at
set_option linter.unusedVariables false
def nsums (xs : List Int) (n : Nat) (K : Int) (s : ByteArray) : Nat := if rightv xs n K = true then s.size + 1 - n else 0
def pencs (NB : Nat) (x : BI NB) : Array Value := #[.int .i64 ((x.1 : Nat) : Int)]
set_option maxRecDepth 100000 in
set_option maxHeartbeats 4000000 in
theorem nplaces_stops (f B1 B2 B3 : Nat) (A : Option Addr) (cap n : Nat) (xs : List Int) (K : Int) (s : ByteArray) (hu : U64 xs) (hl : xs.length = 4 * n) (hn : n ≤ 1000000) (hsz : s.size ≤ 1000000) (hf : 1 ≤ f) (w : World) (hr : Rd .u64 w A xs) (h1 : w.heap[B1]? = some (.cells #[.slice A n cap, .int .i64 K] 61)) (h2 : w.heap[B2]? = some (.cells #[.int .i64 0] 3)) (h3 : w.heap[B3]? = some (.cells #[.string s] 9)) :
    SeqStopsK Fence.wide f Tryz.prog 184 #[.pointer (some ⟨B1, 0, none⟩), .pointer (some ⟨B2, 0, none⟩), .pointer (some ⟨B3, 0, none⟩)] (pencs (nsums xs n K s)) (KpB B1 B3) (fun ys => ys.map (fun x => x.1) = List.range (nsums xs n K s)) (fun _ => True) (nsums xs n K s) w := by
  intro l J Jx W hW hJ hJx hY h0
  have R := fun w1 h => right_c A cap n xs K hl w1 h
  have e1 := blk_kept hW h1
  have C0 : W.cell? ⟨B1, 0, none⟩ = some (.slice A n cap) := blk_cell e1 0
  have C1 : W.cell? ⟨B1, 1, none⟩ = some (.int .i64 K) := blk_cell e1 1
  have C2 : W.cell? ⟨B2, 0, none⟩ = some (.int .i64 0) := blk_cell (blk_kept hW h2) 0
  have C3 : W.cell? ⟨B3, 0, none⟩ = some (.string s) := blk_cell (blk_kept hW h3) 0
  have hrW := hr.kept hW
  have hNB : nsums xs n K s = if rightv xs n K = true then s.size + 1 - n else 0 := rfl
  have HNB := Lib.hid hNB
  clear hNB
  generalize nsums xs n K s = NB at *
  generalize rightv xs n K = rv at *
  refine callsIn_of_wp Tryz.func184 rfl trivial ?_ rfl
  simp only [Tryz.ntmps184, List.size_toArray, List.length_cons, List.length_nil, Nat.reduceAdd, Nat.reduceSub, Array.replicate_succ, Array.replicate_zero, List.push_toArray, List.append_toArray, List.nil_append, List.cons_append]
  gi_wp2_with fail
  refine ⟨trivial, (callsIn_wide.2 (R _ hrW)).mono ?_⟩
  rintro e W1 ⟨rfl, hk1⟩
  have hkb : KpB B1 B3 W W1 := ⟨hk1.block B1 (blk_lt e1), hk1.block B3 (blk_lt (blk_kept hW h3))⟩
  replace C0 := kept_cell hk1 C0
  replace C2 := kept_cell hk1 C2
  replace C3 := kept_cell hk1 C3
  have hj0 : J [] W1 := hJ [] W W1 none h0 ⟨hk1.os, hk1.tape, hk1.output, hk1.size, fun i hi _ => hk1.block i hi⟩ (by rintro k h; cases h)
  clear R C1 hrW
  cases rv
  · have hN := HNB.out
    rw [if_neg (by decide)] at hN
    subst hN
    gi_wp2_with fail
    refine bodyPost_ret (results_none rfl _ _ _) rfl ?_
    exact ⟨⟨_, rfl⟩, .inl ⟨_, rfl, hj0⟩⟩
  · have hN := HNB.out
    rw [if_pos rfl] at hN
    have HN := Lib.hid hN
    have hNB2 : NB ≤ 1000001 := by omega
    clear hN HNB hJ e1 h1 h2 h3 hW hk1 h0 hr hu hl hkb
    gi_wp2_with fail
    gi_loopw [5] (fun p wr => ∃ q : Nat, q ≤ NB ∧ p = .int .i64 ((q : Nat) : Int) ∧ KpB B1 B3 W1 wr ∧ J (firstB NB q) wr) (fun p _ => NB - (intOf p).toNat)
    case atStart => exact ⟨0, Nat.zero_le _, by simp, ⟨rfl, rfl⟩, hj0⟩
    case round =>
      obtain ⟨q, hq, rfl, hb, hj⟩ := hrel
      have d1 : wr.cell? ⟨B1, 0, none⟩ = some (.slice A n cap) := hb.cell1 C0
      have d2 : wr.cell? ⟨B3, 0, none⟩ = some (.string s) := hb.cell2 C3
      have hNn := HN.out
      by_cases hlt : q < NB
      · have hY := hY (firstB NB q) ⟨q, hlt⟩ wr hj (by rw [firstB_length hq]; exact hlt)
        have hF := firstB_succ hlt
        unfold pencs at hY
        dsimp only at hY
        have HF := Lib.hid hF
        have hd : decide ((q : Int) ≤ (s.size : Int) - (n : Int)) = true := decide_eq_true (by omega)
        clear hF hNn
        obtain ⟨fn, tmps, assign, body, hy, hR⟩ := hY
        gi_wp2
        refine hR.mono ?_
        rintro e W3 (⟨rfl, hJ3, hk3⟩ | ⟨rfl, hJx3⟩)
        · have hb3 := kpB_t hb hk3
          rw [← HF.out] at hJ3
          gi_wp2
          exact ⟨⟨q + 1, by omega, by go_num, hb3, hJ3⟩, by simp [intOf]; omega⟩
        · gi_wp2
          refine bodyPost_ret (results_none rfl _ _ _) rfl ?_
          exact ⟨⟨_, rfl⟩, .inr ⟨_, trivial, hJx3⟩⟩
      · obtain rfl : q = NB := by omega
        have hd : decide ((q : Int) ≤ (s.size : Int) - (n : Int)) = false := decide_eq_false (by omega)
        clear hNn
        gi_wp2
        go_end0
        exact ⟨⟨_, rfl⟩, .inl ⟨_, firstB_map q (Nat.le_refl _), hj⟩⟩
end Go.Proofs.YtdejablhpljdfaaGreat
