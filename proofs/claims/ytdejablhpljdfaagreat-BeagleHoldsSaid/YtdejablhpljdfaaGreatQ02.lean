/-
  Texts of one claim, joined: WCls2, Tail, WCls3, ClsP, WCls4.
-/
import Derived.StillTail
import Derived.Test.YtdejablhpljdfaaGreatQ01
namespace Go.Proofs.YtdejablhpljdfaaGreat
open Go.RowKit BG
attribute [local go_sem ↓] Go.wp_at_zero Go.wp_at_succ
set_option linter.unusedVariables false
abbrev set4 (w : World) (g : Nat) (a b c d : Value) : World := (((w.setCell ⟨g, 0, none⟩ a).setCell ⟨g, 1, none⟩ b).setCell ⟨g, 2, none⟩ c).setCell ⟨g, 3, none⟩ d
theorem set4_blk {w : World} {g : Nat} {t : TypeId} {p q r s : Value} (h : w.heap[g]? = some (.cells #[p, q, r, s] t (0, 0))) (a b c d : Value) : (set4 w g a b c d).heap[g]? = some (.cells #[a, b, c, d] t (0, 0)) := by
  have h0 := blk_set h 0 a
  have h1 := blk_set h0 1 b
  have h2 := blk_set h1 2 c
  exact blk_set h2 3 d
theorem set4_far {w : World} {g k : Nat} {o : Obj} (h : w.heap[k]? = some o) (hk : k ≠ g) (a b c d : Value) : (set4 w g a b c d).heap[k]? = some o :=
  blk_far (blk_far (blk_far (blk_far h (p := ⟨g, 0, none⟩) hk _) (p := ⟨g, 1, none⟩) hk _) (p := ⟨g, 2, none⟩) hk _) (p := ⟨g, 3, none⟩) hk _
theorem set4_kept {w0 w : World} {g : Nat} (h : Kept w0 w) (hg : w0.heap.size ≤ g) (a b c d : Value) : Kept w0 (set4 w g a b c d) :=
  kept_set (kept_set (kept_set (kept_set h (p := ⟨g, 0, none⟩) hg _) (p := ⟨g, 1, none⟩) hg _) (p := ⟨g, 2, none⟩) hg _) (p := ⟨g, 3, none⟩) hg _
theorem cl_frozen {w : World} {g : Nat} {t : TypeId} {cs : Array Value} (h : w.heap[g]? = some (.cells cs t (0, 0))) : w.frozen? ⟨g, 0, none⟩ = false ∧ w.frozen? ⟨g, 1, none⟩ = false ∧ w.frozen? ⟨g, 2, none⟩ = false ∧ w.frozen? ⟨g, 3, none⟩ = false := ⟨blk_frozen h 0, blk_frozen h 1, blk_frozen h 2, blk_frozen h 3⟩
set_option maxHeartbeats 2000000 in
theorem with_q0 (x : Cl) (hx : x.ok) (b : Nat) (hb : b < 256) (hq : b / 64 = 0) (w : World) : Calls Tryz.prog 94 #[x.v, .int .u8 (b : Nat)] w (Ret (withv x b).v w) := by
  obtain ⟨z0, z1, z2, z3⟩ := x
  obtain ⟨h0, h1, h2, h3⟩ := hx
  obtain ⟨r, hr⟩ : ∃ r, r = b % 64 := ⟨_, rfl⟩
  obtain ⟨B, hB⟩ : ∃ B : Int, B = b := ⟨_, rfl⟩
  have hm : B % 64 = (r : Int) := by omega
  have hd : B / 64 = 0 := by omega
  have hr64 : r < 64 := by omega
  have hB0 : 0 ≤ B := by omega
  have hor := bits_or h0 hr64
  have hv : withv ⟨z0, z1, z2, z3⟩ b = ⟨(orb z0 r), z1, z2, z3⟩ := by unfold withv; rw [hq, ← hr]; rfl
  rw [hv, ← hB]
  clear hB hr hq hb hv h0 h1 h2 h3
  go_enter Tryz.func94, Tryz.ntmps94
  go_wp2_with fail
  exact bodyPost_ret (v := .agg #[.int .u64 (orb z0 r), .int .u64 z1, .int .u64 z2, .int .u64 z3]) (by simp [results, Tryz.results94, go_sem]) rfl ⟨rfl, kept_alloc (kept_alloc (kept_refl w) _) _⟩
set_option maxHeartbeats 2000000 in
theorem with_q1 (x : Cl) (hx : x.ok) (b : Nat) (hb : b < 256) (hq : b / 64 = 1) (w : World) : Calls Tryz.prog 94 #[x.v, .int .u8 (b : Nat)] w (Ret (withv x b).v w) := by
  obtain ⟨z0, z1, z2, z3⟩ := x
  obtain ⟨h0, h1, h2, h3⟩ := hx
  obtain ⟨r, hr⟩ : ∃ r, r = b % 64 := ⟨_, rfl⟩
  obtain ⟨B, hB⟩ : ∃ B : Int, B = b := ⟨_, rfl⟩
  have hm : B % 64 = (r : Int) := by omega
  have hd : B / 64 = 1 := by omega
  have hr64 : r < 64 := by omega
  have hB0 : 0 ≤ B := by omega
  have hor := bits_or h1 hr64
  have hv : withv ⟨z0, z1, z2, z3⟩ b = ⟨z0, (orb z1 r), z2, z3⟩ := by unfold withv; rw [hq, ← hr]; rfl
  rw [hv, ← hB]
  clear hB hr hq hb hv h0 h1 h2 h3
  go_enter Tryz.func94, Tryz.ntmps94
  go_wp2_with fail
  exact bodyPost_ret (v := .agg #[.int .u64 z0, .int .u64 (orb z1 r), .int .u64 z2, .int .u64 z3]) (by simp [results, Tryz.results94, go_sem]) rfl ⟨rfl, kept_alloc (kept_alloc (kept_refl w) _) _⟩
set_option maxHeartbeats 2000000 in
theorem with_q2 (x : Cl) (hx : x.ok) (b : Nat) (hb : b < 256) (hq : b / 64 = 2) (w : World) : Calls Tryz.prog 94 #[x.v, .int .u8 (b : Nat)] w (Ret (withv x b).v w) := by
  obtain ⟨z0, z1, z2, z3⟩ := x
  obtain ⟨h0, h1, h2, h3⟩ := hx
  obtain ⟨r, hr⟩ : ∃ r, r = b % 64 := ⟨_, rfl⟩
  obtain ⟨B, hB⟩ : ∃ B : Int, B = b := ⟨_, rfl⟩
  have hm : B % 64 = (r : Int) := by omega
  have hd : B / 64 = 2 := by omega
  have hr64 : r < 64 := by omega
  have hB0 : 0 ≤ B := by omega
  have hor := bits_or h2 hr64
  have hv : withv ⟨z0, z1, z2, z3⟩ b = ⟨z0, z1, (orb z2 r), z3⟩ := by unfold withv; rw [hq, ← hr]; rfl
  rw [hv, ← hB]
  clear hB hr hq hb hv h0 h1 h2 h3
  go_enter Tryz.func94, Tryz.ntmps94
  go_wp2_with fail
  exact bodyPost_ret (v := .agg #[.int .u64 z0, .int .u64 z1, .int .u64 (orb z2 r), .int .u64 z3]) (by simp [results, Tryz.results94, go_sem]) rfl ⟨rfl, kept_alloc (kept_alloc (kept_refl w) _) _⟩
set_option maxHeartbeats 2000000 in
theorem with_q3 (x : Cl) (hx : x.ok) (b : Nat) (hb : b < 256) (hq : b / 64 = 3) (w : World) : Calls Tryz.prog 94 #[x.v, .int .u8 (b : Nat)] w (Ret (withv x b).v w) := by
  obtain ⟨z0, z1, z2, z3⟩ := x
  obtain ⟨h0, h1, h2, h3⟩ := hx
  obtain ⟨r, hr⟩ : ∃ r, r = b % 64 := ⟨_, rfl⟩
  obtain ⟨B, hB⟩ : ∃ B : Int, B = b := ⟨_, rfl⟩
  have hm : B % 64 = (r : Int) := by omega
  have hd : B / 64 = 3 := by omega
  have hr64 : r < 64 := by omega
  have hB0 : 0 ≤ B := by omega
  have hor := bits_or h3 hr64
  have hv : withv ⟨z0, z1, z2, z3⟩ b = ⟨z0, z1, z2, (orb z3 r)⟩ := by unfold withv; rw [hq, ← hr]; rfl
  rw [hv, ← hB]
  clear hB hr hq hb hv h0 h1 h2 h3
  go_enter Tryz.func94, Tryz.ntmps94
  go_wp2_with fail
  exact bodyPost_ret (v := .agg #[.int .u64 z0, .int .u64 z1, .int .u64 z2, .int .u64 (orb z3 r)]) (by simp [results, Tryz.results94, go_sem]) rfl ⟨rfl, kept_alloc (kept_alloc (kept_refl w) _) _⟩
theorem with_c (x : Cl) (hx : x.ok) (b : Nat) (hb : b < 256) (w : World) : Calls Tryz.prog 94 #[x.v, .int .u8 (b : Nat)] w (Ret (withv x b).v w) := by
  have hq : b / 64 = 0 ∨ b / 64 = 1 ∨ b / 64 = 2 ∨ b / 64 = 3 := by omega
  rcases hq with h | h | h | h
  · exact with_q0 x hx b hb h w
  · exact with_q1 x hx b hb h w
  · exact with_q2 x hx b hb h w
  · exact with_q3 x hx b hb h w
set_option maxHeartbeats 4000000 in
theorem not_c (x : Cl) (hx : x.ok) (w : World) : Calls Tryz.prog 153 #[x.v] w (Ret (notv x).v w) := by
  obtain ⟨z0, z1, z2, z3⟩ := x
  obtain ⟨h0, h1, h2, h3⟩ := hx
  have n0 := bits_not h0
  have n1 := bits_not h1
  have n2 := bits_not h2
  have n3 := bits_not h3
  unfold notv
  generalize 18446744073709551615 - z0 = y0 at *
  generalize 18446744073709551615 - z1 = y1 at *
  generalize 18446744073709551615 - z2 = y2 at *
  generalize 18446744073709551615 - z3 = y3 at *
  clear h0 h1 h2 h3
  have hsg : IntKind.u64.signed = false := rfl
  have hmx : IntKind.u64.max = 18446744073709551615 := rfl
  go_enter Tryz.func153, Tryz.ntmps153
  go_wp2_with fail
  refine wp_loop_rounds 5 ?_
  rw [rounds_succ]
  go_wp2_with fail
  rw [rounds_succ]
  go_wp2_with fail
  rw [rounds_succ]
  go_wp2_with fail
  rw [rounds_succ]
  go_wp2_with fail
  rw [rounds_succ]
  go_wp2_with fail
  exact bodyPost_ret (v := .agg #[.int .u64 y0, .int .u64 y1, .int .u64 y2, .int .u64 y3]) (by simp [results, Tryz.results153, go_sem]) rfl ⟨rfl, kept_alloc (kept_alloc (kept_refl w) _) _⟩
theorem full_c (w : World) : Calls Tryz.prog 95 #[] w (Ret fullv.v w) := by
  have N := not_c zerov zerov_ok
  rw [show (notv zerov).v = .agg #[.int .u64 18446744073709551615, .int .u64 18446744073709551615, .int .u64 18446744073709551615, .int .u64 18446744073709551615] from rfl] at N
  rw [show fullv.v = .agg #[.int .u64 18446744073709551615, .int .u64 18446744073709551615, .int .u64 18446744073709551615, .int .u64 18446744073709551615] from rfl]
  go_enter Tryz.func95, Tryz.ntmps95
  go_wp2_with fail
  refine (N _).mono ?_
  rintro e w1 ⟨rfl, hk1⟩
  have hz := blk_kept hk1 (blk_new w (.cells #[.int .u64 0, .int .u64 0, .int .u64 0, .int .u64 0] 110))
  obtain ⟨t0, t1, t2, t3⟩ := cl_cells (x := zerov) hz
  obtain ⟨g0, g1, g2, g3⟩ := cl_frozen hz
  have kr := set4_kept (kept_trans (kept_alloc (kept_refl w) _) hk1) (g := w.heap.size) (Nat.le_refl _) (.int .u64 18446744073709551615) (.int .u64 18446744073709551615) (.int .u64 18446744073709551615) (.int .u64 18446744073709551615)
  dsimp only [zerov] at t0 t1 t2 t3
  clear hz hk1 N
  go_wp2_with fail
  exact bodyPost_ret (v := .agg #[.int .u64 18446744073709551615, .int .u64 18446744073709551615, .int .u64 18446744073709551615, .int .u64 18446744073709551615]) (by simp [results, Tryz.results95, go_sem, t0, t1, t2, t3]) rfl ⟨rfl, kr⟩
end Go.Proofs.YtdejablhpljdfaaGreat
set_option linter.unusedVariables false
namespace Go.Proofs.YtdejablhpljdfaaGreat
open Go.RowKit
section
variable {P : Program} {ops : Array Oper} {md : Region.Mode} {C : World → Prop}
def anyHead (P : Program) (md : Region.Mode) (ops : Array Oper) (C : World → Prop) (n : Nat) (L : Array Bool → Act → Prop) : Nat → Array Bool → Act → Prop
  | 0, listed, a => L listed a
  | f + 1, listed, a => Region.ready md ops listed ≠ [] ∧ ∀ i ∈ Region.ready md ops listed, i < n ∧ qOp P ops C i (anyHead P md ops C n L f (listed.setIfInBounds i true)) a
theorem any_of_head {n g : Nat} {L : Array Bool → Act → Prop} {Q' : Exit → Act → World → Prop} (hL : ∀ listed a w, C w → L listed a → wpAny P md ops Q' g listed a w) :
    ∀ (f : Nat) (listed : Array Bool) (a : Act) (w : World), C w → anyHead P md ops C n L f listed a → wpAny P md ops Q' (f + g) listed a w := by
  intro f
  induction f with
  | zero => intro listed a w hw h; rw [Nat.zero_add]; exact hL _ _ _ hw h
  | succ f ih =>
    intro listed a w hw h
    rw [show f + 1 + g = (f + g) + 1 from by omega]
    exact ⟨fun h0 => absurd h0 h.1, fun i hi => wpOp_of_qOp hw (fun a' w' hw' h' => ih _ a' w' hw' h') (h.2 i hi).2⟩
theorem head_first {n i : Nat} {oi : Oper} {v : Value} {L : Array Bool → Act → Prop} (hi : ops[i]? = some oi) (hsel : ∀ (j : Nat) (o : Oper) cs b, ops[j]? = some o → o.op ≠ .select cs b)
    (hs : Region.sinkB md ops n = true) (hc : Region.chainB md ops n = true) (hn : n < ops.size) (hin : i < n) (hdone : ∀ listed a, L listed a → ∀ j ∈ Region.ready md ops listed, n ≤ j) :
    ∀ (f : Nat) (listed : Array Bool) (a : Act), HeadInv md ops n listed →
      (∀ j oj, ops[j]? = some oj → j ≠ i → listed.getD j true = false → (∀ e ∈ oj.after, Region.binds md e = true → e.on ≠ i) → oi.apart ops oj = true) →
      i ∈ Region.ready md ops listed → YieldsIn P ops C oi v a →
      anyHead P md ops C n L f (listed.setIfInBounds i true) (a.put oi.dst v) → anyHead P md ops C n L (f + 1) listed a := by
  intro f
  induction f with
  | zero =>
    intro listed a inv _ hr hy H
    refine ⟨fun h => (by rw [h] at hr; cases hr), fun j hj => ?_⟩
    have hjn : j < n := Nat.lt_of_not_le fun h => tail_waits hs hc hn inv _ i rfl hin (mem_ready.1 hr).1 j h hj
    refine ⟨hjn, ?_⟩
    by_cases hji : j = i
    · subst hji; exact hy.qOp hi H
    · have := hdone _ _ H j (ready_mono hj hji)
      omega
  | succ f ih =>
    intro listed a inv hfree hr hy H
    have hun := (mem_ready.1 hr).1
    refine ⟨fun h => (by rw [h] at hr; cases hr), fun j hj => ?_⟩
    have hjn : j < n := Nat.lt_of_not_le fun h => tail_waits hs hc hn inv _ i rfl hin hun j h hj
    refine ⟨hjn, ?_⟩
    by_cases hji : j = i
    · subst hji; exact hy.qOp hi H
    · obtain ⟨hjun, oj, hoj, hall⟩ := mem_ready.1 hj
      have hnot : ∀ e ∈ oj.after, Region.binds md e = true → e.on ≠ i := fun e he hb heq => by
        have h1 := hall e he hb
        rw [heq, getD_both hun] at h1
        cases h1
      have h2 := qOp_put hoj (hfree j oj hoj hji hjun hnot) (fun cs b => hsel i oi cs b hi) (fun cs b => hsel j oj cs b hoj) hy (H.2 j (ready_mono hj hji)).2
      refine qOp_mono (fun a' h3 => ih _ a' (inv.set hj hjn) (fun q oq hq hqi hqun hno => hfree q oq hq hqi ?_ hno) (ready_mono hr (Ne.symm hji)) h3.1 ?_) h2
      · by_cases hjq : j = q
        · subst hjq; exact hjun
        · rw [getD_set_ne true hjq] at hqun; exact hqun
      · rw [Array.setIfInBounds_comm _ _ hji]
        exact h3.2
theorem head_lex {n g : Nat} {Lq : Act → Prop} (hsel : Region.noSelect ops = true) (hs : Region.sinkB md ops n = true) (hc : Region.chainB md ops n = true) (hn : n < ops.size) :
    ∀ (l : List Oper) (k : Nat) (listed : Array Bool) (a : Act), (∀ j, j < l.length → l[j]? = ops[k + j]?) → k + l.length = n → HeadInv md ops n listed →
    Region.lexHead md ops g l.length k listed = true → wpQuiet P ops C Lq l a →
    anyHead P md ops C n (fun listed' a' => Region.seqB md ops g n listed' = true ∧ Lq a') l.length listed a := by
  intro l
  induction l with
  | nil =>
    intro k listed a _ hk _ hB h
    obtain rfl : k = n := by simpa using hk
    exact ⟨by simpa [Region.lexHead] using hB, h⟩
  | cons o l ih =>
    intro k listed a hl hk inv hB h
    have h0 : ops[k]? = some o := by simpa using (hl 0 (by simp)).symm
    simp only [List.length_cons, Region.lexHead, Bool.and_eq_true] at hB
    obtain ⟨⟨hr, hf⟩, hB'⟩ := hB
    have hkn : k < n := by simp only [List.length_cons] at hk; omega
    have hr' : k ∈ Region.ready md ops listed := by simpa using hr
    have hst : qOp P ops C k (wpQuiet P ops C Lq l) a := by unfold qOp; simp only [h0]; exact h
    obtain ⟨v, hy, hK⟩ := yieldsIn_of_qOp h0 hst
    refine head_first h0 (Region.noSelect_spec hsel) hs hc hn hkn (fun listed' a' hL => seqB_ready hL.1) l.length listed a inv (Region.free_spec h0 hf) hr' hy ?_
    exact ih (k + 1) _ _ (fun j hj => by have := hl (j + 1) (by simp; omega); simpa [Nat.add_assoc, Nat.add_comm 1 j] using this) (by simp only [List.length_cons] at hk; omega) (inv.set hr' hkn) hB' hK
theorem wp_region_tail {id : Nat} {Q : Exit → Act → World → Prop} {a : Act} {w : World} {l : List Oper} (n : Nat) (hm : P.follows .mixedOrders = true) (hB : Region.lexTailB .any l.toArray n = true)
    (h : wpQuiet P l.toArray (fun w' => ∃ s : KW w, w' = s.val) (fun a' => ∀ w', (∃ s : KW w, w' = s.val) → wpList P l.toArray Q (l.drop n) a' w') (l.take n) a) : (Code.region id l.toArray true).wp P Q a w := by
  simp only [Region.lexTailB, Bool.and_eq_true, decide_eq_true_eq] at hB
  obtain ⟨⟨⟨⟨hsel, hn⟩, hs⟩, hc⟩, hlex⟩ := hB
  have hn' : n < l.length := by simpa using hn
  have htl : (l.take n).length = n := by simp; omega
  have hdl : (l.drop n).length = l.toArray.size - n := by simp
  have inv0 : HeadInv .any l.toArray n (Array.replicate l.toArray.size false) :=
    ⟨by simp, fun j oj _ hl => (by rw [getD_replicate_false] at hl; cases hl), fun t _ ht => getD_in (by simpa using ht) (getD_replicate_false _ _)⟩
  have H := head_lex (md := .any) (g := l.toArray.size - n) hsel hs hc hn (l.take n) 0 _ a (fun j hj => by
    have hj' : j < n := by rw [htl] at hj; exact hj
    simp [hj']) (by simpa using htl) inv0 (by rw [htl]; exact hlex) h
  refine wp_region_any hm ?_
  have := any_of_head (Q' := Q) (g := l.toArray.size - n) (fun listed a' w' hw' hL => by
    have := wpAny_of_seq (md := .any) (Q' := Q) (l.drop n) n listed a' w' (fun j => by simp [List.getElem?_drop]) (by rw [hdl]; exact hL.1) (hL.2 w' hw')
    rwa [hdl] at this) _ _ _ { w with drawn := w.drawn + 1 } ⟨⟨w.drew, kept_drew (kept_refl w)⟩, rfl⟩ H
  rw [htl, show n + (l.toArray.size - n) = l.toArray.size from by omega] at this
  exact this
end
end Go.Proofs.YtdejablhpljdfaaGreat
namespace Go.Proofs.YtdejablhpljdfaaGreat
open Go.RowKit BG
attribute [local go_sem ↓] Go.wp_at_zero Go.wp_at_succ
set_option linter.unusedVariables false
def byteAt (s : ByteArray) (k : Nat) : Nat := if h : k < s.size then (s[k]'h).toNat else 0
theorem byteAt_lt (s : ByteArray) (k : Nat) : byteAt s k < 256 := by
  unfold byteAt
  split
  · exact UInt8.toNat_lt _
  · decide
theorem byteAt_eq {s : ByteArray} {k : Nat} (h : k < s.size) : (s[k]'h).toNat = byteAt s k := by unfold byteAt; rw [dif_pos h]
def ofT (s : ByteArray) : Nat → Cl
  | 0 => zerov
  | k + 1 => withv (ofT s k) (byteAt s k)
theorem ofT_ok (s : ByteArray) : ∀ k, (ofT s k).ok
  | 0 => zerov_ok
  | k + 1 => withv_ok (ofT_ok s k) _
set_option maxHeartbeats 4000000 in
theorem classOf_c (s : ByteArray) (hsz : s.size ≤ 1000000000) (w : World) : Calls Tryz.prog 51 #[.string s] w (Ret (ofT s s.size).v w) := by
  have ka := kept_alloc (kept_alloc (kept_refl w) zerov.cells) zerov.cells
  have hz := blk_alloc (blk_new w zerov.cells) zerov.cells
  have hc := blk_new1 w zerov.cells zerov.cells
  dsimp only [Cl.cells, zerov] at ka hz hc
  go_enter Tryz.func51, Tryz.ntmps51
  go_wp2_with fail
  go_loopw [7] (fun i wr => ∃ k : Nat, k ≤ s.size ∧ i = .int .i64 k ∧ wr.heap[w.heap.size]? = some zerov.cells ∧ wr.heap[w.heap.size + 1]? = some (ofT s k).cells ∧ Kept w wr) (fun i _ => s.size - (intOf i).toNat)
  case atStart => exact ⟨0, Nat.zero_le _, rfl, hz, hc, ka⟩
  case round =>
    obtain ⟨k, hk, rfl, hz, hc, hkw⟩ := hrel
    by_cases hlt : k < s.size
    · have WC := fun w1 => with_c (ofT s k) (ofT_ok s k) (byteAt s k) (byteAt_lt s k) w1
      obtain ⟨c0, c1, c2, c3⟩ := cl_cells hc
      have hb := byteAt_eq hlt
      have hy : withv (ofT s k) (byteAt s k) = ofT s (k + 1) := rfl
      rw [hy] at WC
      have HN := Lib.hid (rfl : ofT s (k + 1) = ofT s (k + 1))
      generalize hy1 : ofT s (k + 1) = y at *
      have HY := Lib.hid hy1
      generalize ofT s k = x at *
      generalize hbb : byteAt s k = bb at *
      clear hy hy1 hbb HN
      obtain ⟨x0, x1, x2, x3⟩ := x
      obtain ⟨y0, y1, y2, y3⟩ := y
      dsimp only [Cl.v] at WC c0 c1 c2 c3
      go_wp2_with fail
      have ks_0 := fun s => kw_cell s c0
      have ks_1 := fun s => kw_cell s c1
      have ks_2 := fun s => kw_cell s c2
      have ks_3 := fun s => kw_cell s c3
      refine wp_region_tail 5 (by kernel_rfl) (by kernel_rfl) ?_
      simp only [List.take_succ_cons, List.take_zero, List.drop_succ_cons, List.drop_zero]
      repeat (first | go_big_quiet_skip | (go_big_quiet_want; go_big_quiet_op; first | go_big_quiet_on | (apply Exists.intro; refine ⟨fun s => ?_, ?_⟩; (first | (go_at_call 94; exact call_kept (WC _))); go_big_quiet_on)))
      refine wpQuiet_nil ?_
      rintro w7 ⟨⟨_, hk7⟩, rfl⟩
      clear ks_0 ks_1 ks_2 ks_3 c0 c1 c2 c3
      replace hz := blk_kept hk7 hz
      replace hc := blk_kept hk7 hc
      obtain ⟨c0, c1, c2, c3⟩ := cl_cells hc
      obtain ⟨f0, f1, f2, f3⟩ := cl_frozen hc
      dsimp only at c0 c1 c2 c3
      replace hkw := kept_trans hkw hk7
      clear hk7
      go_wp2_with fail
      exact ⟨⟨k + 1, by omega, by go_num, set4_far (g := w.heap.size + 1) hz (by omega) _ _ _ _, by rw [HY.out]; exact set4_blk hc _ _ _ _, set4_kept (g := w.heap.size + 1) hkw (by omega) _ _ _ _⟩, by simp [intOf]; omega⟩
    · obtain rfl : k = s.size := by omega
      generalize ofT s s.size = x at *
      obtain ⟨x0, x1, x2, x3⟩ := x
      obtain ⟨c0, c1, c2, c3⟩ := cl_cells hc
      obtain ⟨t0, t1, t2, t3⟩ := cl_cells hz
      obtain ⟨g0, g1, g2, g3⟩ := cl_frozen hz
      dsimp only [zerov] at c0 c1 c2 c3 t0 t1 t2 t3
      clear hc hz
      go_wp2_with fail
      exact bodyPost_ret (v := .agg #[.int .u64 x0, .int .u64 x1, .int .u64 x2, .int .u64 x3]) (by simp [results, Tryz.results51, go_sem, t0, t1, t2, t3]) rfl ⟨rfl, set4_kept hkw (Nat.le_refl _) _ _ _ _⟩
end Go.Proofs.YtdejablhpljdfaaGreat
namespace Go.Proofs.YtdejablhpljdfaaGreat
set_option linter.unusedVariables false
theorem bitv_nat {y : Int} (h : 0 ≤ y) (k : Nat) : bitv y k = y.toNat.testBit k := by
  obtain ⟨n, rfl⟩ := Int.eq_ofNat_of_zero_le h
  unfold bitv
  have e : ((n : Int) / 2 ^ k % 2) = ((n / 2 ^ k % 2 : Nat) : Int) := by
    rw [Int.natCast_emod, Int.natCast_ediv, Int.natCast_pow]; rfl
  rw [e, Int.toNat_natCast, Nat.testBit_eq_decide_div_mod_eq]
  by_cases h1 : n / 2 ^ k % 2 = 1
  · rw [h1]; rfl
  · rw [decide_eq_false h1, beq_eq_false_iff_ne]; omega
theorem bit_ext {y z : Int} (hy : u64b y) (hz : u64b z) (h : ∀ k, k < 64 → bitv y k = bitv z k) : y = z := by
  have e : y.toNat = z.toNat := by
    refine Nat.eq_of_testBit_eq fun k => ?_
    by_cases hk : k < 64
    · rw [← bitv_nat hy.1, ← bitv_nat hz.1, h k hk]
    · have h1 : y.toNat < 2 ^ k := Nat.lt_of_lt_of_le (by have := hy.1; have := hy.2; omega : y.toNat < 2 ^ 64) (Nat.pow_le_pow_right (by decide) (by omega))
      have h2 : z.toNat < 2 ^ k := Nat.lt_of_lt_of_le (by have := hz.1; have := hz.2; omega : z.toNat < 2 ^ 64) (Nat.pow_le_pow_right (by decide) (by omega))
      rw [Nat.testBit_lt_two_pow h1, Nat.testBit_lt_two_pow h2]
  have := hy.1
  have := hz.1
  omega
theorem bit_orb {z : Int} (h : u64b z) (k j : Nat) : bitv (orb z k) j = (bitv z j || decide (j = k)) := by
  rw [bitv_nat h.1, bitv_nat (show 0 ≤ orb z k from Int.natCast_nonneg _)]
  unfold orb
  rw [Int.toNat_natCast, Nat.testBit_or, Nat.testBit_two_pow]
  congr 1
  by_cases e : k = j
  · rw [decide_eq_true e, decide_eq_true e.symm]
  · rw [decide_eq_false e, decide_eq_false fun h => e h.symm]
theorem wd_setw (x : Cl) {i j : Nat} (hi : i < 4) (hj : j < 4) (z : Int) : (x.setw i z).wd j = if j = i then z else x.wd j := by
  have a : i = 0 ∨ i = 1 ∨ i = 2 ∨ i = 3 := by omega
  have b : j = 0 ∨ j = 1 ∨ j = 2 ∨ j = 3 := by omega
  rcases a with rfl | rfl | rfl | rfl <;> rcases b with rfl | rfl | rfl | rfl <;> rfl
theorem has_with {x : Cl} (hx : x.ok) {b b' : Nat} (hb : b < 256) (hb' : b' < 256) : hasv (withv x b) b' = (hasv x b' || decide (b' = b)) := by
  unfold hasv withv
  rw [wd_setw x (by omega) (by omega)]
  by_cases e : b' / 64 = b / 64
  · rw [if_pos e, bit_orb (wd_ok hx _), ← e]
    congr 1
    by_cases h : b' = b
    · rw [decide_eq_true h, decide_eq_true (by omega)]
    · rw [decide_eq_false h, decide_eq_false (by omega)]
  · rw [if_neg e, decide_eq_false (show ¬ b' = b from fun h => e (by rw [h])), Bool.or_false]
theorem cl_ext {x y : Cl} (hx : x.ok) (hy : y.ok) (h : ∀ b, b < 256 → hasv x b = hasv y b) : x = y := by
  have hw : ∀ i, i < 4 → x.wd i = y.wd i := fun i hi => by
    refine bit_ext (wd_ok hx i) (wd_ok hy i) fun k hk => ?_
    have := h (64 * i + k) (by omega)
    unfold hasv at this
    rwa [show (64 * i + k) / 64 = i by omega, show (64 * i + k) % 64 = k by omega] at this
  obtain ⟨a, b, c, d⟩ := x
  obtain ⟨a', b', c', d'⟩ := y
  have h0 : a = a' := hw 0 (by decide)
  have h1 : b = b' := hw 1 (by decide)
  have h2 : c = c' := hw 2 (by decide)
  have h3 : d = d' := hw 3 (by decide)
  rw [h0, h1, h2, h3]
theorem has_zero (b : Nat) : hasv zerov b = false := by
  have : ∀ i, zerov.wd i = 0 := fun i => by unfold Cl.wd zerov; split <;> (try split) <;> (try split) <;> rfl
  unfold hasv bitv
  rw [this, Int.zero_ediv]
  rfl
theorem bit_max : ∀ k, k < 64 → bitv 18446744073709551615 k = true := by decide +kernel
theorem has_full (b : Nat) : hasv fullv b = true := by
  have : ∀ i, fullv.wd i = 18446744073709551615 := fun i => by unfold Cl.wd fullv; split <;> (try split) <;> (try split) <;> rfl
  unfold hasv
  rw [this]
  exact bit_max _ (by omega)
def onlyv (b : Nat) : Cl := withv zerov b
theorem onlyv_ok (b : Nat) : (onlyv b).ok := withv_ok zerov_ok b
theorem has_only {b b' : Nat} (hb : b < 256) (hb' : b' < 256) : hasv (onlyv b) b' = decide (b' = b) := by
  unfold onlyv
  rw [has_with zerov_ok hb hb', has_zero, Bool.false_or]
def sizev (x : Cl) : Nat := (List.range 256).countP (hasv x)
theorem count_range_one {p : Nat → Bool} : ∀ {n b : Nat}, b < n → p b = true → ((List.range n).countP p = 1 ↔ ∀ b', b' < n → p b' = decide (b' = b)) := by
  intro n
  induction n with
  | zero => intro b h; exact absurd h (Nat.not_lt_zero b)
  | succ n ih =>
    intro b hb hp
    rw [List.range_succ, List.countP_append, List.countP_singleton]
    by_cases e : b = n
    · subst e
      rw [if_pos hp]
      constructor
      · intro h b' hb'
        by_cases e' : b' = b
        · subst e'; rw [hp, decide_eq_true rfl]
        · have h0 : (List.range b).countP p = 0 := by omega
          rw [List.countP_eq_zero] at h0
          have := h0 b' (List.mem_range.2 (by omega))
          rw [decide_eq_false e']
          simpa using this
      · intro h
        have h0 : (List.range b).countP p = 0 := by
          rw [List.countP_eq_zero]
          intro b' hb'
          have hlt := List.mem_range.1 hb'
          rw [h b' (by omega), decide_eq_false (by omega)]
          simp
        omega
    · have hbn : b < n := by omega
      have IH := ih hbn hp
      constructor
      · intro h b' hb'
        have hc : 0 < (List.range n).countP p := List.countP_pos_iff.2 ⟨b, List.mem_range.2 hbn, hp⟩
        have hpn : p n = false := by
          cases h1 : p n
          · rfl
          · rw [if_pos h1] at h; omega
        rw [hpn, if_neg (by simp), Nat.add_zero] at h
        by_cases e' : b' = n
        · subst e'; rw [hpn, decide_eq_false (by omega)]
        · exact IH.1 h b' (by omega)
      · intro h
        have hpn : p n = false := by rw [h n (Nat.lt_succ_self n), decide_eq_false (by omega)]
        rw [hpn, if_neg (by simp), Nat.add_zero]
        exact IH.2 fun b' hb' => h b' (by omega)
theorem size_only {x : Cl} (hx : x.ok) {b : Nat} (hb : b < 256) (hp : hasv x b = true) : sizev x = 1 ↔ x = onlyv b := by
  unfold sizev
  rw [count_range_one hb hp]
  constructor
  · intro h
    exact cl_ext hx (onlyv_ok b) fun b' hb' => by rw [h b' hb', has_only hb hb']
  · rintro rfl b' hb'
    exact has_only hb hb'
def sgl (x : Cl) : Nat × Bool :=
  match (List.range 256).find? (hasv x) with
  | some b => if x = onlyv b then (b, true) else (0, false)
  | none => (0, false)
theorem find_at {p : Nat → Bool} {n b : Nat} (hb : b < n) (hp : p b = true) (hm : ∀ j, j < b → p j = false) : (List.range n).find? p = some b := by
  rw [List.find?_range_eq_some]
  exact ⟨hp, List.mem_range.2 hb, fun j hj => by rw [hm j hj]; rfl⟩
theorem find_no {p : Nat → Bool} {n : Nat} (hm : ∀ j, j < n → p j = false) : (List.range n).find? p = none := by
  rw [List.find?_eq_none]
  intro j hj
  rw [hm j (List.mem_range.1 hj)]; simp
theorem sgl_at {x : Cl} {b : Nat} (hb : b < 256) (hp : hasv x b = true) (hm : ∀ j, j < b → hasv x j = false) : sgl x = if x = onlyv b then (b, true) else (0, false) := by
  unfold sgl; rw [find_at hb hp hm]
theorem sgl_no {x : Cl} (hm : ∀ j, j < 256 → hasv x j = false) : sgl x = (0, false) := by
  unfold sgl; rw [find_no hm]
theorem sgl_lt (x : Cl) : (sgl x).1 < 256 := by
  unfold sgl
  cases h : (List.range 256).find? (hasv x) with
  | none => exact (by decide : 0 < 256)
  | some b =>
    have hb := List.mem_range.1 (List.mem_of_find?_eq_some h)
    dsimp only
    split
    · exact hb
    · decide
theorem sgl_bad {x : Cl} (hx : x.ok) (h : sizev x ≠ 1) : sgl x = (0, false) := by
  unfold sgl
  cases hf : (List.range 256).find? (hasv x) with
  | none => rfl
  | some b =>
    have hb := List.mem_range.1 (List.mem_of_find?_eq_some hf)
    have hp := List.find?_some hf
    dsimp only
    rw [if_neg fun e => h ((size_only hx hb hp).2 e)]
theorem sgl_good {x : Cl} (hx : x.ok) (h : sizev x = 1) {b : Nat} (hb : b < 256) (hp : hasv x b = true) : sgl x = (b, true) ∧ x = onlyv b := by
  have hu := (size_only hx hb hp).1 h
  refine ⟨?_, hu⟩
  rw [sgl_at hb hp fun j hj => by rw [hu, has_only hb (by omega)]; exact decide_eq_false (by omega), if_pos hu]
theorem size_some {x : Cl} (h : sizev x ≠ 0) : ∃ b, b < 256 ∧ hasv x b = true := by
  unfold sizev at h
  have : 0 < (List.range 256).countP (hasv x) := by omega
  obtain ⟨b, hb, hp⟩ := List.countP_pos_iff.1 this
  exact ⟨b, List.mem_range.1 hb, hp⟩
end Go.Proofs.YtdejablhpljdfaaGreat
namespace Go.Proofs.YtdejablhpljdfaaGreat
open Go.RowKit BG
attribute [local go_sem ↓] Go.wp_at_zero Go.wp_at_succ
set_option linter.unusedVariables false
set_option maxRecDepth 100000 in
theorem eqCl (x y : Cl) (w : World) : (Op.equalIn 10000 110 x.v y.v).run Tryz.prog w = .ok (decide (x = y)) w := by
  have h := run_equalIn_ints w .u64 9998 110 108 4 Tryz.underlying110 Tryz.underlying108 (fun w => by kernel_rfl) [x.a, x.b, x.c, x.d] [y.a, y.b, y.c, y.d] rfl rfl
  refine h.trans ?_
  congr 1
  obtain ⟨a, b, c, d⟩ := x
  obtain ⟨e, f, g, h'⟩ := y
  by_cases q : (⟨a, b, c, d⟩ : Cl) = ⟨e, f, g, h'⟩
  · cases q; simp
  · rw [decide_eq_false q]
    simp only [beq_eq_false_iff_ne, ne_eq, List.cons.injEq, and_true]
    rintro ⟨rfl, rfl, rfl, rfl⟩
    exact q rfl
set_option maxRecDepth 100000 in
set_option maxHeartbeats 4000000 in
theorem single_c (x : Cl) (hx : x.ok) (w : World) : Calls Tryz.prog 49 #[x.v] w (Ret (.tuple #[.int .u8 ((sgl x).1 : Nat), .bool (sgl x).2]) w) := by
  have hc := blk_new w x.cells
  have ka := kept_alloc (kept_refl w) x.cells
  have H := fun b hb w1 => has_c x hx b hb w1
  have W := fun b hb w1 => with_c zerov zerov_ok b hb w1
  have E := fun b w1 => eqCl x (onlyv b) w1
  have hat := fun b => sgl_at (x := x) (b := b)
  have hno := sgl_no (x := x)
  have HAT := Lib.hid hat
  have HNO := Lib.hid hno
  generalize hh : hasv x = hv at *
  generalize sgl x = sg at *
  generalize hee : (fun b => decide (x = onlyv b)) = ev at *
  have hE : ∀ b, decide (x = onlyv b) = ev b := fun b => by rw [← hee]
  simp only [hE] at E
  have HEV := Lib.hid hE
  clear hat hno hh hee hE
  obtain ⟨x0, x1, x2, x3⟩ := x
  obtain ⟨s1, s2⟩ := sg
  dsimp only [Cl.v, Cl.cells] at hc ka H E
  go_enter Tryz.func49, Tryz.ntmps49
  go_wp2_with fail
  go_loopw [6] (fun i wr => ∃ b : Nat, b ≤ 256 ∧ i = .int .i64 b ∧ wr.heap[w.heap.size]? = some (Cl.cells ⟨x0, x1, x2, x3⟩) ∧ Kept w wr ∧ Hid (∀ j, j < b → hv j = false)) (fun i _ => 256 - (intOf i).toNat)
  case atStart => exact ⟨0, Nat.zero_le _, rfl, hc, ka, fun j hj => absurd hj (Nat.not_lt_zero j)⟩
  case round =>
    clear hc ka
    obtain ⟨b, hb, rfl, hc, hkw, HM⟩ := hrel
    by_cases hlt : b < 256
    · have H := H b hlt
      have W := W b hlt
      have E := E b
      obtain ⟨c0, c1, c2, c3⟩ := cl_cells hc
      dsimp only at c0 c1 c2 c3
      cases hb : hv b
      · rw [hb] at H
        have hm' : ∀ j, j < b + 1 → hv j = false := fun j hj => by
          rcases Nat.lt_or_ge j b with h | h
          · exact HM j h
          · obtain rfl : j = b := by omega
            exact hb
        have HM' := Lib.hid hm'
        clear hm' hb W E HM
        go_wp2_with fail
        refine (H _).mono ?_
        rintro e w1 ⟨rfl, hk1⟩
        replace hc := blk_kept hk1 hc
        replace hkw := kept_trans hkw hk1
        clear c0 c1 c2 c3 H hk1
        go_wp2_with fail
        exact ⟨⟨b + 1, by omega, by go_num, hc, hkw, HM'⟩, by simp [intOf]; omega⟩
      · rw [hb] at H
        have hs := HAT.out b hlt hb HM.out
        have hev := HEV.out b
        have hso : (s1, s2) = if ev b = true then (b, true) else (0, false) := by
          rw [hs, ← hev]
          by_cases q : (⟨x0, x1, x2, x3⟩ : Cl) = onlyv b
          · rw [if_pos q, decide_eq_true q, if_pos rfl]
          · rw [if_neg q, decide_eq_false q, if_neg (by decide)]
        unfold onlyv at E
        clear hs hev HEV HAT HNO HM
        generalize hyy : withv zerov b = y at *
        clear hyy
        obtain ⟨y0, y1, y2, y3⟩ := y
        dsimp only [Cl.v, zerov] at W E
        clear hb
        go_wp2_with fail
        refine (H _).mono ?_
        rintro e w1 ⟨rfl, hk1⟩
        replace hc := blk_kept hk1 hc
        replace hkw := kept_trans hkw hk1
        clear c0 c1 c2 c3 H hk1
        obtain ⟨c0, c1, c2, c3⟩ := cl_cells hc
        dsimp only at c0 c1 c2 c3
        go_wp2_with fail
        have ks_0 := fun s => kw_cell s c0
        have ks_1 := fun s => kw_cell s c1
        have ks_2 := fun s => kw_cell s c2
        have ks_3 := fun s => kw_cell s c3
        refine wp_region_kept (by kernel_rfl) (by kernel_rfl) ?_
        repeat (first | go_big_quiet_skip | (go_big_quiet_want; go_big_quiet_op; first | go_big_quiet_on | (apply Exists.intro; refine ⟨fun s => ?_, ?_⟩; (first | (go_at_call 94; exact call_kept (W _))); go_big_quiet_on)))
        refine wpQuiet_nil ?_
        rintro w7 ⟨⟨_, hk7⟩, rfl⟩
        clear ks_0 ks_1 ks_2 ks_3 c0 c1 c2 c3 E W hc
        replace hkw := kept_trans hkw hk7
        cases hv2 : ev b
        · rw [hv2, if_neg (by decide)] at hso
          cases hso
          go_wp2_with fail
          go_ret2
          exact ⟨rfl, hkw⟩
        · rw [hv2, if_pos rfl] at hso
          cases hso
          go_wp2_with fail
          go_ret2
          exact ⟨rfl, hkw⟩
    · obtain rfl : b = 256 := by omega
      have hs := HNO.out HM.out
      cases hs
      clear W E H HEV HAT HNO HM hc
      go_wp2_with fail
      go_ret2
      exact ⟨rfl, hkw⟩
end Go.Proofs.YtdejablhpljdfaaGreat
