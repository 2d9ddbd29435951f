/-
  Texts of one claim, joined: Law10P, TEvalP, TEval1, TEval2, TEval4, Own2.
-/
import Derived.Test.YtdejablhpljdfaaGreatQ16
import Derived.Test.YtdejablhpljdfaaGreatQ05
import Derived.Test.YtdejablhpljdfaaGreatQ23
import Derived.Test.YtdejablhpljdfaaGreatQ14
namespace Go.Proofs.YtdejablhpljdfaaGreat
open Go.RowKit BG
set_option linter.unusedVariables false
theorem sumTo_zero {f : Nat → Int} (h : ∀ j, 0 ≤ f j) : ∀ n, sumTo n f = 0 ↔ ∀ j, j < n → f j = 0 := by
  intro n
  have hp : ∀ m, 0 ≤ sumTo m f := by
    intro m
    induction m with
    | zero => exact Int.le_refl 0
    | succ m ih => have := h m; show 0 ≤ sumTo m f + f m; omega
  induction n with
  | zero => exact ⟨fun _ j hj => absurd hj (Nat.not_lt_zero j), fun _ => rfl⟩
  | succ n ih =>
    have h1 := hp n
    have h2 := h n
    constructor
    · intro e j hj
      have e2 : sumTo n f + f n = 0 := e
      rcases Nat.lt_or_ge j n with hl | hg
      · exact (ih.1 (by omega)) j hl
      · obtain rfl : j = n := by omega
        omega
    · intro e
      have e1 := ih.2 fun j hj => e j (by omega)
      have e2 := e n (by omega)
      show sumTo n f + f n = 0
      omega
theorem val_cases {x : Cl} (hx : x.ok) (ho : okel x = true) : (valv x = 0 ∧ x = fullv) ∨ ∃ b, b < 256 ∧ x = onlyv b ∧ valv x = b + 1 := by
  unfold okel at ho
  by_cases h : (sgl x).2 = true
  · right
    by_cases h1 : sizev x = 1
    · obtain ⟨b, hb, hp⟩ := size_some (x := x) (by omega)
      obtain ⟨e1, e2⟩ := sgl_good hx h1 hb hp
      exact ⟨b, hb, e2, by unfold valv; rw [e1]; rfl⟩
    · rw [sgl_bad hx h1] at h; cases h
  · left
    rw [Bool.eq_false_iff.2 h, Bool.false_or] at ho
    exact ⟨by unfold valv; rw [if_neg h], of_decide_eq_true ho⟩
theorem term_zero {x : Cl} (hx : x.ok) (ho : okel x = true) {b : Nat} (hb : b < 256) : (valv x : Int) * ((valv x : Int) - ((b : Int) + 1)) * ((valv x : Int) - ((b : Int) + 1)) = 0 ↔ hasv x b = true := by
  rcases val_cases hx ho with ⟨h0, rfl⟩ | ⟨b0, h0, rfl, hv⟩
  · rw [h0, has_full]
    simp
  · rw [hv, has_only h0 hb, decide_eq_true_eq]
    constructor
    · intro e
      rcases Int.mul_eq_zero.1 e with e | e
      · rcases Int.mul_eq_zero.1 e with e | e <;> omega
      · omega
    · rintro rfl
      rw [show ((b + 1 : Nat) : Int) - ((b : Int) + 1) = 0 by omega]
      simp
theorem plain_el {xs : List Int} {n j : Nat} (h : plainv xs n = true) (hj : j < n) : okel (cls xs j) = true := by
  unfold plainv at h
  exact List.all_eq_true.1 h j (List.mem_range.2 hj)
theorem zero_law {xs : List Int} {n : Nat} {s : ByteArray} {i : Nat} (hu : U64 xs) (hp : plainv xs n = true) : sumW xs n s i = 0 ↔ missv xs n s i = 0 := by
  unfold sumW missv
  rw [sumTo_zero (f := termW xs s i) (fun j => nn_sq _ _ (Int.natCast_nonneg _)), List.countP_eq_zero]
  constructor
  · intro h j hj
    have := (term_zero (cls_ok hu j) (plain_el hp (List.mem_range.1 hj)) (byteAt_lt s (i + j))).1 (h j (List.mem_range.1 hj))
    unfold misses
    rw [this]
    decide
  · intro h j hj
    have h1 := h j (List.mem_range.2 hj)
    unfold misses at h1
    exact (term_zero (cls_ok hu j) (plain_el hp hj) (byteAt_lt s (i + j))).2 (by simpa using h1)
theorem sums_ok {xs : List Int} {n : Nat} {K : Int} {s : ByteArray} {size : Int} (h : sumsE xs n K s.size size = 0) : rightv xs n K = true ∧ plainv xs n = true ∧ sumsL xs n K s size = mk (s.size + 1 - n) (sumW xs n s) := by
  have hL : sumsL xs n K s size = resL xs n s := by unfold sumsL; rw [h, if_pos rfl]
  unfold sumsE at h
  split at h
  · rename_i h1
    rw [Bool.and_eq_true] at h1
    exact ⟨h1.1, h1.2, by rw [hL, resL_eq (rightv_n h1.1).1]⟩
  · cases h
theorem counts_ok {xs : List Int} {n : Nat} {K : Int} {s : ByteArray} (h : rightv xs n K = true) : countsv xs n K s = mk (s.size + 1 - n) (missF xs n s) := by unfold countsv; rw [if_pos h]
theorem find_ok {xs : List Int} {n : Nat} {K : Int} {s : ByteArray} {size : Int} (hu : U64 xs) (h : findE xs n K s.size size = 0) : findL xs n K s size = hitsv (countsv xs n K s) K := by
  unfold findE at h
  split at h
  · rename_i hK
    subst hK
    obtain ⟨h1, h2, h3⟩ := sums_ok h
    unfold findL
    rw [if_pos rfl, h3, counts_ok h1]
    unfold zerT hitsv hitsT
    rw [mk_length, mk_length]
    congr 1
    refine List.filter_congr fun i hi => ?_
    have hi := List.mem_range.1 hi
    rw [nth_mk hi, nth_mk hi]
    unfold missF
    have := zero_law (s := s) (i := i) hu h2
    rw [decide_eq_decide, this]
    omega
  · cases h
end Go.Proofs.YtdejablhpljdfaaGreat
namespace Go.Proofs.YtdejablhpljdfaaGreat
open Go.RowKit BG
set_option linter.unusedVariables false
theorem range_cut {p q : Nat → Bool} {a b : Nat} (hab : a ≤ b) (h1 : ∀ i, i < a → p i = q i) (h2 : ∀ i, a ≤ i → i < b → p i = false) : (List.range b).filter p = (List.range a).filter q := by
  obtain ⟨d, rfl⟩ : ∃ d, b = a + d := ⟨b - a, by omega⟩
  clear hab
  induction d with
  | zero => exact List.filter_congr fun i hi => h1 i (List.mem_range.1 hi)
  | succ d ih =>
    rw [← Nat.add_assoc, List.range_succ, List.filter_append, ih (fun i a b => h2 i a (by omega))]
    simp [h2 (a + d) (by omega) (by omega)]
theorem sgl_true {x : Cl} (h : (sgl x).2 = true) : x = onlyv (sgl x).1 := by
  unfold sgl at h ⊢
  cases hf : (List.range 256).find? (hasv x) with
  | none => rw [hf] at h; cases h
  | some b =>
    rw [hf] at h
    dsimp only at h ⊢
    by_cases hx : x = onlyv b
    · rw [if_pos hx]; exact hx
    · rw [if_neg hx] at h; cases h
theorem lettersS_at {xs : List Int} {n j : Nat} (h : lettersOk xs n = true) (hj : j < n) : byteAt (lettersS xs n) j = (sgl (cls xs j)).1 := by
  have hs : j < (lettersS xs n).size := by rw [lettersS_size h]; exact hj
  rw [← byteAt_eq hs]
  have e : lettersS xs n = ⟨(lettersL xs n).toArray⟩ := by unfold lettersS; rw [if_pos h]
  have hl : j < (lettersL xs n).length := by rw [lettersL_len]; exact hj
  have h1 : ((lettersS xs n)[j]'hs) = (lettersL xs n)[j]'hl := by
    simp only [e]
    rfl
  rw [h1]
  have := lettersL_at hl
  rw [nth_mk hj] at this
  unfold sglF at this
  omega
theorem letters_ok {xs : List Int} {n : Nat} (h : lettersOk xs n = true) {j : Nat} (hj : j < n) : (sgl (cls xs j)).2 = true := by
  cases hc : (sgl (cls xs j)).2
  · rw [lettersOk_no hj hc] at h; cases h
  · rfl
theorem goes_has {xs : List Int} {n : Nat} {s : ByteArray} (h : lettersOk xs n = true) {i j : Nat} (hj : j < n) (hi : i + n ≤ s.size) : goesOn (lettersS xs n) s i j ↔ hasv (cls xs j) (byteAt s (i + j)) = true := by
  have hx := sgl_true (letters_ok h hj)
  have hb := sgl_lt (cls xs j)
  unfold goesOn
  rw [lettersS_size h, lettersS_at h hj]
  constructor
  · rintro ⟨_, _, e⟩
    rw [hx, has_only hb (byteAt_lt _ _), e]; simp
  · intro e
    rw [hx, has_only hb (byteAt_lt _ _)] at e
    exact ⟨hj, by omega, (of_decide_eq_true e).symm⟩
theorem miss_zero {xs : List Int} {n : Nat} {s : ByteArray} {i : Nat} : missF xs n s i ≤ 0 ↔ ∀ j, j < n → misses xs s i j = false := by
  unfold missF missv
  constructor
  · intro h j hj
    have : (List.range n).countP (misses xs s i) = 0 := by omega
    rw [List.countP_eq_zero] at this
    have := this j (List.mem_range.2 hj)
    simpa using this
  · intro h
    have : (List.range n).countP (misses xs s i) = 0 := by
      rw [List.countP_eq_zero]
      intro j hj
      rw [h j (List.mem_range.1 hj)]; decide
    omega
theorem zed_law {xs : List Int} {n : Nat} {s : ByteArray} (hr : rightv xs n 0 = true) (h : lettersOk xs n = true) : zedF (lettersS xs n) s = hitsv (countsv xs n 0 s) 0 := by
  obtain ⟨hn1, -⟩ := rightv_n hr
  have hz := lettersS_size h
  unfold zedF hitsv hitsT zhit countsv
  rw [if_neg (by omega), if_pos hr, mk_length]
  refine congrArg _ (range_cut (by omega) (fun i hi => ?_) fun i h1 h2 => ?_)
  · rw [nth_mk hi, hz]
    have hin : i + n ≤ s.size := by omega
    by_cases hm : ∀ j, j < n → misses xs s i j = false
    · rw [decide_eq_true (miss_zero.2 hm)]
      refine decide_eq_true (isL_eq ⟨fun k hk => (goes_has h hk hin).2 ?_, fun g => by have := g.1; omega⟩)
      have := hm k hk
      unfold misses at this
      simpa using this
    · rw [decide_eq_false (fun hq => hm (miss_zero.1 hq))]
      refine decide_eq_false fun hl => hm fun j hj => ?_
      have := (lcp_is (lettersS xs n) s i).1 j (by omega)
      have := (goes_has h hj hin).1 this
      unfold misses
      simp [this]
  · refine decide_eq_false fun hl => ?_
    have := (lcp_is (lettersS xs n) s i).1 (n - 1) (by omega)
    have := this.2.1
    omega
theorem way_law {way : Nat} {xs : List Int} {n : Nat} {K : Int} {s : ByteArray} {size : Int} (hu : U64 xs) (hw : way ≤ 5) (hz : sizedv way xs n K s.size size = true) : mFL way xs n K s size = hitsv (countsv xs n K s) K ∧ mFE way xs n K s.size size = 0 := by
  have hz0 := hz
  have ha : admitsv way xs n K = true := by unfold sizedv at hz; rw [Bool.and_eq_true] at hz; exact hz.1
  have he : matE way xs n K s.size size = 0 := by unfold matE; rw [if_pos ha, if_pos hz]
  have hrv : rightv xs n K = true := by unfold admitsv at ha; rw [Bool.and_eq_true] at ha; exact ha.1
  have hfr : freeb way xs n = true ∨ ((s.size : Int) < (n : Int)) ∨ szb n size = true := by
    unfold sizedv at hz
    simp only [Bool.and_eq_true, Bool.or_eq_true, decide_eq_true_eq] at hz
    rcases hz.2 with (h | h) | h
    · exact .inl h
    · exact .inr (.inl h)
    · refine .inr (.inr ?_)
      unfold szb; rw [h.1, decide_eq_true h.2]; rfl
  unfold mFL mFE
  rw [if_pos he, if_pos he]
  have hw2 : way = 0 ∨ way = 1 ∨ way = 2 ∨ way = 3 ∨ way = 4 ∨ way = 5 := by omega
  rcases hw2 with rfl | rfl | rfl | rfl | rfl | rfl
  · unfold admitsv at ha; simp at ha
  · exact ⟨rfl, rfl⟩
  · unfold admitsv at ha
    simp at ha
    obtain ⟨-, hlo, rfl⟩ := ha
    exact ⟨zed_law hrv hlo, rfl⟩
  · unfold admitsv at ha
    simp at ha
    obtain ⟨-, hpl, rfl⟩ := ha
    have hfe : findE xs n 0 s.size size = 0 := by
      unfold findE sumsE errW
      rw [if_pos rfl, if_pos (by rw [hrv, hpl]; rfl)]
      cases hsl : slb n s.size
      · rfl
      · rw [if_pos rfl]
        unfold slb at hsl
        have hsl := of_decide_eq_true hsl
        rcases hfr with h | h | h
        · unfold freeb at h; simp at h
        · omega
        · rw [if_pos h]
    exact ⟨find_ok hu hfe, hfe⟩
  · have hse : symE xs n K s.size size = 0 := by
      unfold symE
      rw [if_pos hrv, if_neg]
      rintro ⟨h1, h2⟩
      rcases hfr with h | h | h
      · unfold freeb at h; simp at h
      · omega
      · rw [h] at h2; cases h2
    refine ⟨?_, hse⟩
    show symF xs n K s size = _
    unfold symF; rw [if_pos hse]
  · have hpl : plainv xs n = true := by unfold admitsv at ha; simp at ha; exact ha.2
    have hse : splEr xs n K s.size size = 0 := by
      unfold splEr splE
      rw [if_pos ⟨hrv, hpl⟩, if_neg]
      rintro ⟨h0, h1, h2⟩
      rcases hfr with h | h | h
      · unfold freeb at h
        simp at h
        have : partsF xs n (kindsC xs n) = (frqL xs n).length := by
          unfold partsF frqL
          rw [List.countP_eq_length_filter]
          rfl
        omega
      · omega
      · rw [h] at h2; cases h2
    refine ⟨?_, hse⟩
    show splF xs n K s size = _
    unfold splF; rw [if_pos hse]
theorem chosen_law {k : Nat} {xs : List Int} {n : Nat} {K : Int} {s : ByteArray} {size : Int} (hu : U64 xs) (hr : rightv xs n K = true) (h : Chosen (fun j => sizedv j xs n K s.size size) k) : 1 ≤ k ∧ k ≤ 5 ∧ mFL k xs n K s size = hitsv (countsv xs n K s) K ∧ mFE k xs n K s.size size = 0 := by
  obtain ⟨h1, h2, h3⟩ := h
  have h0 : k ≠ 0 := fun h => by
    have := h3 h 1 (by omega) (by omega)
    dsimp only at this
    unfold sizedv admitsv freeb at this
    rw [hr] at this
    simp at this
  have h2 : sizedv k xs n K s.size size = true := by
    rcases h2 with h2 | h2
    · exact absurd h2 h0
    · exact h2
  obtain ⟨a, b⟩ := way_law hu h1 h2
  exact ⟨by omega, h1, a, b⟩
end Go.Proofs.YtdejablhpljdfaaGreat
namespace Go.Proofs.YtdejablhpljdfaaGreat
open Go.RowKit BG
attribute [local go_sem ↓] Go.wp_at_zero Go.wp_at_succ run_max_at run_min_at
set_option linter.unusedVariables false
def confV (F Z : Int) : Value := .agg #[.int .i64 F, .int .i64 Z]
def evSz (n : Nat) (N Z : Int) : Int := if Z = 0 then fitv n N else Z
set_option maxRecDepth 100000 in
set_option maxHeartbeats 1000000 in
theorem evsize_c (A : Option Addr) (cap n : Nat) (K N F Z : Int) (w : World) : Calls Tryz.prog 137 #[leafV A n cap K, .int .i64 N, confV F Z] w (Ret (.int .i64 (evSz n N Z)) w) := by
  have FT := fun w1 => fit_c n N w1
  have hb := blk_alloc (blk_new w (.cells #[.slice A n cap, .int .i64 K] 61)) (.cells #[.int .i64 F, .int .i64 Z] 32)
  have hc := blk_new1 w (.cells #[.slice A n cap, .int .i64 K] 61) (.cells #[.int .i64 F, .int .i64 Z] 32)
  have ka := kept_alloc (kept_alloc (kept_refl w) (.cells #[.slice A n cap, .int .i64 K] 61)) (.cells #[.int .i64 F, .int .i64 Z] 32)
  have c0 := blk_cell hb 0
  have c1 := blk_cell hb 1
  have c2 := blk_cell hc 0
  have c3 := blk_cell hc 1
  unfold evSz
  show Calls _ _ #[leafV A n cap K, .int .i64 N, .agg #[.int .i64 F, .int .i64 Z]] _ _
  generalize fitv n N = ft at *
  by_cases hz : Z = 0
  · subst hz
    rw [if_pos rfl]
    go_enter Tryz.func137, Tryz.ntmps137
    go_wp2_with fail
    refine (FT _).mono ?_
    rintro e w1 ⟨rfl, hk1⟩
    clear FT c0 c1 c2 c3
    go_wp2_with fail
    go_ret
    exact ⟨rfl, kept_trans ka hk1⟩
  · rw [if_neg hz]
    have e1 : (Z != 0) = true := by rw [bne_iff_ne]; exact hz
    go_enter Tryz.func137, Tryz.ntmps137
    go_wp2_with fail
    go_ret
    exact ⟨rfl, ka⟩
end Go.Proofs.YtdejablhpljdfaaGreat
namespace Go.Proofs.YtdejablhpljdfaaGreat
open Go.RowKit BG
attribute [local go_sem ↓] Go.wp_at_zero Go.wp_at_succ run_max_at run_min_at
set_option linter.unusedVariables false
set_option maxRecDepth 100000 in
set_option maxHeartbeats 2000000 in
theorem evway_c (F : Nat) (hF : F ≤ 5) (Z : Int) (A : Option Addr) (cap n : Nat) (xs : List Int) (K : Int) (hu : U64 xs) (hl : xs.length = 4 * n) (hn : n ≤ 1000000) (N : Int) (w : World) (hr : Rd .u64 w A xs) : Calls Tryz.prog 136 #[leafV A n cap K, .int .i64 N, confV F Z] w fun e w' => ∃ k : Nat, e = .returned (.int .i64 (k : Nat)) ∧ Chosen (fun j => sizedv j xs n K N (evSz n N Z)) k ∧ Kept w w' := by
  have SZ := fun w1 => evsize_c A cap n K N F Z w1
  have PS := fun sz w1 h => psized_c F hF A cap n xs K hu hl hn N sz w1 h
  have CH := fun sz w1 h => choose_c A cap n xs K hu hl hn N sz w1 h
  have hb := blk_alloc (blk_new w (.cells #[.slice A n cap, .int .i64 K] 61)) (.cells #[.int .i64 (F : Nat), .int .i64 Z] 32)
  have hc := blk_new1 w (.cells #[.slice A n cap, .int .i64 K] 61) (.cells #[.int .i64 (F : Nat), .int .i64 Z] 32)
  have ka := kept_alloc (kept_alloc (kept_refl w) (.cells #[.slice A n cap, .int .i64 K] 61)) (.cells #[.int .i64 (F : Nat), .int .i64 Z] 32)
  have c0 := blk_cell hb 0
  have c1 := blk_cell hb 1
  have c2 := blk_cell hc 0
  have c3 := blk_cell hc 1
  generalize evSz n N Z = sz at *
  have PS := PS sz
  have CH := CH sz
  show Calls _ _ #[leafV A n cap K, .int .i64 N, .agg #[.int .i64 (F : Nat), .int .i64 Z]] _ _
  unfold confV at SZ
  go_enter Tryz.func136, Tryz.ntmps136
  go_wp2_with fail
  refine (SZ _).mono ?_
  rintro e w1 ⟨rfl, hk1⟩
  replace hb := blk_kept hk1 hb
  replace hc := blk_kept hk1 hc
  replace ka := kept_trans ka hk1
  replace c0 := blk_cell hb 0
  replace c1 := blk_cell hb 1
  replace c2 := blk_cell hc 0
  replace c3 := blk_cell hc 1
  clear SZ hk1
  go_wp2_with fail
  refine (PS _ (hr.kept ka)).mono ?_
  rintro e w2 ⟨rfl, hk2⟩
  replace hb := blk_kept hk2 hb
  replace hc := blk_kept hk2 hc
  replace ka := kept_trans ka hk2
  replace c0 := blk_cell hb 0
  replace c1 := blk_cell hb 1
  replace c2 := blk_cell hc 0
  clear PS hk2 c3
  have h0 : sizedv 0 xs n K N sz = false := by simp [sizedv, admitsv]
  cases hz : sizedv F xs n K N sz
  · have HZ := Lib.hid hz
    clear hz h0
    go_wp2_with fail
    refine (CH _ (hr.kept ka)).mono ?_
    rintro e w3 ⟨k, rfl, hcz, hk3⟩
    have HC := Lib.hid (⟨hcz, kept_trans ka hk3⟩ : _ ∧ _)
    clear CH hcz hk3 c0 c1 c2
    go_wp2_with fail
    go_ret
    exact ⟨k, rfl, HC.out.1, HC.out.2⟩
  · have hF0 : F ≠ 0 := fun h => by rw [h, h0] at hz; cases hz
    have HZ := Lib.hid (⟨hz, hF0⟩ : _ ∧ _)
    clear hz h0 hF0
    go_wp2_with fail
    go_ret
    exact ⟨F, rfl, ⟨hF, .inr HZ.out.1, fun h => absurd h HZ.out.2⟩, ka⟩
end Go.Proofs.YtdejablhpljdfaaGreat
namespace Go.Proofs.YtdejablhpljdfaaGreat
open Go.RowKit BG
attribute [local go_sem ↓] Go.wp_at_zero Go.wp_at_succ run_max_at run_min_at
set_option linter.unusedVariables false
def AnsH (L : List Int) (w : World) (e : Ending) (w' : World) : Prop := ∃ A c N E, e = .returned (.tuple #[.slice A L.length c, .int .i64 N, .int .i64 E]) ∧ RdF w.heap.size .i64 w' A L ∧ Kept w w'
theorem mfind_c (k : Nat) (h1 : 1 ≤ k) (h5 : k ≤ 5) (A : Option Addr) (cap n : Nat) (xs : List Int) (K : Int) (s : ByteArray) (size : Int) (hu : U64 xs) (hl : xs.length = 4 * n) (hn : n ≤ 1000000) (hsz : s.size ≤ 900000) (w : World) (hr : Rd .u64 w A xs) : Calls Tryz.prog 26 #[.int .i64 (k : Nat), leafV A n cap K, .string s, .int .i64 size] w (AnsJ (mFL k xs n K s size) (mFN k xs n K s.size size) (mFE k xs n K s.size size) w) := by
  have h : k = 1 ∨ k = 2 ∨ k = 3 ∨ k = 4 ∨ k = 5 := by omega
  rcases h with rfl | rfl | rfl | rfl | rfl
  · exact mfind_1 A cap n xs K s size hu hl hn hsz w hr
  · exact mfind_2 A cap n xs K s size hu hl hn hsz w hr
  · exact mfind_3 A cap n xs K s size hu hl hn hsz w hr
  · exact mfind_4 A cap n xs K s size hu hl hn hsz w hr
  · exact mfind_5 A cap n xs K s size hu hl hn hsz w hr
set_option maxRecDepth 100000 in
set_option maxHeartbeats 4000000 in
theorem evleaf_c (F : Nat) (hF : F ≤ 5) (Z : Int) (A : Option Addr) (cap n : Nat) (xs : List Int) (K : Int) (s : ByteArray) (hu : U64 xs) (hl : xs.length = 4 * n) (hrv : rightv xs n K = true) (hsz : s.size ≤ 900000) (w : World) (hr : Rd .u64 w A xs) : Calls Tryz.prog 74 #[leafV A n cap K, .string s, confV F Z] w (AnsH (hitsv (countsv xs n K s) K) w) := by
  obtain ⟨-, hn64, -⟩ := rightv_n hrv
  have WY := fun w1 h => evway_c F hF Z A cap n xs K hu hl (by omega) s.size w1 h
  have SZ := fun w1 => evsize_c A cap n K s.size F Z w1
  have FD : ∀ k : Nat, Chosen (fun j => sizedv j xs n K s.size (evSz n s.size Z)) k → ∀ w1, Rd .u64 w1 A xs → Calls Tryz.prog 26 #[.int .i64 (k : Nat), leafV A n cap K, .string s, .int .i64 (evSz n s.size Z)] w1 (AnsH (hitsv (countsv xs n K s) K) w1) := fun k hk w1 h => by
    obtain ⟨a, b, c, d⟩ := chosen_law hu hrv hk
    refine (mfind_c k a b A cap n xs K s _ hu hl (by omega) hsz w1 h).mono ?_
    rintro e w2 ⟨B, c2, rfl, rd, hk2⟩
    rw [c] at rd ⊢
    exact ⟨B, c2, _, _, rfl, rd, hk2⟩
  have hb := blk_alloc (blk_new w (.cells #[.slice A n cap, .int .i64 K] 61)) (.cells #[.int .i64 (F : Nat), .int .i64 Z] 32)
  have hc := blk_new1 w (.cells #[.slice A n cap, .int .i64 K] 61) (.cells #[.int .i64 (F : Nat), .int .i64 Z] 32)
  have ka := kept_alloc (kept_alloc (kept_refl w) (.cells #[.slice A n cap, .int .i64 K] 61)) (.cells #[.int .i64 (F : Nat), .int .i64 Z] 32)
  have c0 := blk_cell hb 0
  have c1 := blk_cell hb 1
  have c2 := blk_cell hc 0
  have c3 := blk_cell hc 1
  have hrr := hr.kept ka
  have kr := kept_refl ((w.alloc (.cells #[.slice A n cap, .int .i64 K] 61)).alloc (.cells #[.int .i64 (F : Nat), .int .i64 Z] 32))
  unfold confV at *
  generalize hitsv (countsv xs n K s) K = zl at *
  generalize hch : (fun k => Chosen (fun j => sizedv j xs n K s.size (evSz n s.size Z)) k) = ch at *
  have WYh : ∀ w1 : World, Rd .u64 w1 A xs → Calls Tryz.prog 136 #[leafV A n cap K, .int .i64 (s.size : Nat), .agg #[.int .i64 (F : Nat), .int .i64 Z]] w1 fun e w' => ∃ k : Nat, e = .returned (.int .i64 (k : Nat)) ∧ ch k ∧ Kept w1 w' := by rw [← hch]; exact WY
  clear WY
  have FDh : ∀ k : Nat, ch k → ∀ w1, Rd .u64 w1 A xs → Calls Tryz.prog 26 #[.int .i64 (k : Nat), leafV A n cap K, .string s, .int .i64 (evSz n s.size Z)] w1 (AnsH zl w1) := by rw [← hch]; exact FD
  clear FD
  clear hch
  generalize evSz n s.size Z = sz at *
  go_enter Tryz.func74, Tryz.ntmps74
  go_wp2_with fail
  clear hr hb hc
  go_region_held3 (fun w' => w'.cell? ⟨w.heap.size, 0, none⟩ = some (.slice A n cap) ∧ w'.cell? ⟨w.heap.size, 1, none⟩ = some (.int .i64 K) ∧ w'.cell? ⟨w.heap.size + 1, 0, none⟩ = some (.int .i64 (F : Nat)) ∧ w'.cell? ⟨w.heap.size + 1, 1, none⟩ = some (.int .i64 Z)) (first | exact ⟨by assumption, by assumption, by assumption, by assumption⟩ | exact ⟨kept_cell hk4 c0, kept_cell hk4 c1, kept_cell hk4 c2, kept_cell hk4 c3⟩ | exact ⟨kept_cell hk3 c0, kept_cell hk3 c1, kept_cell hk3 c2, kept_cell hk3 c3⟩ | exact ⟨kept_cell hk2 c0, kept_cell hk2 c1, kept_cell hk2 c2, kept_cell hk2 c3⟩) (first | (go_at_call 137; refine (SZ _).mono ?_; rintro e w3 ⟨rfl, hk3⟩; (first | replace hk3 := kept_trans hk2 hk3 | replace hk3 := kept_trans (kept_drew kr) hk3)) | (go_at_call 136; (first | refine (WYh _ (hrr.kept hk3)).mono ?_ | refine (WYh _ (hrr.kept (kept_drew kr))).mono ?_); rintro e w2 ⟨k, rfl, hck, hk2⟩; (first | replace hk2 := kept_trans hk3 hk2 | replace hk2 := kept_trans (kept_drew kr) hk2)) | (go_at_call 26; (first | (refine (FDh k hck _ (hrr.kept hk3)).mono ?_; rintro e w4 ⟨A3, c3', N, E, rfl, rd3, hk4⟩; replace rd3 := rd3.less hk3.size; replace hk4 := kept_trans hk3 hk4) | (refine (FDh k hck _ (hrr.kept hk2)).mono ?_; rintro e w4 ⟨A3, c3', N, E, rfl, rd3, hk4⟩; replace rd3 := rd3.less hk2.size; replace hk4 := kept_trans hk2 hk4))))
  all_goals
    have HR := Lib.hid (⟨rd3, kept_trans ka hk4⟩ : _ ∧ _)
    clear rd3 hk4 hk3 hk2 FDh WYh SZ
    generalize hzz : zl.length = zz at *
    have HZ := Lib.hid hzz
    clear hzz
    go_wp2_with fail
    exact bodyPost_ret (v := .tuple #[.slice A3 zz c3', .int .i64 N, .int .i64 E]) (by simp [results, Tryz.results74, go_sem]) rfl ⟨A3, c3', N, E, by rw [HZ.out], HR.out.1.less ka.size, HR.out.2⟩
end Go.Proofs.YtdejablhpljdfaaGreat
namespace Go.Proofs.YtdejablhpljdfaaGreat
open Go.RowKit BG
attribute [local go_sem ↓] Go.wp_at_zero Go.wp_at_succ
set_option linter.unusedVariables false
theorem blk_drew {w : World} {g : Nat} {o : Obj} (h : w.heap[g]? = some o) : w.drew.heap[g]? = some o := h
def Own2 (base : Nat) (w : World) (v : Value) (n : Nat) (xs : List Int) : Prop := w.ownsRow base 131 2 v n (xs.map (Value.int .i64))
theorem Own2.nil (base : Nat) (w : World) : Own2 base w (.slice none 0 0) 0 [] := ⟨by simp, .inl ⟨rfl, rfl⟩⟩
theorem Own2.kept {base n : Nat} {w w1 : World} {v : Value} {xs : List Int} (h : Own2 base w v n xs) (hk : Kept w w1) : Own2 base w1 v n xs :=
  World.ownsRow.kept h (⟨hk.os, hk.tape, hk.output, hk.size, fun i hi _ => hk.block i hi⟩ : w.grownBy w1 none) (by cases v.ownBlock <;> simp)
theorem Own2.rd {base n : Nat} {w : World} {v : Value} {xs : List Int} (h : Own2 base w v n xs) (hb : n ≤ 1000000000000000) : ∃ A c, v = .slice A n c ∧ xs.length = 2 * n ∧ Rd .i64 w A xs := by
  have hl : xs.length = 2 * n := by have := h.1; rw [List.length_map] at this; omega
  rcases h.2 with ⟨rfl, rfl⟩ | ⟨g, cap, cur, rfl, _, _, h1, h2, _⟩
  · exact ⟨none, 0, rfl, hl, by omega, fun hp => by omega⟩
  · refine ⟨_, cap, rfl, hl, by omega, fun _ => ⟨_, rfl, fun j hj => World.ownsRow.cells h (g := g) rfl j _ ?_⟩⟩
    rw [List.getElem?_map, List.getElem?_eq_getElem hj, Option.map_some, nth_lt hj]
theorem Own2.pos {base n : Nat} {w : World} {v : Value} {xs : List Int} (h : Own2 base w v n xs) (hn : 0 < n) (hb : n ≤ 1000000000000000) : ∃ g c, v = .slice (some ⟨g, 0, none⟩) n c ∧ xs.length = 2 * n ∧ Rd .i64 w (some ⟨g, 0, none⟩) xs := by
  obtain ⟨A, c, rfl, hl, hr⟩ := h.rd hb
  rcases h.2 with ⟨h', _⟩ | ⟨g, cap, cur, h', _⟩
  · simp at h'; omega
  · simp only [Value.slice.injEq] at h'
    obtain ⟨rfl, _, rfl⟩ := h'
    exact ⟨g, c, rfl, hl, hr⟩
theorem info_p2 : (Tryz.prog.info? 131).map (fun i => (i.zero, i.size, i.bytes)) = some (some (.agg #[.int .i64 0, .int .i64 0]), 2, 16) := by kernel_rfl
theorem Own2.less {base base' n : Nat} {w : World} {v : Value} {xs : List Int} (h : Own2 base w v n xs) (hb : base' ≤ base) : Own2 base' w v n xs := by
  obtain ⟨h1, h2⟩ := h
  refine ⟨h1, ?_⟩
  rcases h2 with h2 | ⟨g, cap, cur, hv, hg, r⟩
  · exact .inl h2
  · exact .inr ⟨g, cap, cur, hv, Nat.le_trans hb hg, r⟩
end Go.Proofs.YtdejablhpljdfaaGreat
