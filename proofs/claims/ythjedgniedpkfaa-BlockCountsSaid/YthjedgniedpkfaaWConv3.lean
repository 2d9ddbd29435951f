/-
  Layer 4 (conv): products one by one, by the code and by the document.
-/
import Derived.Test.YthjedgniedpkfaaWConv2
import Derived.Test.YthjedgniedpkfaaConvQ
namespace Go.Proofs.Ythjedgniedpkfaa
open Go.RowKit BG
attribute [local go_sem ↓] Go.wp_at_zero Go.wp_at_succ run_min_at run_max_at
set_option linter.unusedVariables false

theorem Ans.none {l : List Int} {er : Int} {w w' : World} (hl : l = []) (hk : Kept w w') : Ans l er w (.returned (.tuple #[.slice none 0 0, .int .i64 er])) w' := by
  subst hl; exact ⟨Option.none, 0, rfl, Rd.nil _ _ _, hk, by simp, by omega⟩
theorem pval_nil {xs ys : List Int} (h : xs.length = 0 ∨ ys.length = 0) : pval xs ys = [] ∧ perr xs ys = 0 := by
  refine ⟨?_, ?_⟩
  · unfold pval; rw [if_pos (by omega)]
  · unfold perr; rw [if_pos h]
theorem pval_err {xs ys : List Int} (h1 : xs.length ≠ 0) (h2 : ys.length ≠ 0) : perr xs ys = cerr xs.length ys.length (greatest xs) (greatest ys) := by
  unfold perr; rw [if_neg (by omega)]
theorem pval_bad {xs ys : List Int} (h : perr xs ys ≠ 0) : pval xs ys = [] := by unfold pval; rw [if_pos (.inr (.inr h))]
theorem pval_good {xs ys : List Int} (h1 : xs.length ≠ 0) (h2 : ys.length ≠ 0) (h : perr xs ys = 0) : pval xs ys = prodv (nth xs) (nth ys) xs.length ys.length := by unfold pval; rw [if_neg (by omega)]
theorem wrap_mod (n : Int) : IntKind.u64.wrap n = n % 18446744073709551616 := IntKind.wrap_u64 n
theorem beq_zero (n : Nat) (h : n ≠ 0) : ((n : Int) == 0) = false := by rw [beq_eq_false_iff_ne]; omega
theorem rowRd {k : IntKind} {e : TypeId} {base n g c : Nat} {w : World} {xs : List Int} (h : w.ownsRow base e 1 (.slice (some ⟨g, 0, none⟩) n c) n (xs.map (Value.int k))) (hn : xs.length = n) : Rd k w (some ⟨g, 0, none⟩) xs := by
  have hO : Own k e base w (.slice (some ⟨g, 0, none⟩) n c) xs := by
    unfold Own
    rw [hn]
    exact h
  obtain ⟨A', c', e, _, _, r⟩ := hO.rd
  simp only [Value.slice.injEq] at e
  rw [← e.1] at r
  exact r
set_option maxRecDepth 100000 in
set_option maxHeartbeats 4000000 in
theorem school_c (A B : Option Addr) (ca cb : Nat) (xs ys : List Int) (hu : U64 xs) (hv : U64 ys) (hlx : xs.length ≤ 100000000000000) (hly : ys.length ≤ 100000000000000) (w : World) (hr : Rd .u64 w A xs) (hs : Rd .u64 w B ys) : Calls Try.prog 36 #[.slice A xs.length ca, .slice B ys.length cb] w (Ans (pval xs ys) (perr xs ys) w) := by
  have hm := hr.1
  have hm2 := hs.1
  obtain ⟨i1, hif1, hy0, hy1, hy2⟩ := info_parts info_u64
  by_cases h0 : xs.length = 0
  · obtain ⟨e1, e2⟩ := pval_nil (ys := ys) (.inl h0)
    have E1 := Lib.hid e1
    rw [e2]
    obtain rfl : xs = [] := List.length_eq_zero_iff.1 h0
    clear e1 e2 h0
    go_enter Try.func36, Try.ntmps36
    go_wp2_with fail
    exact bodyPost_ret (v := .tuple #[.slice none 0 0, .int .i64 0]) (by simp [results, Try.results36, go_sem]) rfl (Ans.none E1.out (kept_refl _))
  by_cases h1 : ys.length = 0
  · obtain ⟨e1, e2⟩ := pval_nil (xs := xs) (.inr h1)
    have E1 := Lib.hid e1
    rw [e2]
    have hb := beq_zero _ h0
    obtain rfl : ys = [] := List.length_eq_zero_iff.1 h1
    clear e1 e2 h0 h1
    go_enter Try.func36, Try.ntmps36
    go_wp2_with fail
    exact bodyPost_ret (v := .tuple #[.slice none 0 0, .int .i64 0]) (by simp [results, Try.results36, go_sem]) rfl (Ans.none E1.out (kept_refl _))
  have hb0 := beq_zero _ h0
  have hb1 := beq_zero _ h1
  have C := check_c4 A B ca cb xs ys hu hv hlx hly w hr hs
  rw [← pval_err h0 h1] at C
  by_cases he : ¬ perr xs ys = 0
  · have E1 := Lib.hid (pval_bad he)
    generalize perr xs ys = er at *
    clear h0 h1
    go_enter Try.func36, Try.ntmps36
    go_wp2_with fail
    refine C.mono ?_
    rintro e w1 ⟨rfl, hk1⟩
    go_wp2_with fail
    exact bodyPost_ret (v := .tuple #[.slice none 0 0, .int .i64 er]) (by simp [results, Try.results36, go_sem]) rfl (Ans.none E1.out hk1)
  replace he := Decidable.not_not.1 he
  have hcz : cerr xs.length ys.length (greatest xs) (greatest ys) = 0 := by rw [← pval_err h0 h1]; exact he
  have hbd := (cerr_zero (greatest_bd hu).1 (greatest_bd hv).1 hcz).1
  have hval := pval_good h0 h1 he
  rw [he] at C
  rw [he, hval]
  have HA := Lib.hid (accm_all (nth xs) (nth ys) xs.length ys.length)
  have hz := accm_zero (nth xs) (nth ys) ys.length (xs.length + ys.length - 1)
  have hrow := fun i => accm_row (nth xs) (nth ys) ys.length i (xs.length + ys.length - 1)
  have hset := fun i j (h : i + j < xs.length + ys.length - 1) => accm_set (nth xs) (nth ys) ys.length i j h
  have hstep := fun i j => accm_step (nth xs) (nth ys) ys.length i j
  have hab := fun i j t => accm_bd (nth xs) (nth ys) ys.length i j t
  have hpl : (prodv (nth xs) (nth ys) xs.length ys.length).length = xs.length + ys.length - 1 := mk_length _ _
  have hN : (xs.length : Int) + (ys.length : Int) - 1 = ((xs.length + ys.length - 1 : Nat) : Int) := by omega
  have hNp : xs.length + ys.length - 1 ≤ 4096 := by omega
  have hNij : ∀ i j, i < xs.length → j < ys.length → i + j < xs.length + ys.length - 1 := fun i j h h' => by omega
  generalize hF : accm (nth xs) (nth ys) ys.length = F at *
  clear hF hval hcz he hbd
  generalize hNN : xs.length + ys.length - 1 = N at *
  have HNN := Lib.hid hNN
  generalize prodv (nth xs) (nth ys) xs.length ys.length = pv at *
  generalize hla : xs.length = la at *
  generalize hlb : ys.length = lb at *
  have HLA := Lib.hid hla
  have HLB := Lib.hid hlb
  clear hla hlb hNN
  unfold Ans
  rw [hpl]
  have HPL := Lib.hid hpl
  clear hpl
  go_enter Try.func36, Try.ntmps36
  go_wp2_with fail
  refine C.mono ?_
  rintro e w1 ⟨rfl, hk1⟩
  clear C
  go_wp2_with (refine wpList_make_full _ rfl (.tmp 31) (.tmp 31) 22 rfl w.heap.size 40 i1 (.int .u64 0) 1 Try.underlying22 hif1 hy0 hy1 .i64 .i64 _ _ N rfl rfl (by simp) (by simp) ?b2 ?b3 ?b4 ?_)
  case b2 => rw [hy2]; omega
  case b3 => unfold maxLen; omega
  case b4 => exact hk1.size
  intro w4 hown4 hgrow
  have K4 : Kept w w4 := hk1.grown hgrow hk1.size (fun k h => by cases h)
  rw [toList_madeCells_one] at hown4
  have hown5 : w4.ownsRow w.heap.size 40 1 (.slice (some ⟨w1.heap.size, 0, none⟩) N N) N ((mk N (F 0 0)).map (Value.int .u64)) := by
    rw [hz, mk_zero']; exact hown4
  clear hown4 hgrow hz hk1
  generalize w1.heap.size = g at *
  go_wp2_with fail
  go_loopw [35] (fun iv wr => ∃ i : Nat, i ≤ la ∧ iv = .int .i64 i ∧ wr.ownsRow w.heap.size 40 1 (.slice (some ⟨g, 0, none⟩) N N) N ((mk N (F i 0)).map (Value.int .u64)) ∧ Kept w wr) (fun iv _ => la - (intOf iv).toNat)
  case atStart => exact ⟨0, Nat.zero_le _, rfl, hown5, K4⟩
  case round =>
    clear hown5 K4
    obtain ⟨i, hi, rfl, hown, hk⟩ := hrel
    by_cases hlt : i < la
    · obtain ⟨ad, rfl, c0⟩ := (hr.kept hk).at_ (j := i) (by have := HLA.out; omega)
      generalize hx : nth xs i = x at *
      have HX := Lib.hid hx
      clear hx
      go_wp2_with fail
      go_loopw [42] (fun jv wx => ∃ j : Nat, j ≤ lb ∧ jv = .int .i64 j ∧ wx.ownsRow w.heap.size 40 1 (.slice (some ⟨g, 0, none⟩) N N) N ((mk N (F i j)).map (Value.int .u64)) ∧ Kept w wx) (fun jv _ => lb - (intOf jv).toNat)
      case atStart => exact ⟨0, Nat.zero_le _, rfl, hown, hk⟩
      case round =>
        clear hown hk c0
        obtain ⟨j, hj, rfl, hown, hk⟩ := hrel
        by_cases hltj : j < lb
        · obtain ⟨bd, rfl, c1⟩ := (hs.kept hk).at_ (j := j) (by have := HLB.out; omega)
          have hij := hNij i j hlt hltj
          have hS := hset i j hij
          have hT := hstep i j
          have bo := hab i j (i + j)
          have bn := hab i (j + 1) (i + j)
          rw [HX.out] at hT
          have d0 := World.ownsRow.cellAt hown (i + j) (by omega)
          rw [List.getElem?_map, List.getElem?_eq_getElem (by rw [mk_length]; omega), Option.map_some, ← nth_lt (by rw [mk_length]; omega), nth_mk hij] at d0
          have f0 := World.ownsRow.frozenAt hown (i + j)
          have S := World.ownsRow.stored hown (i + j) (.int .u64 (F i (j + 1) (i + j)))
          rw [← List.map_set, hS] at S
          have HSS := Lib.hid S
          clear hS S
          generalize nth ys j = y at *
          have p0 : 0 ≤ x * y % 18446744073709551616 ∧ x * y % 18446744073709551616 ≤ 18446744073709551615 := by omega
          have m1 : IntKind.u64.wrap (x * y) = x * y % 18446744073709551616 := wrap_mod _
          generalize hp : x * y % 18446744073709551616 = p at *
          have m2 : IntKind.u64.wrap (F i j (i + j) + p) = F i (j + 1) (i + j) := by rw [wrap_mod]; exact hT
          generalize hFo : F i j (i + j) = o at *
          generalize hFn : F i (j + 1) (i + j) = o2 at *
          clear hset hstep hab hrow hNij hFo hFn
          have ea : (⟨g, 0, none⟩ : Addr).add (i + j) = ⟨g, i + j, none⟩ := by unfold Addr.add; split <;> simp_all
          go_wp2_with fail
          exact ⟨⟨j + 1, by omega, by go_num, HSS.out.1, kept_grown hk hown (Nat.le_refl _) HSS.out.2⟩, by simp [intOf]; omega⟩
        · obtain rfl : j = lb := by omega
          rw [hrow] at hown
          go_wp2_with fail
          exact ⟨⟨i + 1, by omega, by go_num, hown, hk⟩, by simp [intOf]; omega⟩
    · obtain rfl : i = la := by omega
      rw [HA.out] at hown
      go_wp2_with fail
      exact bodyPost_ret (v := .tuple #[.slice (some ⟨g, 0, none⟩) N N, .int .i64 0]) (by simp [results, Try.results36, go_sem]) rfl ⟨_, _, rfl, rowRd hown HPL.out, hk, Nat.le_refl _, by omega⟩
end Go.Proofs.Ythjedgniedpkfaa
