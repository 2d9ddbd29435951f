/-
  Layer 4 (conv): rows along rows, by the document.
-/
import Derived.Test.YthjedgniedpkfaaWConv4
namespace Go.Proofs.Ythjedgniedpkfaa
open Go.RowKit BG
attribute [local go_sem ↓] Go.wp_at_zero Go.wp_at_succ run_min_at run_max_at
set_option linter.unusedVariables false

def slT (p t : Nat → Int) (i j : Nat) : Int := sl p t j i % 18446744073709551616
theorem slT_bd (p t : Nat → Int) (i j : Nat) : 0 ≤ slT p t i j ∧ slT p t i j ≤ 18446744073709551615 := by unfold slT; omega
theorem slT_step (p t : Nat → Int) (i j : Nat) : (slT p t i j + p j * t (i + j) % 18446744073709551616) % 18446744073709551616 = slT p t i (j + 1) := by
  unfold slT
  rw [← Int.add_emod]
  rfl
set_option maxRecDepth 100000 in
set_option maxHeartbeats 4000000 in
theorem slide_c (A B : Option Addr) (ca cb : Nat) (ps ts : List Int) (hlx : ps.length ≤ 100000000000000) (hly : ts.length ≤ 100000000000000) (hmn : ps.length ≤ ts.length) (hreach : (ts.length + 1) * 8 ≤ 140737488355328) (w : World) (hr : Rd .u64 w A ps) (hs : Rd .u64 w B ts) : Calls Try.prog 21 #[.slice A ps.length ca, .slice B ts.length cb] w fun e w' => ∃ v, e = .returned v ∧ Own .u64 40 w.heap.size w' v (slidev (nth ps) (nth ts) ps.length ts.length) ∧ Kept w w' := by
  obtain ⟨i1, hif1, hy0, hy1, hy2⟩ := info_parts info_u64
  have hstep := fun i j => slT_step (nth ps) (nth ts) i j
  have hab := fun i j => slT_bd (nth ps) (nth ts) i j
  have hz : ∀ i, slT (nth ps) (nth ts) i 0 = 0 := fun i => rfl
  have hpv : slidev (nth ps) (nth ts) ps.length ts.length = mk (ts.length - ps.length + 1) fun i => slT (nth ps) (nth ts) i ps.length := rfl
  generalize hF : slT (nth ps) (nth ts) = F at *
  clear hF
  generalize slidev (nth ps) (nth ts) ps.length ts.length = sv at *
  generalize hla : ps.length = m at *
  generalize hlb : ts.length = n at *
  have HLA := Lib.hid hla
  have HLB := Lib.hid hlb
  have HPV := Lib.hid hpv
  clear hla hlb hpv
  go_enter Try.func21, Try.ntmps21
  go_wp2_with fail
  go_loopw [5, 6] (fun v iv wr => ∃ i : Nat, i ≤ n - m + 1 ∧ iv = .int .i64 i ∧ Own .u64 40 w.heap.size wr v (mk i fun i => F i m) ∧ Kept w wr) (fun _ iv _ => n - m + 1 - (intOf iv).toNat)
  case atStart => exact ⟨0, Nat.zero_le _, rfl, Own.nil _ _ _ _, kept_refl _⟩
  case round =>
    obtain ⟨i, hi, rfl, hown, hk⟩ := hrel
    by_cases hlt : i < n - m + 1
    · have hle : (i : Int) + (m : Int) ≤ (n : Int) := by omega
      go_wp2_with fail
      go_loopw [7, 8] (fun xv jv wx => ∃ j : Nat, j ≤ m ∧ jv = .int .i64 j ∧ xv = .int .u64 (F i j) ∧ Kept wr wx) (fun _ jv _ => m - (intOf jv).toNat)
      case atStart => exact ⟨0, Nat.zero_le _, rfl, by rw [hz], kept_refl _⟩
      case round =>
        obtain ⟨j, hj, rfl, rfl, hkx⟩ := hrel
        by_cases hltj : j < m
        · have hT := hstep i j
          obtain ⟨ad, rfl, c0⟩ := (hr.kept (kept_trans hk hkx)).at_ (j := j) (by have := HLA.out; omega)
          obtain ⟨bd, rfl, c1⟩ := (hs.kept (kept_trans hk hkx)).at_ (j := i + j) (by have := HLB.out; omega)
          have bo := hab i j
          have bn := hab i (j + 1)
          have hij : i + j < n := by omega
          generalize nth ps j = x at *
          generalize nth ts (i + j) = y at *
          have p0 : 0 ≤ x * y % 18446744073709551616 ∧ x * y % 18446744073709551616 ≤ 18446744073709551615 := by omega
          have m1 : IntKind.u64.wrap (x * y) = x * y % 18446744073709551616 := wrap_mod _
          generalize hp : x * y % 18446744073709551616 = p at *
          have m2 : IntKind.u64.wrap (F i j + p) = F i (j + 1) := by rw [wrap_mod]; exact hT
          generalize hFo : F i j = o at *
          generalize hFn : F i (j + 1) = o2 at *
          have HFN := Lib.hid hFn
          clear hstep hab hFo hFn hz hT
          go_wp2_with fail
          go_quiet (fail)
          go_wp2_with fail
          exact ⟨⟨j + 1, by omega, by go_num, by rw [HFN.out], kept_drewN hkx nq⟩, by simp [intOf]; omega⟩
        · obtain rfl : m = j := by omega
          have hown2 : World.ownsRow _ _ _ _ _ _ _ := hown.kept hkx
          rw [mk_length] at hown2
          have hkk := kept_trans hk hkx
          have hbase := hkk.size
          clear hstep hab hown hkx hk
          go_wp2_with (at_builtin; refine wpList_append_own _ rfl _ _ 22 rfl w.heap.size 40 i1 (.int .u64 0) 1 8 Try.underlying22 hif1 hy0 hy1 hy2 rfl (by decide) _ _ _ rfl (hown2.alloc _) ⟨wr.heap.size, 0, none⟩ 1 1 [.int .u64 (F i m)] rfl rfl ?c1 ?c2 ?c3 ?c4 ?c5 ?_)
          case c1 =>
            intro q u hq
            match q, hq with
            | 0, hq => simp at hq; subst hq; simp [Addr.add]
          case c2 => intro u hu; simp at hu; subst hu; rfl
          case c3 => unfold maxLen; omega
          case c4 => omega
          case c5 => simp; omega
          · intro v' w5 hown' hgrow _
            have R : Own .u64 40 w.heap.size w5 v' (mk (i + 1) fun i => F i m) := Own.appended (f := fun i => F i m) hown'
            have K := kept_grown (kept_alloc hkk _) (hown2.alloc _) (Nat.le_refl _) hgrow
            clear hown' hgrow hown2
            go_wp2_with fail
            exact ⟨⟨i + 1, by omega, by go_num, R, K⟩, by simp [intOf]; omega⟩
    · have hgt : ¬ (i : Int) + (m : Int) ≤ (n : Int) := by omega
      have hin : i = n - m + 1 := by omega
      have HIN := Lib.hid hin
      clear hstep hab hz hin
      go_wp2_with fail
      exact bodyPost_ret (v := u5) (by simp [results, Try.results21, go_sem]) rfl ⟨_, rfl, by rw [HPV.out, ← HIN.out]; exact hown, hk⟩
theorem corrv_nil {ps ts : List Int} (h : ps.length = 0 ∨ ts.length < ps.length) : corrv ps ts = [] ∧ corrErr ps ts = 0 := by
  refine ⟨?_, ?_⟩
  · unfold corrv; rw [if_pos (by omega)]
  · unfold corrErr; rw [if_pos h]
theorem corrv_bad {ps ts : List Int} (h : corrErr ps ts ≠ 0) : corrv ps ts = [] := by unfold corrv; rw [if_pos (.inr (.inr h))]
theorem corr_err {ps ts : List Int} (h0 : ps.length ≠ 0) (h1 : ¬ ts.length < ps.length) : corrErr ps ts = cerr ps.length ts.length (greatest ps) (greatest ts) := by unfold corrErr; rw [if_neg (by omega)]
theorem corrv_good {ps ts : List Int} (h0 : ps.length ≠ 0) (h1 : ¬ ts.length < ps.length) (h : corrErr ps ts = 0) : corrv ps ts = slidev (nth ps) (nth ts) ps.length ts.length := by unfold corrv; rw [if_neg (by rw [h]; omega)]
end Go.Proofs.Ythjedgniedpkfaa
