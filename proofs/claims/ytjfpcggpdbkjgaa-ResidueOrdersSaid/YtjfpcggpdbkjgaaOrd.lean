import Derived.Test.YtjfpcggpdbkjgaaLaw01
namespace Go.Proofs.Ytjfpcggpdbkjgaa
open Go.RowKit BG
attribute [local go_sem ↓] Go.wp_at_zero Go.wp_at_succ
set_option linter.unusedVariables false
theorem clo_add_c (B : Nat) (k x y : Int) (w : World) (hx : 0 ≤ x) (hy : 0 ≤ y) (hc : w.cell? ⟨B, 0, none⟩ = some (.int .i64 k)) :
    Calls Try.prog 32 #[.int .u64 x, .int .u64 y, .pointer (some ⟨B, 0, none⟩)] w (Ret (.int .u64 (addm k x y)) w) := by
  go_enter Try.func32, Try.ntmps32
  go_wp2_with fail
  refine (add_c k x y hx hy _).mono ?_
  rintro e w1 ⟨rfl, hk1⟩
  go_wp2_with fail
  go_ret
  exact ⟨rfl, hk1⟩
theorem clo_mul_c (B : Nat) (k x y : Int) (w : World) (hx : 0 ≤ x) (hy : 0 ≤ y) (hc : w.cell? ⟨B, 0, none⟩ = some (.int .i64 k)) :
    Calls Try.prog 33 #[.int .u64 x, .int .u64 y, .pointer (some ⟨B, 0, none⟩)] w (Ret (.int .u64 (mulm k x y)) w) := by
  go_enter Try.func33, Try.ntmps33
  go_wp2_with fail
  refine (mul_c k x y hx hy _).mono ?_
  rintro e w1 ⟨rfl, hk1⟩
  go_wp2_with fail
  go_ret
  exact ⟨rfl, hk1⟩

set_option maxRecDepth 100000 in
set_option maxHeartbeats 16000000 in
theorem residueOrders_w (k a b c : Int) (ha : 0 ≤ a) (hb : 0 ≤ b) (hc : 0 ≤ c) (w : World) :
    Calls Try.prog 7 #[.int .i64 k, .agg #[.int .u64 a, .int .u64 b, .int .u64 c]] w (Ret (.bool true) w) := by
  have hmf : ∀ (fn : Fn) (first cap : Array Value) (w : World), (Instr.makeFunc fn first cap).run Try.prog w = .ok (.func fn first cap) w := fun _ _ _ _ => rfl
  have h1 : addm k b a = addm k a b := by unfold addm; rw [Int.add_comm]
  have h2 : mulm k b a = mulm k a b := by unfold mulm; rw [Int.mul_comm]
  have h3 : addm k a (addm k b c) = addm k (addm k a b) c := by unfold addm; rw [of_add_l, of_add_r, Int.add_assoc]
  have h4 : mulm k a (mulm k b c) = mulm k (mulm k a b) c := by unfold mulm; rw [of_mul_l, of_mul_r, Int.mul_assoc]
  have h5 : mulm k a (addm k b c) = addm k (mulm k a b) (mulm k a c) := by unfold addm mulm; rw [of_mul_r, of_add_l, of_add_r, Int.mul_add]
  have h6 : subm k (addm k a b) b = of k a := by unfold subm addm; rw [of_sub_l]; congr 1; omega
  have b1 := (addm_bd k a b).1
  have b2 := (addm_bd k b c).1
  have b3 := (mulm_bd k a b).1
  have b4 := (mulm_bd k b c).1
  have b5 := (mulm_bd k a c).1
  go_enter Try.func7, Try.ntmps7
  go_wp2_with fail
  go_quiet (fail)
  go_wp2_with fail
  simp only [List.append]
  have hcell : (((w.alloc (.cells #[.int .i64 k] 3)).alloc (.cells #[.int .u64 a, .int .u64 b, .int .u64 c] 35)).drewN nq).cell? ⟨w.heap.size, 0, none⟩ = some (.int .i64 k) := by simp [go_sem]
  have hk0 : Kept w (((w.alloc (.cells #[.int .i64 k] 3)).alloc (.cells #[.int .u64 a, .int .u64 b, .int .u64 c] 35)).drewN nq) := ⟨rfl, rfl, rfl, by simp; omega, fun i hi => by
    rw [← Below.heap_alloc w (.cells #[.int .i64 k] 3) i hi]; exact Below.heap_alloc _ _ i (by simp; omega)⟩
  generalize hW : ((w.alloc (.cells #[.int .i64 k] 3)).alloc (.cells #[.int .u64 a, .int .u64 b, .int .u64 c] 35)).drewN nq = W at *
  clear hW
  have hcs : ∀ s : KW W, s.val.cell? ⟨w.heap.size, 0, none⟩ = some (.int .i64 k) := fun s => kw_cell s hcell
  refine wp_region_kept (by kernel_rfl) (by kernel_rfl) ?_
  repeat (first | go_big_quiet_skip | (go_big_quiet_want; go_big_quiet_op; first | go_big_quiet_on | (apply Exists.intro; refine ⟨fun s => ?_, ?_⟩; (first | (go_at_call 25; exact call_kept (alive01_c _)) | (go_at_call 32; exact call_kept (clo_add_c _ k _ _ _ (by assumption) (by assumption) (hcs s))) | (go_at_call 33; exact call_kept (clo_mul_c _ k _ _ _ (by assumption) (by assumption) (hcs s))) | (go_at_call 16; exact call_kept (sub_c k _ _ (by assumption) (by assumption) _)) | (go_at_call 20; exact call_kept (of_c k _ (by assumption) _))); go_big_quiet_on)))
  refine wpQuiet_nil ?_
  rintro _ ⟨⟨wq, hkq⟩, rfl⟩
  go_wp2_with fail
  go_ret
  exact ⟨rfl, kept_trans hk0 hkq⟩
end Go.Proofs.Ytjfpcggpdbkjgaa
