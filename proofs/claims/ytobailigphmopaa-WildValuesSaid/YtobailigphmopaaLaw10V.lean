/-
  Layer 10's statements: the walks.
-/
import Derived.Test.YtobailigphmopaaLaw10
import Derived.Test.YtobailigphmopaaLaw10P
namespace Go.Proofs.Ytobailigphmopaa
open Go.RowKit BG
attribute [local go_sem ↓] Go.wp_at_zero Go.wp_at_succ
set_option linter.unusedVariables false

set_option maxRecDepth 100000 in
set_option maxHeartbeats 8000000 in
theorem wildValues_w (x : Cl) (hx : x.ok) (A : Option Addr) (cap n : Nat) (xs : List Int) (K : Int) (hl : xs.length = 4 * n) (hn : n ≤ 9223372036854775807) (hu : U64 xs) (w : World) (hr : 4 * n ≤ 9223372036854775807 → Rd .u64 w A xs) : Calls Try.prog 3 #[x.v, leafV A n cap K] w (Ret (.bool true) w) := by
  have V1 := fun w => value_c x hx w
  have V2 := fun w => rvalue_c x hx w
  have hv := valv_le x
  generalize valv x = v at *
  have ka := kept_alloc (kept_alloc (kept_refl w) x.cells) (.cells #[.slice A n cap, .int .i64 K] 27)
  have hc := cl_cells (blk_alloc (blk_new w x.cells) (.cells #[.slice A n cap, .int .i64 K] 27))
  have hb := blk_new1 w x.cells (.cells #[.slice A n cap, .int .i64 K] 27)
  have FW := few10_c A cap n K ⟨#[]⟩ hn (by decide) ((w.alloc x.cells).alloc (.cells #[.slice A n cap, .int .i64 K] 27))
  obtain ⟨x0, x1, x2, x3⟩ := x
  dsimp only [Cl.v, Cl.cells] at *
  by_cases hfew : n ≤ 100
  · have hr := hr (by omega)
    rw [show few10 n (⟨#[]⟩ : ByteArray).size = true by unfold few10; simp [hfew]; decide] at FW
    have W1 := fun w1 h => weight_c A cap n xs K hu hl (by omega) w1 h
    have W2 := fun w1 h => rweight_c A cap n xs K hu hl (by omega) w1 h
    generalize weightv xs n = wv at *
    go_enter Try.func3, Try.ntmps3
    go_wp2_with fail
    refine FW.mono ?_
    rintro e w1 ⟨rfl, hk1⟩
    obtain ⟨d0, d1, d2, d3⟩ := hc
    replace d0 := kept_cell hk1 d0
    replace d1 := kept_cell hk1 d1
    replace d2 := kept_cell hk1 d2
    replace d3 := kept_cell hk1 d3
    replace hb := blk_kept hk1 hb
    have hk := kept_trans ka hk1
    have rd := hr.kept hk
    have c0 : w1.cell? ⟨w.heap.size + 1, 0, none⟩ = some (.slice A n cap) := blk_cell hb 0
    have c1 : w1.cell? ⟨w.heap.size + 1, 1, none⟩ = some (.int .i64 K) := blk_cell hb 1
    have hvd : decide ((v : Int) ≤ 256) = true := decide_eq_true (by omega)
    clear FW ka hk1 hr hb
    go_wp2_with fail
    have ks_0 := fun s => kw_cell s c0
    have ks_1 := fun s => kw_cell s c1
    have ls_0 := fun s => kw_cell s d0
    have ls_1 := fun s => kw_cell s d1
    have ls_2 := fun s => kw_cell s d2
    have ls_3 := fun s => kw_cell s d3
    refine wp_region_kept (by kernel_rfl) (by kernel_rfl) ?_
    repeat (first | go_big_quiet_skip | (go_big_quiet_want; go_big_quiet_op; first | go_big_quiet_on | (apply Exists.intro; refine ⟨fun s => ?_, ?_⟩; (first | (go_at_call 10; exact call_kept (alive10_c _)) | (go_at_call 11; exact call_kept (V1 _)) | (go_at_call 12; exact call_kept (V2 _)) | (go_at_call 13; exact call_kept (W1 _ (rd.kept s.kept))) | (go_at_call 14; exact call_kept (W2 _ (rd.kept s.kept)))); go_big_quiet_on)))
    refine wpQuiet_nil ?_
    rintro w7 ⟨⟨_, hk7⟩, rfl⟩
    clear ks_0 ks_1 ls_0 ls_1 ls_2 ls_3 c0 c1 d0 d1 d2 d3 V1 V2 W1 W2
    go_wp2_with fail
    go_ret
    exact ⟨by simp, kept_trans hk hk7⟩
  · rw [show few10 n (⟨#[]⟩ : ByteArray).size = false by unfold few10; simp; omega] at FW
    go_enter Try.func3, Try.ntmps3
    go_wp2_with fail
    refine FW.mono ?_
    rintro e w1 ⟨rfl, hk1⟩
    go_wp2_with fail
    refine (alive10_c _).mono ?_
    rintro e w2 ⟨rfl, hk2⟩
    go_wp2_with fail
    go_ret
    exact ⟨rfl, kept_trans ka (kept_trans hk1 hk2)⟩
end Go.Proofs.Ytobailigphmopaa
