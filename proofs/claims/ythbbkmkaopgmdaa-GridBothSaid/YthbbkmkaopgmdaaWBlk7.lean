/-
  Layer 5 (block): rows along rows, in blocks.
-/
import Derived.Test.YthbbkmkaopgmdaaWBlk5
import Derived.Test.YthbbkmkaopgmdaaWBlk6
namespace Go.Proofs.Ythbbkmkaopgmdaa
open Go.RowKit BG
attribute [local go_sem ↓] Go.wp_at_zero Go.wp_at_succ run_min_at run_max_at
set_option linter.unusedVariables false

set_option maxRecDepth 100000 in
set_option maxHeartbeats 4000000 in
theorem correlate_bad (A B : Option Addr) (ca cb : Nat) (ps ts : List Int) (size : Int) (hu : U64 ps) (hv : U64 ts) (hlx : ps.length ≤ 10000000000000) (hly : ts.length ≤ 10000000000000) (hbad : ¬ bgood ps ts size) (w : World) (hr : Rd .u64 w A ps) (hs : Rd .u64 w B ts) : Calls Try.prog 32 #[.slice A ps.length ca, .slice B ts.length cb, .int .i64 size] w (Ans3 (bval ps ts size) (bcnt ps ts size) (berrv ps ts size) w) := by
  have hm := hr.1
  have hm2 := hs.1
  have C := fun w1 (a : Rd .u64 w1 A ps) (b : Rd .u64 w1 B ts) => check_c5 A B ca cb ps ts size hu hv (by omega) (by omega) w1 a b
  rw [show berr ps.length ts.length size (greatest ps) (greatest ts) = berrv ps ts size from rfl] at C
  obtain ⟨e1, e2⟩ := bval_bad (ps := ps) (ts := ts) (size := size) hbad
  have E1 := Lib.hid e1
  have E2 := Lib.hid e2
  clear e1 e2
  by_cases he : berrv ps ts size = 0
  · have S := fun w => slides_c ps.length ts.length w
    rw [show slb ps.length ts.length = false by
      cases hsl : slb ps.length ts.length
      · rfl
      · exact absurd ⟨he, hsl⟩ hbad] at S
    rw [he] at C
    rw [he]
    clear hbad he
    generalize bval ps ts size = bv at *
    generalize bcnt ps ts size = bc at *
    generalize ps.length = m at *
    generalize ts.length = n at *
    go_enter Try.func32, Try.ntmps32
    go_wp2_with fail
    have hT := blk_alloc (blk_new w (.cells #[.slice B n cb] 68)) (.cells #[.int .i64 size] 3)
    have hZ := blk_new1 w (.cells #[.slice B n cb] 68) (.cells #[.int .i64 size] 3)
    have kw := kept_alloc (kept_alloc (kept_refl w) (.cells #[.slice B n cb] 68)) (.cells #[.int .i64 size] 3)
    have hsz : ((w.alloc (.cells #[.slice B n cb] 68)).alloc (.cells #[.int .i64 size] 3)).heap.size = w.heap.size + 2 := by simp
    generalize (w.alloc (.cells #[.slice B n cb] 68)).alloc (.cells #[.int .i64 size] 3) = w0 at *
    have t1 : w0.cell? ⟨w.heap.size, 0, none⟩ = some (.slice B n cb) := blk_cell hT 0
    have t2 : w0.drew.cell? ⟨w.heap.size, 0, none⟩ = some (.slice B n cb) := t1
    have t3 : (w0.alloc (.cells #[.int .i64 0] 3)).cell? ⟨w.heap.size, 0, none⟩ = some (.slice B n cb) := kept_cell (kept_alloc (kept_refl _) _) t1
    have t4 : (w0.alloc (.cells #[.int .i64 0] 3)).drew.cell? ⟨w.heap.size, 0, none⟩ = some (.slice B n cb) := t3
    have t5 : (w0.drew.alloc (.cells #[.int .i64 0] 3)).cell? ⟨w.heap.size, 0, none⟩ = some (.slice B n cb) := t3
    go_big_region
    clear t1 t2 t3 t4 t5
    have hN0 : (w0.alloc (.cells #[.int .i64 n] 3)).heap[w.heap.size + 2]? = some (.cells #[.int .i64 n] 3) := by rw [← hsz]; exact blk_new w0 _
    have hN : (w0.alloc (.cells #[.int .i64 n] 3)).drew.heap[w.heap.size + 2]? = some (.cells #[.int .i64 n] 3) := hN0
    replace hT : (w0.alloc (.cells #[.int .i64 n] 3)).drew.heap[w.heap.size]? = some (.cells #[.slice B n cb] 68) := blk_alloc hT (.cells #[.int .i64 n] 3)
    replace hZ : (w0.alloc (.cells #[.int .i64 n] 3)).drew.heap[w.heap.size + 1]? = some (.cells #[.int .i64 size] 3) := blk_alloc hZ (.cells #[.int .i64 n] 3)
    replace kw := kept_drew (kept_alloc kw (.cells #[.int .i64 n] 3))
    have hsz1 : w.heap.size + 3 ≤ (w0.alloc (.cells #[.int .i64 n] 3)).drew.heap.size := by
      have : (w0.alloc (.cells #[.int .i64 n] 3)).drew.heap.size = w0.heap.size + 1 := by show (w0.alloc _).heap.size = _; simp
      omega
    generalize (w0.alloc (.cells #[.int .i64 n] 3)).drew = w1 at *
    clear hN0 hsz
    have c1 := blk_cell hT 0
    have c2 := blk_cell hZ 0
    have c3 := blk_cell hN 0
    have C := C w1 (hr.kept kw) (hs.kept kw)
    go_wp2_with fail
    refine C.mono ?_
    rintro e w2 ⟨rfl, hk2⟩
    clear C c1 c2 c3
    replace hT := blk_kept hk2 hT
    replace hZ := blk_kept hk2 hZ
    replace hN := blk_kept hk2 hN
    replace kw := kept_trans kw hk2
    replace hsz1 := Nat.le_trans hsz1 hk2.size
    clear hk2
    have c1 := blk_cell hT 0
    have c2 := blk_cell hZ 0
    have c3 := blk_cell hN 0
    go_wp2_with fail
    refine (S _).mono ?_
    rintro e w3 ⟨rfl, hk3⟩
    go_wp2_with fail
    exact bodyPost_ret (v := .tuple #[.slice none 0 0, .int .i64 0, .int .i64 0]) (by simp [results, Try.results32, go_sem]) rfl (Ans3.none E1.out E2.out (kept_trans kw hk3))
  · clear hbad
    generalize berrv ps ts size = er at *
    generalize bval ps ts size = bv at *
    generalize bcnt ps ts size = bc at *
    have hne : (er != 0) = true := by simpa using he
    generalize ps.length = m at *
    generalize ts.length = n at *
    go_enter Try.func32, Try.ntmps32
    go_wp2_with fail
    have hT := blk_alloc (blk_new w (.cells #[.slice B n cb] 68)) (.cells #[.int .i64 size] 3)
    have hZ := blk_new1 w (.cells #[.slice B n cb] 68) (.cells #[.int .i64 size] 3)
    have kw := kept_alloc (kept_alloc (kept_refl w) (.cells #[.slice B n cb] 68)) (.cells #[.int .i64 size] 3)
    have hsz : ((w.alloc (.cells #[.slice B n cb] 68)).alloc (.cells #[.int .i64 size] 3)).heap.size = w.heap.size + 2 := by simp
    generalize (w.alloc (.cells #[.slice B n cb] 68)).alloc (.cells #[.int .i64 size] 3) = w0 at *
    have t1 : w0.cell? ⟨w.heap.size, 0, none⟩ = some (.slice B n cb) := blk_cell hT 0
    have t2 : w0.drew.cell? ⟨w.heap.size, 0, none⟩ = some (.slice B n cb) := t1
    have t3 : (w0.alloc (.cells #[.int .i64 0] 3)).cell? ⟨w.heap.size, 0, none⟩ = some (.slice B n cb) := kept_cell (kept_alloc (kept_refl _) _) t1
    have t4 : (w0.alloc (.cells #[.int .i64 0] 3)).drew.cell? ⟨w.heap.size, 0, none⟩ = some (.slice B n cb) := t3
    have t5 : (w0.drew.alloc (.cells #[.int .i64 0] 3)).cell? ⟨w.heap.size, 0, none⟩ = some (.slice B n cb) := t3
    go_big_region
    clear t1 t2 t3 t4 t5
    have hN0 : (w0.alloc (.cells #[.int .i64 n] 3)).heap[w.heap.size + 2]? = some (.cells #[.int .i64 n] 3) := by rw [← hsz]; exact blk_new w0 _
    have hN : (w0.alloc (.cells #[.int .i64 n] 3)).drew.heap[w.heap.size + 2]? = some (.cells #[.int .i64 n] 3) := hN0
    replace hT : (w0.alloc (.cells #[.int .i64 n] 3)).drew.heap[w.heap.size]? = some (.cells #[.slice B n cb] 68) := blk_alloc hT (.cells #[.int .i64 n] 3)
    replace hZ : (w0.alloc (.cells #[.int .i64 n] 3)).drew.heap[w.heap.size + 1]? = some (.cells #[.int .i64 size] 3) := blk_alloc hZ (.cells #[.int .i64 n] 3)
    replace kw := kept_drew (kept_alloc kw (.cells #[.int .i64 n] 3))
    have hsz1 : w.heap.size + 3 ≤ (w0.alloc (.cells #[.int .i64 n] 3)).drew.heap.size := by
      have : (w0.alloc (.cells #[.int .i64 n] 3)).drew.heap.size = w0.heap.size + 1 := by show (w0.alloc _).heap.size = _; simp
      omega
    generalize (w0.alloc (.cells #[.int .i64 n] 3)).drew = w1 at *
    clear hN0 hsz
    have c1 := blk_cell hT 0
    have c2 := blk_cell hZ 0
    have c3 := blk_cell hN 0
    have C := C w1 (hr.kept kw) (hs.kept kw)
    go_wp2_with fail
    refine C.mono ?_
    rintro e w2 ⟨rfl, hk2⟩
    clear C c1 c2 c3
    replace hT := blk_kept hk2 hT
    replace hZ := blk_kept hk2 hZ
    replace hN := blk_kept hk2 hN
    replace kw := kept_trans kw hk2
    replace hsz1 := Nat.le_trans hsz1 hk2.size
    clear hk2
    have c1 := blk_cell hT 0
    have c2 := blk_cell hZ 0
    have c3 := blk_cell hN 0
    go_wp2_with fail
    exact bodyPost_ret (v := .tuple #[.slice none 0 0, .int .i64 0, .int .i64 er]) (by simp [results, Try.results32, go_sem]) rfl (Ans3.none E1.out E2.out kw)
end Go.Proofs.Ythbbkmkaopgmdaa
