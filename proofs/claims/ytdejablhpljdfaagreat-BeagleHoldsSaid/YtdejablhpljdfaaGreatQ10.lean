/-
  Texts of one claim, joined: WBlk6, WBlk7, TNaive2.
-/
import Derived.Test.YtdejablhpljdfaaGreatQ09
import Derived.Test.YtdejablhpljdfaaGreatQ08
import Derived.Test.YtdejablhpljdfaaGreatQ07
namespace Go.Proofs.YtdejablhpljdfaaGreat
open Go.RowKit BG
attribute [local go_sem ↓] Go.wp_at_zero Go.wp_at_succ run_min_at run_max_at
set_option linter.unusedVariables false
def berrv (ps ts : List Int) (size : Int) : Int := berr ps.length ts.length size (greatest ps) (greatest ts)
def bgood (ps ts : List Int) (size : Int) : Prop := berrv ps ts size = 0 ∧ slb ps.length ts.length = true
instance (ps ts : List Int) (size : Int) : Decidable (bgood ps ts size) := by unfold bgood; infer_instance
def bval (ps ts : List Int) (size : Int) : List Int := if bgood ps ts size then slidev (nth ps) (nth ts) ps.length ts.length else []
def bcnt (ps ts : List Int) (size : Int) : Int := if bgood ps ts size then countv ps.length ts.length size else 0
theorem berr_zero {m n : Nat} {size x y : Int} (hx : 0 ≤ x) (hy : 0 ≤ y) (h : berr m n size x y = 0) (hs : slb m n = true) : szb m size = true ∧ 1 ≤ m ∧ m ≤ n ∧ x * y ≤ 18446744073709551615 ∧ x * y * (m : Int) ≤ 18446744073709551615 := by
  obtain ⟨h1, h2⟩ : 1 ≤ (m : Int) ∧ (m : Int) ≤ n := of_decide_eq_true hs
  unfold berr at h
  rw [if_pos hs] at h
  by_cases h3 : szb m size = true
  · rw [if_pos h3] at h
    cases h4 : ovr x y
    · rw [h4, if_neg (by decide)] at h
      cases h5 : ovr (x * y) m
      · exact ⟨h3, by omega, by omega, ovr_no hx hy h4, ovr_no (Int.mul_nonneg hx hy) (by omega) h5⟩
      · rw [h5, if_pos rfl] at h; exact absurd h (by decide)
    · rw [h4, if_pos rfl] at h; exact absurd h (by decide)
  · rw [if_neg h3] at h; exact absurd h (by decide)
def Ans3 (l : List Int) (c er : Int) (w : World) (e : Ending) (w' : World) : Prop :=
  ∃ A cap, e = .returned (.tuple #[.slice A l.length cap, .int .i64 c, .int .i64 er]) ∧ Rd .u64 w' A l ∧ Kept w w' ∧ l.length ≤ cap ∧ cap ≤ 9223372036854775807 ∧ Own .u64 108 w.heap.size w' (.slice A l.length cap) l
theorem Ans3.none {l : List Int} {c er : Int} {w w' : World} (hl : l = []) (hc : c = 0) (hk : Kept w w') : Ans3 l c er w (.returned (.tuple #[.slice none 0 0, .int .i64 0, .int .i64 er])) w' := by
  subst hl hc; exact ⟨Option.none, 0, rfl, Rd.nil _ _ _, hk, by simp, by omega, Own.nil _ _ _ _⟩
theorem bval_bad {ps ts : List Int} {size : Int} (h : ¬ bgood ps ts size) : bval ps ts size = [] ∧ bcnt ps ts size = 0 := by
  unfold bval bcnt; rw [if_neg h, if_neg h]; exact ⟨rfl, rfl⟩
theorem bval_good {ps ts : List Int} {size : Int} (h : bgood ps ts size) : bval ps ts size = slidev (nth ps) (nth ts) ps.length ts.length ∧ bcnt ps ts size = countv ps.length ts.length size := by
  unfold bval bcnt; rw [if_pos h, if_pos h]; exact ⟨rfl, rfl⟩
theorem blocks_c (sums each : Int) (w : World) : Calls Tryz.prog 101 #[.int .i64 sums, .int .i64 each] w fun e w' => e = .returned (.func (.func 159) #[] #[.pointer (some ⟨w.heap.size, 0, none⟩), .pointer (some ⟨w.heap.size + 1, 0, none⟩)]) ∧ w'.cell? ⟨w.heap.size, 0, none⟩ = some (.int .i64 sums) ∧ w'.cell? ⟨w.heap.size + 1, 0, none⟩ = some (.int .i64 each) ∧ w'.heap.size = w.heap.size + 2 ∧ Kept w w' := by
  go_enter Tryz.func101, Tryz.ntmps101
  go_wp2_with fail
  go_ret
  refine ⟨rfl, ?_, ?_, by simp, kept_alloc (kept_alloc (kept_refl w) _) _⟩
  · exact blk_cell (blk_alloc (blk_new w (.cells #[.int .i64 sums] 3)) _) 0
  · exact blk_cell (blk_new1 w (.cells #[.int .i64 sums] 3) (.cells #[.int .i64 each] 3)) 0
end Go.Proofs.YtdejablhpljdfaaGreat
namespace Go.Proofs.YtdejablhpljdfaaGreat
open Go.RowKit BG
attribute [local go_sem ↓] Go.wp_at_zero Go.wp_at_succ run_min_at run_max_at
set_option linter.unusedVariables false
set_option maxRecDepth 100000 in
set_option maxHeartbeats 4000000 in
theorem correlate_bad (A B : Option Addr) (ca cb : Nat) (ps ts : List Int) (size : Int) (hu : U64 ps) (hv : U64 ts) (hlx : ps.length ≤ 10000000000000) (hly : ts.length ≤ 10000000000000) (hbad : ¬ bgood ps ts size) (w : World) (hr : Rd .u64 w A ps) (hs : Rd .u64 w B ts) : Calls Tryz.prog 57 #[.slice A ps.length ca, .slice B ts.length cb, .int .i64 size] w (Ans3 (bval ps ts size) (bcnt ps ts size) (berrv ps ts size) w) := by
  have hm := hr.1
  have hm2 := hs.1
  have C := fun w1 (a : Rd .u64 w1 A ps) (b : Rd .u64 w1 B ts) => check_c5 A B ca cb ps ts size hu hv (by omega) (by omega) w1 a b
  rw [show berr ps.length ts.length size (greatest ps) (greatest ts) = berrv ps ts size from rfl] at C
  obtain ⟨e1, e2⟩ := bval_bad (ps := ps) (ts := ts) (size := size) hbad
  have E1 := Lib.hid e1
  have E2 := Lib.hid e2
  clear e1 e2
  by_cases he : berrv ps ts size = 0
  · have S := fun w => slides_c ps.length ts.length w
    rw [show slb ps.length ts.length = false by
      cases hsl : slb ps.length ts.length
      · rfl
      · exact absurd ⟨he, hsl⟩ hbad] at S
    rw [he] at C
    rw [he]
    clear hbad he
    generalize bval ps ts size = bv at *
    generalize bcnt ps ts size = bc at *
    generalize ps.length = m at *
    generalize ts.length = n at *
    go_enter Tryz.func57, Tryz.ntmps57
    go_wp2_with fail
    have hT := blk_alloc (blk_new w (.cells #[.slice B n cb] 123)) (.cells #[.int .i64 size] 3)
    have hZ := blk_new1 w (.cells #[.slice B n cb] 123) (.cells #[.int .i64 size] 3)
    have kw := kept_alloc (kept_alloc (kept_refl w) (.cells #[.slice B n cb] 123)) (.cells #[.int .i64 size] 3)
    have hsz : ((w.alloc (.cells #[.slice B n cb] 123)).alloc (.cells #[.int .i64 size] 3)).heap.size = w.heap.size + 2 := by simp
    generalize (w.alloc (.cells #[.slice B n cb] 123)).alloc (.cells #[.int .i64 size] 3) = w0 at *
    have t1 : w0.cell? ⟨w.heap.size, 0, none⟩ = some (.slice B n cb) := blk_cell hT 0
    have t2 : w0.drew.cell? ⟨w.heap.size, 0, none⟩ = some (.slice B n cb) := t1
    have t3 : (w0.alloc (.cells #[.int .i64 0] 3)).cell? ⟨w.heap.size, 0, none⟩ = some (.slice B n cb) := kept_cell (kept_alloc (kept_refl _) _) t1
    have t4 : (w0.alloc (.cells #[.int .i64 0] 3)).drew.cell? ⟨w.heap.size, 0, none⟩ = some (.slice B n cb) := t3
    have t5 : (w0.drew.alloc (.cells #[.int .i64 0] 3)).cell? ⟨w.heap.size, 0, none⟩ = some (.slice B n cb) := t3
    go_big_region
    clear t1 t2 t3 t4 t5
    have hN0 : (w0.alloc (.cells #[.int .i64 n] 3)).heap[w.heap.size + 2]? = some (.cells #[.int .i64 n] 3) := by rw [← hsz]; exact blk_new w0 _
    have hN : (w0.alloc (.cells #[.int .i64 n] 3)).drew.heap[w.heap.size + 2]? = some (.cells #[.int .i64 n] 3) := hN0
    replace hT : (w0.alloc (.cells #[.int .i64 n] 3)).drew.heap[w.heap.size]? = some (.cells #[.slice B n cb] 123) := blk_alloc hT (.cells #[.int .i64 n] 3)
    replace hZ : (w0.alloc (.cells #[.int .i64 n] 3)).drew.heap[w.heap.size + 1]? = some (.cells #[.int .i64 size] 3) := blk_alloc hZ (.cells #[.int .i64 n] 3)
    replace kw := kept_drew (kept_alloc kw (.cells #[.int .i64 n] 3))
    have hsz1 : w.heap.size + 3 ≤ (w0.alloc (.cells #[.int .i64 n] 3)).drew.heap.size := by
      have : (w0.alloc (.cells #[.int .i64 n] 3)).drew.heap.size = w0.heap.size + 1 := by show (w0.alloc _).heap.size = _; simp
      omega
    generalize (w0.alloc (.cells #[.int .i64 n] 3)).drew = w1 at *
    clear hN0 hsz
    have c1 := blk_cell hT 0
    have c2 := blk_cell hZ 0
    have c3 := blk_cell hN 0
    have C := C w1 (hr.kept kw) (hs.kept kw)
    go_wp2_with fail
    refine C.mono ?_
    rintro e w2 ⟨rfl, hk2⟩
    clear C c1 c2 c3
    replace hT := blk_kept hk2 hT
    replace hZ := blk_kept hk2 hZ
    replace hN := blk_kept hk2 hN
    replace kw := kept_trans kw hk2
    replace hsz1 := Nat.le_trans hsz1 hk2.size
    clear hk2
    have c1 := blk_cell hT 0
    have c2 := blk_cell hZ 0
    have c3 := blk_cell hN 0
    go_wp2_with fail
    refine (S _).mono ?_
    rintro e w3 ⟨rfl, hk3⟩
    go_wp2_with fail
    exact bodyPost_ret (v := .tuple #[.slice none 0 0, .int .i64 0, .int .i64 0]) (by simp [results, Tryz.results57, go_sem]) rfl (Ans3.none E1.out E2.out (kept_trans kw hk3))
  · clear hbad
    generalize berrv ps ts size = er at *
    generalize bval ps ts size = bv at *
    generalize bcnt ps ts size = bc at *
    have hne : (er != 0) = true := by simpa using he
    generalize ps.length = m at *
    generalize ts.length = n at *
    go_enter Tryz.func57, Tryz.ntmps57
    go_wp2_with fail
    have hT := blk_alloc (blk_new w (.cells #[.slice B n cb] 123)) (.cells #[.int .i64 size] 3)
    have hZ := blk_new1 w (.cells #[.slice B n cb] 123) (.cells #[.int .i64 size] 3)
    have kw := kept_alloc (kept_alloc (kept_refl w) (.cells #[.slice B n cb] 123)) (.cells #[.int .i64 size] 3)
    have hsz : ((w.alloc (.cells #[.slice B n cb] 123)).alloc (.cells #[.int .i64 size] 3)).heap.size = w.heap.size + 2 := by simp
    generalize (w.alloc (.cells #[.slice B n cb] 123)).alloc (.cells #[.int .i64 size] 3) = w0 at *
    have t1 : w0.cell? ⟨w.heap.size, 0, none⟩ = some (.slice B n cb) := blk_cell hT 0
    have t2 : w0.drew.cell? ⟨w.heap.size, 0, none⟩ = some (.slice B n cb) := t1
    have t3 : (w0.alloc (.cells #[.int .i64 0] 3)).cell? ⟨w.heap.size, 0, none⟩ = some (.slice B n cb) := kept_cell (kept_alloc (kept_refl _) _) t1
    have t4 : (w0.alloc (.cells #[.int .i64 0] 3)).drew.cell? ⟨w.heap.size, 0, none⟩ = some (.slice B n cb) := t3
    have t5 : (w0.drew.alloc (.cells #[.int .i64 0] 3)).cell? ⟨w.heap.size, 0, none⟩ = some (.slice B n cb) := t3
    go_big_region
    clear t1 t2 t3 t4 t5
    have hN0 : (w0.alloc (.cells #[.int .i64 n] 3)).heap[w.heap.size + 2]? = some (.cells #[.int .i64 n] 3) := by rw [← hsz]; exact blk_new w0 _
    have hN : (w0.alloc (.cells #[.int .i64 n] 3)).drew.heap[w.heap.size + 2]? = some (.cells #[.int .i64 n] 3) := hN0
    replace hT : (w0.alloc (.cells #[.int .i64 n] 3)).drew.heap[w.heap.size]? = some (.cells #[.slice B n cb] 123) := blk_alloc hT (.cells #[.int .i64 n] 3)
    replace hZ : (w0.alloc (.cells #[.int .i64 n] 3)).drew.heap[w.heap.size + 1]? = some (.cells #[.int .i64 size] 3) := blk_alloc hZ (.cells #[.int .i64 n] 3)
    replace kw := kept_drew (kept_alloc kw (.cells #[.int .i64 n] 3))
    have hsz1 : w.heap.size + 3 ≤ (w0.alloc (.cells #[.int .i64 n] 3)).drew.heap.size := by
      have : (w0.alloc (.cells #[.int .i64 n] 3)).drew.heap.size = w0.heap.size + 1 := by show (w0.alloc _).heap.size = _; simp
      omega
    generalize (w0.alloc (.cells #[.int .i64 n] 3)).drew = w1 at *
    clear hN0 hsz
    have c1 := blk_cell hT 0
    have c2 := blk_cell hZ 0
    have c3 := blk_cell hN 0
    have C := C w1 (hr.kept kw) (hs.kept kw)
    go_wp2_with fail
    refine C.mono ?_
    rintro e w2 ⟨rfl, hk2⟩
    clear C c1 c2 c3
    replace hT := blk_kept hk2 hT
    replace hZ := blk_kept hk2 hZ
    replace hN := blk_kept hk2 hN
    replace kw := kept_trans kw hk2
    replace hsz1 := Nat.le_trans hsz1 hk2.size
    clear hk2
    have c1 := blk_cell hT 0
    have c2 := blk_cell hZ 0
    have c3 := blk_cell hN 0
    go_wp2_with fail
    exact bodyPost_ret (v := .tuple #[.slice none 0 0, .int .i64 0, .int .i64 er]) (by simp [results, Tryz.results57, go_sem]) rfl (Ans3.none E1.out E2.out kw)
end Go.Proofs.YtdejablhpljdfaaGreat
namespace Go.Proofs.YtdejablhpljdfaaGreat
open Go.RowKit BG
attribute [local go_sem] Oper.semAt_some
attribute [local go_sem ↓] run_max_at
set_option linter.unusedVariables false
def nsums (xs : List Int) (n : Nat) (K : Int) (s : ByteArray) : Nat := if rightv xs n K = true then s.size + 1 - n else 0
def pencs (NB : Nat) (x : BI NB) : Array Value := #[.int .i64 ((x.1 : Nat) : Int)]
set_option maxRecDepth 100000 in
set_option maxHeartbeats 4000000 in
theorem nplaces_stops (f B1 B2 B3 : Nat) (A : Option Addr) (cap n : Nat) (xs : List Int) (K : Int) (s : ByteArray) (hu : U64 xs) (hl : xs.length = 4 * n) (hn : n ≤ 1000000) (hsz : s.size ≤ 1000000) (hf : 1 ≤ f) (w : World) (hr : Rd .u64 w A xs) (h1 : w.heap[B1]? = some (.cells #[.slice A n cap, .int .i64 K] 61)) (h2 : w.heap[B2]? = some (.cells #[.int .i64 0] 3)) (h3 : w.heap[B3]? = some (.cells #[.string s] 9)) :
    SeqStopsK Fence.wide f Tryz.prog 184 #[.pointer (some ⟨B1, 0, none⟩), .pointer (some ⟨B2, 0, none⟩), .pointer (some ⟨B3, 0, none⟩)] (pencs (nsums xs n K s)) (KpB B1 B3) (fun ys => ys.map (fun x => x.1) = List.range (nsums xs n K s)) (fun _ => True) (nsums xs n K s) w := by
  intro l J Jx W hW hJ hJx hY h0
  have R := fun w1 h => right_c A cap n xs K hl w1 h
  have e1 := blk_kept hW h1
  have C0 : W.cell? ⟨B1, 0, none⟩ = some (.slice A n cap) := blk_cell e1 0
  have C1 : W.cell? ⟨B1, 1, none⟩ = some (.int .i64 K) := blk_cell e1 1
  have C2 : W.cell? ⟨B2, 0, none⟩ = some (.int .i64 0) := blk_cell (blk_kept hW h2) 0
  have C3 : W.cell? ⟨B3, 0, none⟩ = some (.string s) := blk_cell (blk_kept hW h3) 0
  have hrW := hr.kept hW
  have hNB : nsums xs n K s = if rightv xs n K = true then s.size + 1 - n else 0 := rfl
  have HNB := Lib.hid hNB
  clear hNB
  generalize nsums xs n K s = NB at *
  generalize rightv xs n K = rv at *
  refine callsIn_of_wp Tryz.func184 rfl trivial ?_ rfl
  simp only [Tryz.ntmps184, List.size_toArray, List.length_cons, List.length_nil, Nat.reduceAdd, Nat.reduceSub, Array.replicate_succ, Array.replicate_zero, List.push_toArray, List.append_toArray, List.nil_append, List.cons_append]
  gi_wp2_with fail
  refine ⟨trivial, (callsIn_wide.2 (R _ hrW)).mono ?_⟩
  rintro e W1 ⟨rfl, hk1⟩
  have hkb : KpB B1 B3 W W1 := ⟨hk1.block B1 (blk_lt e1), hk1.block B3 (blk_lt (blk_kept hW h3))⟩
  replace C0 := kept_cell hk1 C0
  replace C2 := kept_cell hk1 C2
  replace C3 := kept_cell hk1 C3
  have hj0 : J [] W1 := hJ [] W W1 none h0 ⟨hk1.os, hk1.tape, hk1.output, hk1.size, fun i hi _ => hk1.block i hi⟩ (by rintro k h; cases h)
  clear R C1 hrW
  cases rv
  · have hN := HNB.out
    rw [if_neg (by decide)] at hN
    subst hN
    gi_wp2_with fail
    refine bodyPost_ret (results_none rfl _ _ _) rfl ?_
    exact ⟨⟨_, rfl⟩, .inl ⟨_, rfl, hj0⟩⟩
  · have hN := HNB.out
    rw [if_pos rfl] at hN
    have HN := Lib.hid hN
    have hNB2 : NB ≤ 1000001 := by omega
    clear hN HNB hJ e1 h1 h2 h3 hW hk1 h0 hr hu hl hkb
    gi_wp2_with fail
    gi_loopw [5] (fun p wr => ∃ q : Nat, q ≤ NB ∧ p = .int .i64 ((q : Nat) : Int) ∧ KpB B1 B3 W1 wr ∧ J (firstB NB q) wr) (fun p _ => NB - (intOf p).toNat)
    case atStart => exact ⟨0, Nat.zero_le _, by simp, ⟨rfl, rfl⟩, hj0⟩
    case round =>
      obtain ⟨q, hq, rfl, hb, hj⟩ := hrel
      have d1 : wr.cell? ⟨B1, 0, none⟩ = some (.slice A n cap) := hb.cell1 C0
      have d2 : wr.cell? ⟨B3, 0, none⟩ = some (.string s) := hb.cell2 C3
      have hNn := HN.out
      by_cases hlt : q < NB
      · have hY := hY (firstB NB q) ⟨q, hlt⟩ wr hj (by rw [firstB_length hq]; exact hlt)
        have hF := firstB_succ hlt
        unfold pencs at hY
        dsimp only at hY
        have HF := Lib.hid hF
        have hd : decide ((q : Int) ≤ (s.size : Int) - (n : Int)) = true := decide_eq_true (by omega)
        clear hF hNn
        obtain ⟨fn, tmps, assign, body, hy, hR⟩ := hY
        gi_wp2
        refine hR.mono ?_
        rintro e W3 (⟨rfl, hJ3, hk3⟩ | ⟨rfl, hJx3⟩)
        · have hb3 := kpB_t hb hk3
          rw [← HF.out] at hJ3
          gi_wp2
          exact ⟨⟨q + 1, by omega, by go_num, hb3, hJ3⟩, by simp [intOf]; omega⟩
        · gi_wp2
          refine bodyPost_ret (results_none rfl _ _ _) rfl ?_
          exact ⟨⟨_, rfl⟩, .inr ⟨_, trivial, hJx3⟩⟩
      · obtain rfl : q = NB := by omega
        have hd : decide ((q : Int) ≤ (s.size : Int) - (n : Int)) = false := decide_eq_false (by omega)
        clear hNn
        gi_wp2
        go_end0
        exact ⟨⟨_, rfl⟩, .inl ⟨_, firstB_map q (Nat.le_refl _), hj⟩⟩
end Go.Proofs.YtdejablhpljdfaaGreat
