/-
  Layer 2's statements: the walks.
-/
import Derived.Test.YtkielaonclabbaaLaw02
import Derived.Laws.AppendOwnNone
namespace Go.Proofs.Ytkielaonclabbaa
open Go.RowKit BG
attribute [local go_sem ↓] Go.wp_at_zero Go.wp_at_succ
set_option linter.unusedVariables false

theorem sum_dft {k : Int} {n : Nat} (x a : Nat → Int) (b w : Int) (j : Nat) : dft k n (fun i => addm k (x i) (mulm k (a i) b)) w j = addm k (dft k n x w j) (mulm k (dft k n a w j) b) := by
  unfold dft addm mulm
  rw [of_mul_l, of_add_l, of_add_r]
  rw [← sumTo_mul_r, ← sumTo_add]
  refine Cong.sumTo fun i _ => ?_
  have h1 : Cong k (of k (x i + of k (a i * b)) * w ^ (i * j)) ((x i + a i * b) * w ^ (i * j)) := ((cong_of k _).trans ((Cong.refl k _).add (cong_of k _))).mul (Cong.refl k _)
  refine h1.trans ?_
  have e : (x i + a i * b) * w ^ (i * j) = x i * w ^ (i * j) + a i * w ^ (i * j) * b := by rw [Int.add_mul, Int.mul_right_comm]
  rw [e]
  exact Cong.refl _ _
def Apart2 (u v : Value) : Prop := ∀ g, u.ownBlock = some g → v.ownBlock ≠ some g
theorem Apart2.ne {u v : Value} (h : Apart2 u v) : u.ownBlock = none ∨ u.ownBlock ≠ v.ownBlock := by
  cases e : u.ownBlock with
  | none => exact .inl rfl
  | some g => exact .inr fun e2 => h g e e2.symm
theorem Apart2.symm {u v : Value} (h : Apart2 u v) : Apart2 v u := fun g e e2 => h g e2 e
theorem apart_new {u v v' : Value} {w : World} {base n : Nat} {e : TypeId} {xs : List Value} (h : Apart2 u v) (hu : w.ownsRow base e 1 u n xs) (hv : v'.ownBlock = v.ownBlock ∨ v'.ownBlock = some (w.heap.size + 1)) : Apart2 u v' := by
  intro g e e2
  rcases hv with hv | hv
  · rw [hv] at e2; exact h g e e2
  · rw [hv] at e2; cases e2
    exact absurd (World.ownsRow.lt hu _ e).2 (by omega)
set_option maxHeartbeats 4000000 in
theorem nttSums_w (k : Int) (A : Option Addr) (cap : Nat) (xs : List Int) (hu : U64 xs) (a b : Int) (ha : 0 ≤ a) (hb : 0 ≤ b) (w : World) (hr : Rd .u64 w A xs) : Calls Try.prog 8 #[.int .i64 k, .slice A xs.length cap, .agg #[.int .u64 a, .int .u64 b]] w (Ret (.bool true) w) := by
  have hm := hr.1
  obtain ⟨i1, hif1, hy0, hy1, hy2⟩ := info_parts info_u64
  have hp := blk_new w (.cells #[.int .u64 a, .int .u64 b] 37)
  have hk0 := kept_alloc (kept_refl w) (.cells #[.int .u64 a, .int .u64 b] 37)
  have z0 : (w.alloc (.cells #[.int .u64 a, .int .u64 b] 37)).cell? ⟨w.heap.size, 0, none⟩ = some (.int .u64 a) := blk_cell hp 0
  have z1 : (w.alloc (.cells #[.int .u64 a, .int .u64 b] 37)).cell? ⟨w.heap.size, 1, none⟩ = some (.int .u64 b) := blk_cell hp 1
  clear hp
  replace hr := hr.kept hk0
  by_cases h : xs.length ≤ 4096
  · have F1 := forward_c k A cap xs hu
    have fa0 : ∀ i, 0 ≤ mulm k a (i : Nat) := fun i => (mulm_bd _ _ _).1
    have fb0 : ∀ i, 0 ≤ addm k (nth xs i) (mulm k (mulm k a (i : Nat)) b) := fun i => (addm_bd _ _ _).1
    have ua : U64 (mk xs.length fun i => mulm k a (i : Nat)) := u64_mk fun j _ => fa0 j
    have ub : U64 (mk xs.length fun i => addm k (nth xs i) (mulm k (mulm k a (i : Nat)) b)) := u64_mk fun j _ => fb0 j
    have F2 := fun A c => forward_c k A c _ ua
    have F3 := fun A c => forward_c k A c _ ub
    rw [mk_length] at F2 F3
    by_cases hz : amiss k xs.length = 0
    · rw [hz] at F1 F2 F3
      have hfl : (fwdv k xs).length = xs.length := by rw [fwdv_length, if_pos hz]
      have hgl : (fwdv k (mk xs.length fun i => mulm k a (i : Nat))).length = xs.length := by rw [fwdv_length, mk_length, if_pos hz]
      have hhl : (fwdv k (mk xs.length fun i => addm k (nth xs i) (mulm k (mulm k a (i : Nat)) b))).length = xs.length := by rw [fwdv_length, mk_length, if_pos hz]
      have huf := u64_fwd k xs
      have hug := u64_fwd k (mk xs.length fun i => mulm k a (i : Nat))
      have hat : ∀ j, j < xs.length → nth (fwdv k (mk xs.length fun i => addm k (nth xs i) (mulm k (mulm k a (i : Nat)) b))) j = addm k (nth (fwdv k xs) j) (mulm k (nth (fwdv k (mk xs.length fun i => mulm k a (i : Nat))) j) b) := by
        intro j hj
        rw [fwdv_eq (xs := mk xs.length fun i => addm k (nth xs i) (mulm k (mulm k a (i : Nat)) b)) (by rw [mk_length]; exact hz), mk_length, nth_mk hj, fwdv_eq hz, nth_mk hj, fwdv_eq (xs := mk xs.length fun i => mulm k a (i : Nat)) (by rw [mk_length]; exact hz), mk_length, nth_mk hj]
        rw [dft_cong (x := nth (mk xs.length fun i => addm k (nth xs i) (mulm k (mulm k a (i : Nat)) b))) (y := fun i => addm k (nth xs i) (mulm k (mulm k a (i : Nat)) b)) (fun i hi => by rw [nth_mk hi]; exact Cong.refl _ _) (Cong.refl _ _)]
        rw [dft_cong (x := nth (mk xs.length fun i => mulm k a (i : Nat))) (y := fun i => mulm k a (i : Nat)) (fun i hi => by rw [nth_mk hi]; exact Cong.refl _ _) (Cong.refl _ _)]
        exact sum_dft _ _ _ _ _
      clear hz ua ub
      generalize fwdv k xs = fs at *
      generalize fwdv k (mk xs.length fun i => mulm k a (i : Nat)) = gs at *
      generalize fwdv k (mk xs.length fun i => addm k (nth xs i) (mulm k (mulm k a (i : Nat)) b)) = hs at *
      generalize hn : xs.length = n at *
      generalize hw1 : w.alloc (.cells #[.int .u64 a, .int .u64 b] 37) = w1 at *
      go_enter Try.func8, Try.ntmps8
      go_wp2_with fail
      try rw [hw1]
      clear hw1
      go_loopw [7, 8, 25] (fun va vb i wr => ∃ q : Nat, q ≤ n ∧ i = .int .i64 q ∧ Own .u64 32 w1.heap.size wr va (mk q fun i => mulm k a (i : Nat)) ∧ Own .u64 32 w1.heap.size wr vb (mk q fun i => addm k (nth xs i) (mulm k (mulm k a (i : Nat)) b)) ∧ Apart2 va vb ∧ Kept w1 wr) (fun _ _ i _ => n - (intOf i).toNat)
      case atStart => exact ⟨0, Nat.zero_le _, rfl, Own.nil _ _ _ _, Own.nil _ _ _ _, fun g e => by simp [Value.ownBlock] at e, kept_refl _⟩
      case round =>
        obtain ⟨q, hq, rfl, hownA, hownB, hap, hk⟩ := hrel
        by_cases hlt : q < n
        · obtain ⟨ad, rfl, c0⟩ := (hr.kept hk).at_ (j := q) (by omega)
          have y0 := kept_cell hk z0
          have M1 := mul_c k a (q : Nat) ha (Int.natCast_nonneg _)
          have M2 := mul_c k (mulm k a (q : Nat)) b (fa0 q) hb
          have M3 := add_c k (nth xs q) (mulm k (mulm k a (q : Nat)) b) (hu q) (mulm_bd _ _ _).1
          go_wp2_with fail
          refine (M1 _).mono ?_
          rintro e w2 ⟨rfl, hk2⟩
          have hA2 : World.ownsRow _ _ _ _ _ _ _ := hownA.kept hk2
          have hB2 : World.ownsRow _ _ _ _ _ _ _ := hownB.kept hk2
          rw [mk_length] at hA2 hB2
          replace hk := kept_trans hk hk2
          have hbase := hk.size
          clear hownA hownB y0 c0 M1
          go_wp2_with (at_builtin; refine wpList_append_own_at _ rfl _ _ 26 rfl w1.heap.size 32 i1 (.int .u64 0) 1 8 Try.underlying26 hif1 hy0 hy1 hy2 rfl (by decide) _ _ _ rfl (hA2.alloc _) ⟨w2.heap.size, 0, none⟩ 1 1 [.int .u64 (mulm k a (q : Nat))] rfl rfl ?c1 ?c2 ?c3 ?c4 ?c5 ?_)
          case c1 =>
            intro q u hq
            match q, hq with
            | 0, hq => simp at hq; subst hq; simp [Addr.add]
          case c2 => intro u hu; simp at hu; subst hu; rfl
          case c3 => unfold maxLen; omega
          case c4 => omega
          case c5 => simp; omega
          · intro va' w3 hA3 hgrow _ hblk
            have K3 := kept_grown (kept_alloc hk _) (hA2.alloc _) (Nat.le_refl _) hgrow
            have hB3 := World.ownsRow.kept (hB2.alloc _) hgrow hap.symm.ne
            have hap3 := apart_new hap.symm hB2 hblk
            have RA : Own .u64 32 w1.heap.size w3 va' (mk (q + 1) fun i => mulm k a (i : Nat)) := Own.appended (f := fun i : Nat => mulm k a (i : Nat)) hA3
            have y1 := kept_cell K3 z1
            clear hA3 hgrow hblk hA2 hB2 hk
            go_wp2_with fail
            refine (M2 _).mono ?_
            rintro e w4 ⟨rfl, hk4⟩
            go_wp2_with fail
            refine (M3 _).mono ?_
            rintro e w5 ⟨rfl, hk5⟩
            have hk45 := kept_trans hk4 hk5
            have hB5 := rowKept hB3 hk45
            have hA5 : World.ownsRow _ _ _ _ _ _ _ := RA.kept hk45
            have hk := kept_trans K3 hk45
            have hbase := hk.size
            clear hB3 RA K3 hk4 hk5 hk45 y1
            go_wp2_with (at_builtin; refine wpList_append_own_at _ rfl _ _ 26 rfl w1.heap.size 32 i1 (.int .u64 0) 1 8 Try.underlying26 hif1 hy0 hy1 hy2 rfl (by decide) _ _ _ rfl (hB5.alloc _) ⟨w5.heap.size, 0, none⟩ 1 1 [.int .u64 (addm k (nth xs q) (mulm k (mulm k a (q : Nat)) b))] rfl rfl ?c1 ?c2 ?c3 ?c4 ?c5 ?_)
            case c1 =>
              intro q u hq
              match q, hq with
              | 0, hq => simp at hq; subst hq; simp [Addr.add]
            case c2 => intro u hu; simp at hu; subst hu; rfl
            case c3 => unfold maxLen; omega
            case c4 => omega
            case c5 => simp; omega
            · intro vb' w6 hB6 hgrow _ hblk
              have K6 := kept_grown (kept_alloc hk _) (hB5.alloc _) (Nat.le_refl _) hgrow
              have hA6 := World.ownsRow.kept (hA5.alloc _) hgrow hap3.symm.ne
              have hap6 := apart_new hap3.symm hA5 hblk
              have RB : Own .u64 32 w1.heap.size w6 vb' (mk (q + 1) fun i => addm k (nth xs i) (mulm k (mulm k a (i : Nat)) b)) := Own.appended (f := fun i : Nat => addm k (nth xs i) (mulm k (mulm k a (i : Nat)) b)) hB6
              clear hB6 hgrow hblk hB5
              go_wp2_with fail
              exact ⟨⟨q + 1, by omega, by go_num, hA6, RB, hap6, K6⟩, by simp [intOf]; omega⟩
        · obtain rfl : n = q := by omega
          go_wp2_with fail
          refine (F1 _ (hr.kept hk)).mono ?_
          rintro e w4 ⟨v4, rfl, hown4, hk4⟩
          obtain ⟨AA, cA, rfl, _, _, rA⟩ := (hownA.kept hk4).rd
          rw [mk_length]
          go_wp2_with fail
          refine (F2 _ _ _ rA).mono ?_
          rintro e w5 ⟨v5, rfl, hown5, hk5⟩
          obtain ⟨AB, cB, rfl, _, _, rB⟩ := (hownB.kept (kept_trans hk4 hk5)).rd
          rw [mk_length]
          go_wp2_with fail
          refine (F3 _ _ _ rB).mono ?_
          rintro e w6 ⟨v6, rfl, hown6, hk6⟩
          obtain ⟨A4, c4, rfl, _, _, r4⟩ := (hown4.kept (kept_trans hk5 hk6)).rd
          obtain ⟨A5, c5, rfl, _, _, r5⟩ := (hown5.kept hk6).rd
          obtain ⟨A6, c6, rfl, _, _, r6⟩ := hown6.rd
          rw [hfl, hgl, hhl]
          replace hk := kept_trans hk (kept_trans hk4 (kept_trans hk5 hk6))
          clear hown4 hown5 hown6 hk4 hk5 hk6
          have Z1 := kept_cell hk z1
          go_wp2_with fail
          go_loopw [94] (fun i wr => ∃ q : Nat, q ≤ n ∧ i = .int .i64 q ∧ Kept w6 wr) (fun i _ => n - (intOf i).toNat)
          case atStart => exact ⟨0, Nat.zero_le _, rfl, kept_refl _⟩
          case round =>
            obtain ⟨q, hq, rfl, hkx⟩ := hrel
            by_cases hlt : q < n
            · obtain ⟨bd, rfl, c0⟩ := (r4.kept hkx).at_ (j := q) (by omega)
              obtain ⟨cd, rfl, c1⟩ := (r5.kept hkx).at_ (j := q) (by omega)
              obtain ⟨dd, rfl, c2⟩ := (r6.kept hkx).at_ (j := q) (by omega)
              have c3 := kept_cell hkx Z1
              rw [hat q hlt] at c2
              have M := mul_c k (nth gs q) b (hug q) hb
              have AD := add_c k (nth fs q) (mulm k (nth gs q) b) (huf q) (mulm_bd _ _ _).1
              generalize addm k (nth fs q) (mulm k (nth gs q) b) = y at *
              generalize mulm k (nth gs q) b = p at *
              generalize nth gs q = x at *
              generalize nth fs q = z at *
              clear fa0 fb0 hat
              go_wp2_with fail
              have ks_c0 := fun s => kw_cell s c0
              have ks_c1 := fun s => kw_cell s c1
              have ks_c2 := fun s => kw_cell s c2
              have ks_c3 := fun s => kw_cell s c3
              refine wp_region_kept (by kernel_rfl) (by kernel_rfl) ?_
              repeat (first | go_big_quiet_skip | (go_big_quiet_want; go_big_quiet_op; first | go_big_quiet_on | (apply Exists.intro; refine ⟨fun s => ?_, ?_⟩; (first | (go_at_call 21; exact call_kept (M _)) | (go_at_call 22; exact call_kept (AD _))); go_big_quiet_on)))
              refine wpQuiet_nil ?_
              rintro w7 ⟨⟨_, hk7⟩, rfl⟩
              clear ks_c0 ks_c1 ks_c2 ks_c3 c0 c1 c2 c3
              go_wp2_with fail
              exact ⟨⟨q + 1, by omega, by go_num, kept_trans hkx hk7⟩, by simp [intOf]; omega⟩
            · obtain rfl : q = n := by omega
              clear fa0 fb0 hat
              go_wp2_with fail
              refine (alive02_c _).mono ?_
              rintro e w7 ⟨rfl, hk7⟩
              go_wp2_with fail
              go_ret
              exact ⟨rfl, kept_trans hk0 (kept_trans hk (kept_trans hkx hk7))⟩
    · generalize amiss k xs.length = er at *
      have hne : ¬ er = 0 := hz
      clear ua ub
      generalize fwdv k xs = fs at *
      generalize fwdv k (mk xs.length fun i => mulm k a (i : Nat)) = gs at *
      generalize fwdv k (mk xs.length fun i => addm k (nth xs i) (mulm k (mulm k a (i : Nat)) b)) = hs at *
      generalize hn : xs.length = n at *
      generalize hw1 : w.alloc (.cells #[.int .u64 a, .int .u64 b] 37) = w1 at *
      go_enter Try.func8, Try.ntmps8
      go_wp2_with fail
      try rw [hw1]
      clear hw1
      go_loopw [7, 8, 25] (fun va vb i wr => ∃ q : Nat, q ≤ n ∧ i = .int .i64 q ∧ Own .u64 32 w1.heap.size wr va (mk q fun i => mulm k a (i : Nat)) ∧ Own .u64 32 w1.heap.size wr vb (mk q fun i => addm k (nth xs i) (mulm k (mulm k a (i : Nat)) b)) ∧ Apart2 va vb ∧ Kept w1 wr) (fun _ _ i _ => n - (intOf i).toNat)
      case atStart => exact ⟨0, Nat.zero_le _, rfl, Own.nil _ _ _ _, Own.nil _ _ _ _, fun g e => by simp [Value.ownBlock] at e, kept_refl _⟩
      case round =>
        obtain ⟨q, hq, rfl, hownA, hownB, hap, hk⟩ := hrel
        by_cases hlt : q < n
        · obtain ⟨ad, rfl, c0⟩ := (hr.kept hk).at_ (j := q) (by omega)
          have y0 := kept_cell hk z0
          have M1 := mul_c k a (q : Nat) ha (Int.natCast_nonneg _)
          have M2 := mul_c k (mulm k a (q : Nat)) b (fa0 q) hb
          have M3 := add_c k (nth xs q) (mulm k (mulm k a (q : Nat)) b) (hu q) (mulm_bd _ _ _).1
          go_wp2_with fail
          refine (M1 _).mono ?_
          rintro e w2 ⟨rfl, hk2⟩
          have hA2 : World.ownsRow _ _ _ _ _ _ _ := hownA.kept hk2
          have hB2 : World.ownsRow _ _ _ _ _ _ _ := hownB.kept hk2
          rw [mk_length] at hA2 hB2
          replace hk := kept_trans hk hk2
          have hbase := hk.size
          clear hownA hownB y0 c0 M1
          go_wp2_with (at_builtin; refine wpList_append_own_at _ rfl _ _ 26 rfl w1.heap.size 32 i1 (.int .u64 0) 1 8 Try.underlying26 hif1 hy0 hy1 hy2 rfl (by decide) _ _ _ rfl (hA2.alloc _) ⟨w2.heap.size, 0, none⟩ 1 1 [.int .u64 (mulm k a (q : Nat))] rfl rfl ?c1 ?c2 ?c3 ?c4 ?c5 ?_)
          case c1 =>
            intro q u hq
            match q, hq with
            | 0, hq => simp at hq; subst hq; simp [Addr.add]
          case c2 => intro u hu; simp at hu; subst hu; rfl
          case c3 => unfold maxLen; omega
          case c4 => omega
          case c5 => simp; omega
          · intro va' w3 hA3 hgrow _ hblk
            have K3 := kept_grown (kept_alloc hk _) (hA2.alloc _) (Nat.le_refl _) hgrow
            have hB3 := World.ownsRow.kept (hB2.alloc _) hgrow hap.symm.ne
            have hap3 := apart_new hap.symm hB2 hblk
            have RA : Own .u64 32 w1.heap.size w3 va' (mk (q + 1) fun i => mulm k a (i : Nat)) := Own.appended (f := fun i : Nat => mulm k a (i : Nat)) hA3
            have y1 := kept_cell K3 z1
            clear hA3 hgrow hblk hA2 hB2 hk
            go_wp2_with fail
            refine (M2 _).mono ?_
            rintro e w4 ⟨rfl, hk4⟩
            go_wp2_with fail
            refine (M3 _).mono ?_
            rintro e w5 ⟨rfl, hk5⟩
            have hk45 := kept_trans hk4 hk5
            have hB5 := rowKept hB3 hk45
            have hA5 : World.ownsRow _ _ _ _ _ _ _ := RA.kept hk45
            have hk := kept_trans K3 hk45
            have hbase := hk.size
            clear hB3 RA K3 hk4 hk5 hk45 y1
            go_wp2_with (at_builtin; refine wpList_append_own_at _ rfl _ _ 26 rfl w1.heap.size 32 i1 (.int .u64 0) 1 8 Try.underlying26 hif1 hy0 hy1 hy2 rfl (by decide) _ _ _ rfl (hB5.alloc _) ⟨w5.heap.size, 0, none⟩ 1 1 [.int .u64 (addm k (nth xs q) (mulm k (mulm k a (q : Nat)) b))] rfl rfl ?c1 ?c2 ?c3 ?c4 ?c5 ?_)
            case c1 =>
              intro q u hq
              match q, hq with
              | 0, hq => simp at hq; subst hq; simp [Addr.add]
            case c2 => intro u hu; simp at hu; subst hu; rfl
            case c3 => unfold maxLen; omega
            case c4 => omega
            case c5 => simp; omega
            · intro vb' w6 hB6 hgrow _ hblk
              have K6 := kept_grown (kept_alloc hk _) (hB5.alloc _) (Nat.le_refl _) hgrow
              have hA6 := World.ownsRow.kept (hA5.alloc _) hgrow hap3.symm.ne
              have hap6 := apart_new hap3.symm hA5 hblk
              have RB : Own .u64 32 w1.heap.size w6 vb' (mk (q + 1) fun i => addm k (nth xs i) (mulm k (mulm k a (i : Nat)) b)) := Own.appended (f := fun i : Nat => addm k (nth xs i) (mulm k (mulm k a (i : Nat)) b)) hB6
              clear hB6 hgrow hblk hB5
              go_wp2_with fail
              exact ⟨⟨q + 1, by omega, by go_num, hA6, RB, hap6, K6⟩, by simp [intOf]; omega⟩
        · obtain rfl : n = q := by omega
          go_wp2_with fail
          refine (F1 _ (hr.kept hk)).mono ?_
          rintro e w4 ⟨v4, rfl, hown4, hk4⟩
          obtain ⟨AA, cA, rfl, _, _, rA⟩ := (hownA.kept hk4).rd
          rw [mk_length]
          go_wp2_with fail
          refine (F2 _ _ _ rA).mono ?_
          rintro e w5 ⟨v5, rfl, hown5, hk5⟩
          obtain ⟨AB, cB, rfl, _, _, rB⟩ := (hownB.kept (kept_trans hk4 hk5)).rd
          rw [mk_length]
          go_wp2_with fail
          refine (F3 _ _ _ rB).mono ?_
          rintro e w6 ⟨v6, rfl, hown6, hk6⟩
          obtain ⟨A4, c4, rfl, _, _, r4⟩ := (hown4.kept (kept_trans hk5 hk6)).rd
          obtain ⟨A5, c5, rfl, _, _, r5⟩ := (hown5.kept hk6).rd
          obtain ⟨A6, c6, rfl, _, _, r6⟩ := hown6.rd
          clear hown4 hown5 hown6 fa0 fb0
          go_wp2_with fail
          refine (alive02_c _).mono ?_
          rintro e w7 ⟨rfl, hk7⟩
          go_wp2_with fail
          go_ret
          exact ⟨rfl, kept_trans hk0 (kept_trans hk (kept_trans hk4 (kept_trans hk5 (kept_trans hk6 hk7))))⟩
  · have g1 : 4096 < xs.length := by omega
    clear h
    go_enter Try.func8, Try.ntmps8
    go_wp2_with fail
    refine (alive02_c _).mono ?_
    rintro e w1 ⟨rfl, hk1⟩
    go_wp2_with fail
    go_ret
    exact ⟨rfl, kept_trans hk0 hk1⟩
end Go.Proofs.Ytkielaonclabbaa
