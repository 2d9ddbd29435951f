/-
  Layer 22 (grid): a mask turned.
-/
import Derived.Test.YthbbkmkaopgmdaaWGrid10
import Derived.Deep.RegionHeld3
namespace Go.Proofs.Ythbbkmkaopgmdaa
open Go.RowKit BG
attribute [local go_sem ↓] Go.wp_at_zero Go.wp_at_succ
set_option linter.unusedVariables false

/-- The first classes of a mask turned. -/
def turnT (xs : List Int) (V h : Nat) (k : Int) (j : Nat) : List Cl := (List.range j).map fun p => cls xs (cellAt V h k p)
def turnF (xs : List Int) (V n : Nat) (k : Int) : List Int := flatC (turnT xs V (n / V) k n)
theorem turnT_succ (xs : List Int) (V h : Nat) (k : Int) (j : Nat) : turnT xs V h k (j + 1) = turnT xs V h k j ++ [cls xs (cellAt V h k j)] := by unfold turnT; rw [List.range_succ, List.map_append]; rfl
theorem turnT_len (xs : List Int) (V h : Nat) (k : Int) (j : Nat) : (turnT xs V h k j).length = j := by simp [turnT]
theorem mayb_parts {V : Int} {xs : List Int} {n : Nat} (h : mayb V xs n = true) : ∃ K : Nat, V = (K : Int) ∧ 1 ≤ K ∧ K ≤ 64 ∧ n % K = 0 ∧ 1 ≤ n / K ∧ n / K ≤ 64 ∧ n = K * (n / K) ∧ contv xs n zerov = false := by
  have h2 := h
  unfold mayb at h2
  rw [Bool.and_eq_true, Bool.and_eq_true, decide_eq_true_eq] at h2
  obtain ⟨⟨h3, h4⟩, h5⟩ := h2
  have h3' : 1 ≤ V ∧ V ≤ 64 ∧ n % V.toNat = 0 ∧ n ≤ 64 * V.toNat := of_decide_eq_true h3
  obtain ⟨K, rfl⟩ : ∃ K : Nat, V = (K : Int) := ⟨V.toNat, by omega⟩
  rw [Int.toNat_natCast] at h3'
  have hd := (div_le64 (n := n) (W := K) (by omega) h3'.2.2.1).2 h3'.2.2.2
  have h := Nat.div_add_mod n K
  rw [h3'.2.2.1, Nat.add_zero] at h
  have hp : 1 ≤ n / K := by
    rcases Nat.eq_zero_or_pos (n / K) with h0 | h0
    · rw [h0, Nat.mul_zero] at h; omega
    · exact h0
  exact ⟨K, rfl, by omega, by omega, h3'.2.2.1, hp, hd, h.symm, by simpa using h5⟩
theorem far_cell {wr w6 : World} {o : Obj} {row : Option Nat} (hgrow : ((wr.alloc o).drew).grownBy w6 row) {a : Addr} {u : Value} (hc : wr.cell? a = some u) (hlt : a.block < wr.heap.size) (hne : some a.block ≠ row) : w6.cell? a = some u :=
  (hgrow.cell_far a (by show a.block < (wr.alloc o).heap.size; simp; omega) hne).trans (kept_cell (kept_drew (kept_alloc (kept_refl wr) o)) hc)
/-- What a call of Turn tells. -/
def AnsT (V : Int) (xs : List Int) (n : Nat) (k : Int) (w : World) (e : Ending) (w' : World) : Prop :=
  (mayb V xs n = true ∧ ∃ A c, e = .returned (.tuple #[maskV (wideN V.toNat (n / V.toNat) k : Nat) A n c, .bool true]) ∧ Rd .u64 w' A (turnF xs V.toNat n k) ∧ Kept w w' ∧ n ≤ c) ∨ (mayb V xs n = false ∧ e = .returned (.tuple #[maskV 0 none 0 0, .bool false]) ∧ Kept w w')
set_option maxRecDepth 100000 in
set_option maxHeartbeats 8000000 in
theorem turn_no (V : Int) (A : Option Addr) (cap n : Nat) (xs : List Int) (k : Int) (k1 : -9223372036854775808 ≤ k) (k2 : k ≤ 9223372036854775807) (hu : U64 xs) (hl : xs.length = 4 * n) (hn : n ≤ 1000000) (w : World) (hr : Rd .u64 w A xs) (hno : mayb V xs n = false) : Calls Try.prog 18 #[maskV V A n cap, .int .i64 k] w (AnsT V xs n k w) := by
  have ka := kept_alloc (kept_alloc (kept_refl w) (.cells #[.int .i64 V, .slice A n cap] 33)) (.cells #[.int .i64 0, .slice none 0 0] 33)
  have hbm := blk_alloc (blk_new w (.cells #[.int .i64 V, .slice A n cap] 33)) (.cells #[.int .i64 0, .slice none 0 0] 33)
  have hbz := blk_new1 w (.cells #[.int .i64 V, .slice A n cap] 33) (.cells #[.int .i64 0, .slice none 0 0] 33)
  have M := fun w1 h => may_c V A cap n xs hu hl w1 h
  rw [hno] at M
  have c0 := cell_at hbm 0 rfl
  have c1 := cell_at hbm 1 rfl
  go_enter Try.func18, Try.ntmps18
  go_wp2_with fail
  refine (M _ (hr.kept ka)).mono ?_
  rintro e w1 ⟨rfl, hk1⟩
  have b1 := blk_kept hk1 hbz
  have z0 : w1.cell? ⟨w.heap.size + 1, 0, none⟩ = some (.int .i64 0) := cell_at b1 0 rfl
  have z1 : w1.cell? ⟨w.heap.size + 1, 1, none⟩ = some (.slice none 0 0) := cell_at b1 1 rfl
  have fz0 := blk_frozen b1 0
  have fz1 := blk_frozen b1 1
  have K2 := kept_set (kept_set (kept_trans ka hk1) (p := ⟨w.heap.size + 1, 0, none⟩) (Nat.le_succ _) (.int .i64 0)) (p := ⟨w.heap.size + 1, 1, none⟩) (Nat.le_succ _) (.slice none 0 0)
  clear M c0 c1
  go_wp2_with fail
  exact bodyPost_ret (v := .tuple #[maskV 0 none 0 0, .bool false]) (by simp [results, Try.results18, go_sem, z0, z1]) rfl (.inr ⟨hno, rfl, K2⟩)
set_option maxRecDepth 100000 in
set_option maxHeartbeats 8000000 in
theorem rturn_no (V : Int) (A : Option Addr) (cap n : Nat) (xs : List Int) (k : Int) (k1 : -9223372036854775808 ≤ k) (k2 : k ≤ 9223372036854775807) (hu : U64 xs) (hl : xs.length = 4 * n) (hn : n ≤ 1000000) (w : World) (hr : Rd .u64 w A xs) (hno : mayb V xs n = false) : Calls Try.prog 19 #[maskV V A n cap, .int .i64 k] w (AnsT V xs n k w) := by
  have ka := kept_alloc (kept_alloc (kept_refl w) (.cells #[.int .i64 V, .slice A n cap] 26)) (.cells #[.int .i64 0, .slice none 0 0] 26)
  have hbm := blk_alloc (blk_new w (.cells #[.int .i64 V, .slice A n cap] 26)) (.cells #[.int .i64 0, .slice none 0 0] 26)
  have hbz := blk_new1 w (.cells #[.int .i64 V, .slice A n cap] 26) (.cells #[.int .i64 0, .slice none 0 0] 26)
  have M := fun w1 h => rmay_c V A cap n xs hu hl w1 h
  rw [hno] at M
  have c0 := cell_at hbm 0 rfl
  have c1 := cell_at hbm 1 rfl
  go_enter Try.func19, Try.ntmps19
  go_wp2_with fail
  refine (M _ (hr.kept ka)).mono ?_
  rintro e w1 ⟨rfl, hk1⟩
  have b1 := blk_kept hk1 hbz
  have z0 : w1.cell? ⟨w.heap.size + 1, 0, none⟩ = some (.int .i64 0) := cell_at b1 0 rfl
  have z1 : w1.cell? ⟨w.heap.size + 1, 1, none⟩ = some (.slice none 0 0) := cell_at b1 1 rfl
  have fz0 := blk_frozen b1 0
  have fz1 := blk_frozen b1 1
  have K2 := kept_set (kept_set (kept_trans ka hk1) (p := ⟨w.heap.size + 1, 0, none⟩) (Nat.le_succ _) (.int .i64 0)) (p := ⟨w.heap.size + 1, 1, none⟩) (Nat.le_succ _) (.slice none 0 0)
  clear M c0 c1
  go_wp2_with fail
  exact bodyPost_ret (v := .tuple #[maskV 0 none 0 0, .bool false]) (by simp [results, Try.results19, go_sem, z0, z1]) rfl (.inr ⟨hno, rfl, K2⟩)
set_option maxRecDepth 100000 in
set_option maxHeartbeats 16000000 in
theorem turn_yes (V : Nat) (A : Option Addr) (cap n : Nat) (xs : List Int) (k : Int) (k1 : -9223372036854775808 ≤ k) (k2 : k ≤ 9223372036854775807) (hu : U64 xs) (hl : xs.length = 4 * n) (hn : n ≤ 1000000) (w : World) (hr : Rd .u64 w A xs) (hyes : mayb (V : Int) xs n = true) (hV : 1 ≤ V) (hV2 : V ≤ 64) (hh1 : 1 ≤ n / V) (hhh : n / V ≤ 64) (hnV : n = V * (n / V)) : Calls Try.prog 18 #[maskV (V : Int) A n cap, .int .i64 k] w (AnsT (V : Int) xs n k w) := by
  obtain ⟨i1, hif1, hy0, hy1, hy2⟩ := info_parts info_class
  have hM := hyes
  have HM := Lib.hid hM
  clear hM
  have ka := kept_alloc (kept_alloc (kept_refl w) (.cells #[.int .i64 (V : Nat), .slice A n cap] 33)) (.cells #[.int .i64 0, .slice none 0 0] 33)
  have hbm := blk_alloc (blk_new w (.cells #[.int .i64 (V : Nat), .slice A n cap] 33)) (.cells #[.int .i64 0, .slice none 0 0] 33)
  have hbz := blk_new1 w (.cells #[.int .i64 (V : Nat), .slice A n cap] 33) (.cells #[.int .i64 0, .slice none 0 0] 33)
  have M := fun w1 h => may_c (V : Int) A cap n xs hu hl w1 h
  rw [hyes] at M
  clear hyes
  have c0 := cell_at hbm 0 rfl
  have c1 := cell_at hbm 1 rfl
  have hzV : ((V : Int) == 0) = false := by rw [beq_eq_false_iff_ne]; omega
  have hqV := tdiv_nat n V
  have hct : ∀ j, j < n → cellAt V (n / V) k j < n := fun j hj => by
    have := cell_lt (w := V) (h := n / V) (p := j) k (by omega) (by omega) (by omega)
    omega
  have hcv : (cellsv V (n / V) k).length = n := by unfold cellsv; rw [mk_length]; omega
  have hcn : ∀ j, j < n → nth (cellsv V (n / V) k) j = ((cellAt V (n / V) k j : Nat) : Int) := fun j hj => by unfold cellsv; rw [nth_mk (by omega)]
  have htl : (flatC (turnT xs V (n / V) k n)).length = 4 * n := by rw [flatC_length, turnT_len]
  have hn0 : 0 < n := by have := Nat.mul_le_mul hV hh1; omega
  have hts := turnT_succ xs V (n / V) k
  have htll := turnT_len xs V (n / V) k
  have htf : turnF xs V n k = flatC (turnT xs V (n / V) k n) := rfl
  have ht0 : turnT xs V (n / V) k 0 = [] := rfl
  have hww : wideN ((V : Int)).toNat (n / ((V : Int)).toNat) k = wideN V (n / V) k := by rw [Int.toNat_natCast]
  have CC := fun w1 => cells_yes V (n / V) k k1 k2 (by omega) (by omega) hV2 hhh w1
  generalize hhn : n / V = hh at *
  have HN := Lib.hid hnV
  have HHN := Lib.hid hhn
  have HCT := Lib.hid hct
  have HCN := Lib.hid hcn
  have HTL := Lib.hid htl
  have HTS := Lib.hid hts
  have HTLL := Lib.hid htll
  have HTF := Lib.hid htf
  have HT0 := Lib.hid ht0
  have HWW := Lib.hid hww
  have HCV := Lib.hid hcv
  clear hnV hhn hct hcn htl hts htll htf ht0 hww hcv
  generalize turnT xs V hh k = tt at *
  generalize cellAt V hh k = ca at *
  generalize hcs : cellsv V hh k = cs at *
  clear hcs
  generalize wideN V hh k = WW at *
  go_enter Try.func18, Try.ntmps18
  go_wp2_with fail
  refine (M _ (hr.kept ka)).mono ?_
  rintro e w1 ⟨rfl, hk1⟩
  have b1 := blk_kept hk1 hbm
  have g0 : w1.cell? ⟨w.heap.size, 0, none⟩ = some (.int .i64 (V : Nat)) := cell_at b1 0 rfl
  have g1 : w1.cell? ⟨w.heap.size, 1, none⟩ = some (.slice A n cap) := cell_at b1 1 rfl
  have hzV1 : ¬ (V : Int) = 0 := by omega
  have hzV2 : ¬ V = 0 := by omega
  have hwh : IntKind.i64.wrap (hh : Int) = (hh : Int) := by rw [IntKind.wrap_i64]; omega
  have hwh2 : (n : Int) / (V : Int) = (hh : Int) := by rw [← HHN.out, Int.natCast_ediv]
  clear M c0 c1
  go_wp2_with fail
  go_region_held3 (fun w' => w'.cell? ⟨w.heap.size, 0, none⟩ = some (.int .i64 (V : Nat)) ∧ w'.cell? ⟨w.heap.size, 1, none⟩ = some (.slice A n cap)) (first | go_keep | exact ⟨kept_cell hk3 g0, kept_cell hk3 g1⟩) (first | (go_at_call 23; refine (CC _).mono ?_; rintro e w3 ⟨v3, rfl, own3, hk3⟩))
  have hk2 := kept_trans (kept_drew hk1) hk3
  replace hk3 := hk2
  clear hk1 g0 g1 b1 hzV1 hzV2 hwh hwh2
  obtain ⟨A3, c3, rfl, hc3, _, rd3⟩ := own3.rd
  rw [HCV.out]
  replace ka := kept_trans ka hk3
  have hbm3 := blk_kept hk3 hbm
  have hbz3 := blk_kept hk3 hbz
  clear CC own3 hk2 hk3 hbm hbz
  have kb := kept_alloc (kept_refl w3) (.cells #[.int .i64 (WW : Nat), .slice none 0 0] 33)
  have hbo := blk_new w3 (.cells #[.int .i64 (WW : Nat), .slice none 0 0] 33)
  go_wp2_with fail
  go_loopw [36] (fun i wr => ∃ j : Nat, j ≤ n ∧ i = .int .i64 j ∧ (∃ v, wr.heap[w3.heap.size]? = some (.cells #[.int .i64 (WW : Nat), v] 33 (0, 0)) ∧ wr.ownsRow (w3.heap.size + 1) 61 4 v j ((flatC (tt j)).map (Value.int .u64))) ∧ Kept w3 wr ∧ w3.heap.size + 1 ≤ wr.heap.size) (fun i _ => n - (intOf i).toNat)
  case atStart => exact ⟨0, Nat.zero_le _, rfl, ⟨_, hbo, by rw [HT0.out]; exact World.ownsRow_nil _ _ _ _⟩, kb, by simp⟩
  case round =>
    clear hbo kb
    obtain ⟨j, hj, rfl, ⟨v, hbo, hown⟩, hk, hbase⟩ := hrel
    have hB : w.heap.size + 1 < w3.heap.size := blk_lt' hbz3
    by_cases hlt : j < n
    · have hct := HCT.out j hlt
      have hcn := HCN.out j hlt
      have ht := HTS.out j
      obtain ⟨ac, rfl, hac⟩ := rd3.2 (by rw [HCV.out]; exact hn0)
      have x0 := hac j (by rw [HCV.out]; exact hlt)
      rw [hcn] at x0
      have x0w := kept_cell hk x0
      generalize ca j = t at *
      obtain ⟨ad, rfl, d0, d1, d2, d3⟩ := hr.cl hl hct
      have l0 := World.block_lt_of_cell? w _ d0
      have l1 := World.block_lt_of_cell? w3 _ x0
      have kk := kept_trans ka hk
      replace d0 := kept_cell kk d0
      replace d1 := kept_cell kk d1
      replace d2 := kept_cell kk d2
      replace d3 := kept_cell kk d3
      have c1 : wr.cell? ⟨w.heap.size, 1, none⟩ = some (.slice (some ad) n cap) := cell_at (blk_kept hk hbm3) 1 rfl
      have o1 : wr.cell? ⟨w3.heap.size, 1, none⟩ = some v := blk_cell hbo 1
      have hf := congrArg flatC ht
      rw [flatC_append] at hf
      have HF := Lib.hid hf
      clear ht hf hcn x0 kk
      generalize cls xs t = x at *
      obtain ⟨y0, y1, y2, y3⟩ := x
      dsimp only at d0 d1 d2 d3
      have hi1 : (0 : Int) ≤ (t : Int) := Int.natCast_nonneg _
      have hi2 : (t : Int) < (n : Int) := by omega
      have hi3 : (t : Int).toNat = t := Int.toNat_natCast _
      have hj2 : (j : Int) < (n : Int) := by omega
      have pB : w.heap.size < wr.heap.size := by omega
      have pO : w3.heap.size < wr.heap.size := by omega
      have n1 : some w.heap.size ≠ v.ownBlock := own_farN (g := w.heap.size) hown (by omega)
      have n2 : some w3.heap.size ≠ v.ownBlock := own_farN (g := w3.heap.size) hown (by omega)
      have n3 : some (ad.add (t * 4)).block ≠ v.ownBlock := own_farN (g := (ad.add (t * 4)).block) hown (by omega)
      have n4 : some (ac.add j).block ≠ v.ownBlock := own_farN (g := (ac.add j).block) hown (by omega)
      have p1 : (ad.add (t * 4)).block < wr.heap.size := by omega
      have p2 : (ac.add j).block < wr.heap.size := by omega
      have HK := Lib.hid hk
      have HNE := Lib.hid n2
      generalize hpa : ad.add (t * 4) = pa at *
      generalize hpc : ac.add j = pc at *
      go_wp2_with fail
      have o1a : (wr.alloc (.cells #[.int .u64 y0, .int .u64 y1, .int .u64 y2, .int .u64 y3] 61)).cell? ⟨w3.heap.size, 1, none⟩ = some v := kept_cell (kept_alloc (kept_refl wr) _) o1
      have o1b : (wr.alloc (.cells #[.int .u64 y0, .int .u64 y1, .int .u64 y2, .int .u64 y3] 61)).drew.cell? ⟨w3.heap.size, 1, none⟩ = some v := o1a
      have o1c : wr.drew.cell? ⟨w3.heap.size, 1, none⟩ = some v := o1
      have o1d : wr.drew.cell? ⟨w.heap.size, 1, none⟩ = some (.slice (some ad) n cap) := c1
      have o1e : wr.drew.cell? pa = some (.int .u64 y0) := d0
      have o1f : wr.drew.cell? ⟨pa.block, pa.off + 1, none⟩ = some (.int .u64 y1) := d1
      have o1g : wr.drew.cell? ⟨pa.block, pa.off + 2, none⟩ = some (.int .u64 y2) := d2
      have o1h : wr.drew.cell? ⟨pa.block, pa.off + 3, none⟩ = some (.int .u64 y3) := d3
      have o1i : wr.drew.cell? pc = some (.int .i64 (t : Nat)) := x0w
      go_region_law (first | (refine step_append_lies _ (by rfl) _ _ _ (by rfl) (w3.heap.size + 1) 61 i1 _ 4 32 Try.underlying24 hif1 hy0 hy1 hy2 rfl (by omega) v j _ (by rfl) ((World.ownsRow.alloc hown _).drew) ⟨wr.heap.size, 0, none⟩ 1 1 [.int .u64 y0, .int .u64 y1, .int .u64 y2, .int .u64 y3] (by rfl) (by rfl) (World.news_of_block (cs := #[.int .u64 y0, .int .u64 y1, .int .u64 y2, .int .u64 y3]) (t := 61) (fr := (0, 0)) (heap_alloc_new wr _)) (by simp [Value.oneCell']) (by omega) (by unfold maxLen; omega) (by omega) (by simp; omega) (wr.heap.size + 1) (by simp) ?_; intro g capn w6 hown6 hgrow hat hlt'; have hb6 : w6.heap[w3.heap.size]? = some (.cells #[.int .i64 (WW : Nat), v] 33 (0, 0)) := (hgrow.block w3.heap.size (by simp; omega) n2).trans (blk_drew (blk_alloc hbo _)); have D0 : w6.cell? ⟨w3.heap.size, 1, none⟩ = some v := blk_cell hb6 1; have F0 := blk_frozen hb6 1))
      all_goals (
        have K := kept_grown (kept_drew (kept_alloc hk _)) ((World.ownsRow.alloc hown _).drew) (show w3.heap.size ≤ w3.heap.size + 1 from Nat.le_succ _) hgrow
        have hs6 := hgrow.size
        have hs7 : wr.heap.size + 1 ≤ w6.heap.size := by
          have e6 : (wr.alloc (.cells #[.int .u64 y0, .int .u64 y1, .int .u64 y2, .int .u64 y3] 61)).drew.heap.size = wr.heap.size + 1 := by show (wr.alloc _).heap.size = _; simp
          omega
        have hb7 := blk_set hb6 1 (.slice (some ⟨g, 0, none⟩) (j + 1) capn)
        have K7 := kept_set K (p := ⟨w3.heap.size, 1, none⟩) (Nat.le_refl _) (.slice (some ⟨g, 0, none⟩) (j + 1) capn)
        have o7 := ownN_set hown6 (p := ⟨w3.heap.size, 1, none⟩) (by show w3.heap.size < w3.heap.size + 1; omega) (.slice (some ⟨g, 0, none⟩) (j + 1) capn)
        have o8 : (w6.setCell ⟨w3.heap.size, 1, none⟩ (.slice (some ⟨g, 0, none⟩) (j + 1) capn)).ownsRow (w3.heap.size + 1) 61 4 (.slice (some ⟨g, 0, none⟩) (j + 1) capn) (j + 1) ((flatC (tt (j + 1))).map (Value.int .u64)) := by
          rw [HF.out, List.map_append]
          exact o7
        have s8 : w3.heap.size + 1 ≤ (w6.setCell ⟨w3.heap.size, 1, none⟩ (.slice (some ⟨g, 0, none⟩) (j + 1) capn)).heap.size := by simp; omega
        clear hown6 hgrow hat hlt' hb6 K o7 D0 F0 hs6 hs7 o1 o1a o1b o1c o1d o1e o1f o1g o1h o1i c1 x0w d0 d1 d2 d3 hown hk
        go_wp2_with fail
        exact ⟨⟨j + 1, by omega, by go_num, ⟨_, hb7, o8⟩, K7, s8⟩, by simp [intOf]; omega⟩)
    · obtain rfl : j = n := by omega
      have hlen := HTL.out
      have hbz := blk_kept hk hbz3
      have b0 := blk_cell hbo 0
      have b1 := blk_cell hbo 1
      have z0 := blk_cell hbz 0
      have z1 := blk_cell hbz 1
      have fz0 := blk_frozen hbz 0
      have fz1 := blk_frozen hbz 1
      obtain ⟨A', cap', rfl, hcap', _⟩ := ownN_rd hown hlen (by omega)
      have o2 := ownN_set (ownN_set hown (p := ⟨w.heap.size + 1, 0, none⟩) (by show w.heap.size + 1 < w3.heap.size + 1; omega) (.int .i64 (WW : Nat))) (p := ⟨w.heap.size + 1, 1, none⟩) (by show w.heap.size + 1 < w3.heap.size + 1; omega) (.slice A' j cap')
      obtain ⟨A'', cap'', e', _, rd⟩ := ownN_rd o2 hlen (by omega)
      simp only [Value.slice.injEq] at e'
      rw [← e'.1] at rd
      have K2 := kept_set (kept_set (kept_trans ka hk) (p := ⟨w.heap.size + 1, 0, none⟩) (Nat.le_succ _) (.int .i64 (WW : Nat))) (p := ⟨w.heap.size + 1, 1, none⟩) (Nat.le_succ _) (.slice A' j cap')
      have hne : w3.heap.size ≠ w.heap.size + 1 := by omega
      clear hown e' o2 hbo hbz hk
      go_wp2_with fail
      exact bodyPost_ret (v := .tuple #[maskV (WW : Nat) A' j cap', .bool true]) (by simp [results, Try.results18, go_sem, z0, z1]) rfl (.inl ⟨HM.out, A', cap', by rw [HWW.out], by rw [Int.toNat_natCast, HTF.out]; exact rd, K2, hcap'⟩)
set_option maxRecDepth 100000 in
set_option maxHeartbeats 16000000 in
theorem rturn_yes (V : Nat) (A : Option Addr) (cap n : Nat) (xs : List Int) (k : Int) (k1 : -9223372036854775808 ≤ k) (k2 : k ≤ 9223372036854775807) (hu : U64 xs) (hl : xs.length = 4 * n) (hn : n ≤ 1000000) (w : World) (hr : Rd .u64 w A xs) (hyes : mayb (V : Int) xs n = true) (hV : 1 ≤ V) (hV2 : V ≤ 64) (hh1 : 1 ≤ n / V) (hhh : n / V ≤ 64) (hnV : n = V * (n / V)) : Calls Try.prog 19 #[maskV (V : Int) A n cap, .int .i64 k] w (AnsT (V : Int) xs n k w) := by
  obtain ⟨i1, hif1, hy0, hy1, hy2⟩ := info_parts info_class
  have hM := hyes
  have HM := Lib.hid hM
  clear hM
  have ka := kept_alloc (kept_alloc (kept_refl w) (.cells #[.int .i64 (V : Nat), .slice A n cap] 26)) (.cells #[.int .i64 0, .slice none 0 0] 26)
  have hbm := blk_alloc (blk_new w (.cells #[.int .i64 (V : Nat), .slice A n cap] 26)) (.cells #[.int .i64 0, .slice none 0 0] 26)
  have hbz := blk_new1 w (.cells #[.int .i64 (V : Nat), .slice A n cap] 26) (.cells #[.int .i64 0, .slice none 0 0] 26)
  have M := fun w1 h => rmay_c (V : Int) A cap n xs hu hl w1 h
  rw [hyes] at M
  clear hyes
  have c0 := cell_at hbm 0 rfl
  have c1 := cell_at hbm 1 rfl
  have hzV : ((V : Int) == 0) = false := by rw [beq_eq_false_iff_ne]; omega
  have hqV := tdiv_nat n V
  have hct : ∀ j, j < n → cellAt V (n / V) k j < n := fun j hj => by
    have := cell_lt (w := V) (h := n / V) (p := j) k (by omega) (by omega) (by omega)
    omega
  have hcv : (cellsv V (n / V) k).length = n := by unfold cellsv; rw [mk_length]; omega
  have hcn : ∀ j, j < n → nth (cellsv V (n / V) k) j = ((cellAt V (n / V) k j : Nat) : Int) := fun j hj => by unfold cellsv; rw [nth_mk (by omega)]
  have htl : (flatC (turnT xs V (n / V) k n)).length = 4 * n := by rw [flatC_length, turnT_len]
  have hn0 : 0 < n := by have := Nat.mul_le_mul hV hh1; omega
  have hts := turnT_succ xs V (n / V) k
  have htll := turnT_len xs V (n / V) k
  have htf : turnF xs V n k = flatC (turnT xs V (n / V) k n) := rfl
  have ht0 : turnT xs V (n / V) k 0 = [] := rfl
  have hww : wideN ((V : Int)).toNat (n / ((V : Int)).toNat) k = wideN V (n / V) k := by rw [Int.toNat_natCast]
  have CC := fun w1 => rcells_yes V (n / V) k (by omega) (by omega) hV2 hhh w1
  generalize hhn : n / V = hh at *
  have HN := Lib.hid hnV
  have HHN := Lib.hid hhn
  have HCT := Lib.hid hct
  have HCN := Lib.hid hcn
  have HTL := Lib.hid htl
  have HTS := Lib.hid hts
  have HTLL := Lib.hid htll
  have HTF := Lib.hid htf
  have HT0 := Lib.hid ht0
  have HWW := Lib.hid hww
  have HCV := Lib.hid hcv
  clear hnV hhn hct hcn htl hts htll htf ht0 hww hcv
  generalize turnT xs V hh k = tt at *
  generalize cellAt V hh k = ca at *
  generalize hcs : cellsv V hh k = cs at *
  clear hcs
  generalize wideN V hh k = WW at *
  go_enter Try.func19, Try.ntmps19
  go_wp2_with fail
  refine (M _ (hr.kept ka)).mono ?_
  rintro e w1 ⟨rfl, hk1⟩
  have b1 := blk_kept hk1 hbm
  have g0 : w1.cell? ⟨w.heap.size, 0, none⟩ = some (.int .i64 (V : Nat)) := cell_at b1 0 rfl
  have g1 : w1.cell? ⟨w.heap.size, 1, none⟩ = some (.slice A n cap) := cell_at b1 1 rfl
  have hzV1 : ¬ (V : Int) = 0 := by omega
  have hzV2 : ¬ V = 0 := by omega
  have hwh : IntKind.i64.wrap (hh : Int) = (hh : Int) := by rw [IntKind.wrap_i64]; omega
  have hwh2 : (n : Int) / (V : Int) = (hh : Int) := by rw [← HHN.out, Int.natCast_ediv]
  clear M c0 c1
  go_wp2_with fail
  go_region_held3 (fun w' => w'.cell? ⟨w.heap.size, 0, none⟩ = some (.int .i64 (V : Nat)) ∧ w'.cell? ⟨w.heap.size, 1, none⟩ = some (.slice A n cap)) (first | go_keep | exact ⟨kept_cell hk3 g0, kept_cell hk3 g1⟩) (first | (go_at_call 24; refine (CC _).mono ?_; rintro e w3 ⟨v3, rfl, own3, hk3⟩))
  have hk2 := kept_trans (kept_drew hk1) hk3
  replace hk3 := hk2
  clear hk1 g0 g1 b1 hzV1 hzV2 hwh hwh2
  obtain ⟨A3, c3, rfl, hc3, _, rd3⟩ := own3.rd
  rw [HCV.out]
  replace ka := kept_trans ka hk3
  have hbm3 := blk_kept hk3 hbm
  have hbz3 := blk_kept hk3 hbz
  clear CC own3 hk2 hk3 hbm hbz
  have kb := kept_alloc (kept_refl w3) (.cells #[.int .i64 (WW : Nat), .slice none 0 0] 26)
  have hbo := blk_new w3 (.cells #[.int .i64 (WW : Nat), .slice none 0 0] 26)
  go_wp2_with fail
  go_loopw [11] (fun i wr => ∃ j : Nat, j ≤ n ∧ i = .int .i64 j ∧ (∃ v, wr.heap[w3.heap.size]? = some (.cells #[.int .i64 (WW : Nat), v] 26 (0, 0)) ∧ wr.ownsRow (w3.heap.size + 1) 61 4 v j ((flatC (tt j)).map (Value.int .u64))) ∧ Kept w3 wr ∧ w3.heap.size + 1 ≤ wr.heap.size) (fun i _ => n - (intOf i).toNat)
  case atStart => exact ⟨0, Nat.zero_le _, rfl, ⟨_, hbo, by rw [HT0.out]; exact World.ownsRow_nil _ _ _ _⟩, kb, by simp⟩
  case round =>
    clear hbo kb
    obtain ⟨j, hj, rfl, ⟨v, hbo, hown⟩, hk, hbase⟩ := hrel
    have hB : w.heap.size + 1 < w3.heap.size := blk_lt' hbz3
    by_cases hlt : j < n
    · have hct := HCT.out j hlt
      have hcn := HCN.out j hlt
      have ht := HTS.out j
      obtain ⟨ac, rfl, hac⟩ := rd3.2 (by rw [HCV.out]; exact hn0)
      have x0 := hac j (by rw [HCV.out]; exact hlt)
      rw [hcn] at x0
      have x0w := kept_cell hk x0
      generalize ca j = t at *
      obtain ⟨ad, rfl, d0, d1, d2, d3⟩ := hr.cl hl hct
      have l0 := World.block_lt_of_cell? w _ d0
      have l1 := World.block_lt_of_cell? w3 _ x0
      have kk := kept_trans ka hk
      replace d0 := kept_cell kk d0
      replace d1 := kept_cell kk d1
      replace d2 := kept_cell kk d2
      replace d3 := kept_cell kk d3
      have c1 : wr.cell? ⟨w.heap.size, 1, none⟩ = some (.slice (some ad) n cap) := cell_at (blk_kept hk hbm3) 1 rfl
      have o1 : wr.cell? ⟨w3.heap.size, 1, none⟩ = some v := blk_cell hbo 1
      have hf := congrArg flatC ht
      rw [flatC_append] at hf
      have HF := Lib.hid hf
      clear ht hf hcn x0 kk
      generalize cls xs t = x at *
      obtain ⟨y0, y1, y2, y3⟩ := x
      dsimp only at d0 d1 d2 d3
      have hi1 : (0 : Int) ≤ (t : Int) := Int.natCast_nonneg _
      have hi2 : (t : Int) < (n : Int) := by omega
      have hi3 : (t : Int).toNat = t := Int.toNat_natCast _
      have hj2 : (j : Int) < (n : Int) := by omega
      have pB : w.heap.size < wr.heap.size := by omega
      have pO : w3.heap.size < wr.heap.size := by omega
      have n1 : some w.heap.size ≠ v.ownBlock := own_farN (g := w.heap.size) hown (by omega)
      have n2 : some w3.heap.size ≠ v.ownBlock := own_farN (g := w3.heap.size) hown (by omega)
      have n3 : some (ad.add (t * 4)).block ≠ v.ownBlock := own_farN (g := (ad.add (t * 4)).block) hown (by omega)
      have n4 : some (ac.add j).block ≠ v.ownBlock := own_farN (g := (ac.add j).block) hown (by omega)
      have p1 : (ad.add (t * 4)).block < wr.heap.size := by omega
      have p2 : (ac.add j).block < wr.heap.size := by omega
      have HK := Lib.hid hk
      have HNE := Lib.hid n2
      generalize hpa : ad.add (t * 4) = pa at *
      generalize hpc : ac.add j = pc at *
      go_wp2_with fail
      have o1a : (wr.alloc (.cells #[.int .u64 y0, .int .u64 y1, .int .u64 y2, .int .u64 y3] 61)).cell? ⟨w3.heap.size, 1, none⟩ = some v := kept_cell (kept_alloc (kept_refl wr) _) o1
      have o1b : (wr.alloc (.cells #[.int .u64 y0, .int .u64 y1, .int .u64 y2, .int .u64 y3] 61)).drew.cell? ⟨w3.heap.size, 1, none⟩ = some v := o1a
      have o1c : wr.drew.cell? ⟨w3.heap.size, 1, none⟩ = some v := o1
      have o1d : wr.drew.cell? ⟨w.heap.size, 1, none⟩ = some (.slice (some ad) n cap) := c1
      have o1e : wr.drew.cell? pa = some (.int .u64 y0) := d0
      have o1f : wr.drew.cell? ⟨pa.block, pa.off + 1, none⟩ = some (.int .u64 y1) := d1
      have o1g : wr.drew.cell? ⟨pa.block, pa.off + 2, none⟩ = some (.int .u64 y2) := d2
      have o1h : wr.drew.cell? ⟨pa.block, pa.off + 3, none⟩ = some (.int .u64 y3) := d3
      have o1i : wr.drew.cell? pc = some (.int .i64 (t : Nat)) := x0w
      go_region_law (first | (refine step_append_lies _ (by rfl) _ _ _ (by rfl) (w3.heap.size + 1) 61 i1 _ 4 32 Try.underlying24 hif1 hy0 hy1 hy2 rfl (by omega) v j _ (by rfl) ((World.ownsRow.alloc hown _).drew) ⟨wr.heap.size, 0, none⟩ 1 1 [.int .u64 y0, .int .u64 y1, .int .u64 y2, .int .u64 y3] (by rfl) (by rfl) (World.news_of_block (cs := #[.int .u64 y0, .int .u64 y1, .int .u64 y2, .int .u64 y3]) (t := 61) (fr := (0, 0)) (heap_alloc_new wr _)) (by simp [Value.oneCell']) (by omega) (by unfold maxLen; omega) (by omega) (by simp; omega) (wr.heap.size + 1) (by simp) ?_; intro g capn w6 hown6 hgrow hat hlt'; have hb6 : w6.heap[w3.heap.size]? = some (.cells #[.int .i64 (WW : Nat), v] 26 (0, 0)) := (hgrow.block w3.heap.size (by simp; omega) n2).trans (blk_drew (blk_alloc hbo _)); have D0 : w6.cell? ⟨w3.heap.size, 1, none⟩ = some v := blk_cell hb6 1; have F0 := blk_frozen hb6 1))
      all_goals (
        have K := kept_grown (kept_drew (kept_alloc hk _)) ((World.ownsRow.alloc hown _).drew) (show w3.heap.size ≤ w3.heap.size + 1 from Nat.le_succ _) hgrow
        have hs6 := hgrow.size
        have hs7 : wr.heap.size + 1 ≤ w6.heap.size := by
          have e6 : (wr.alloc (.cells #[.int .u64 y0, .int .u64 y1, .int .u64 y2, .int .u64 y3] 61)).drew.heap.size = wr.heap.size + 1 := by show (wr.alloc _).heap.size = _; simp
          omega
        have hb7 := blk_set hb6 1 (.slice (some ⟨g, 0, none⟩) (j + 1) capn)
        have K7 := kept_set K (p := ⟨w3.heap.size, 1, none⟩) (Nat.le_refl _) (.slice (some ⟨g, 0, none⟩) (j + 1) capn)
        have o7 := ownN_set hown6 (p := ⟨w3.heap.size, 1, none⟩) (by show w3.heap.size < w3.heap.size + 1; omega) (.slice (some ⟨g, 0, none⟩) (j + 1) capn)
        have o8 : (w6.setCell ⟨w3.heap.size, 1, none⟩ (.slice (some ⟨g, 0, none⟩) (j + 1) capn)).ownsRow (w3.heap.size + 1) 61 4 (.slice (some ⟨g, 0, none⟩) (j + 1) capn) (j + 1) ((flatC (tt (j + 1))).map (Value.int .u64)) := by
          rw [HF.out, List.map_append]
          exact o7
        have s8 : w3.heap.size + 1 ≤ (w6.setCell ⟨w3.heap.size, 1, none⟩ (.slice (some ⟨g, 0, none⟩) (j + 1) capn)).heap.size := by simp; omega
        clear hown6 hgrow hat hlt' hb6 K o7 D0 F0 hs6 hs7 o1 o1a o1b o1c o1d o1e o1f o1g o1h o1i c1 x0w d0 d1 d2 d3 hown hk
        go_wp2_with fail
        exact ⟨⟨j + 1, by omega, by go_num, ⟨_, hb7, o8⟩, K7, s8⟩, by simp [intOf]; omega⟩)
    · obtain rfl : j = n := by omega
      have hlen := HTL.out
      have hbz := blk_kept hk hbz3
      have b0 := blk_cell hbo 0
      have b1 := blk_cell hbo 1
      have z0 := blk_cell hbz 0
      have z1 := blk_cell hbz 1
      have fz0 := blk_frozen hbz 0
      have fz1 := blk_frozen hbz 1
      obtain ⟨A', cap', rfl, hcap', _⟩ := ownN_rd hown hlen (by omega)
      have o2 := ownN_set (ownN_set hown (p := ⟨w.heap.size + 1, 0, none⟩) (by show w.heap.size + 1 < w3.heap.size + 1; omega) (.int .i64 (WW : Nat))) (p := ⟨w.heap.size + 1, 1, none⟩) (by show w.heap.size + 1 < w3.heap.size + 1; omega) (.slice A' j cap')
      obtain ⟨A'', cap'', e', _, rd⟩ := ownN_rd o2 hlen (by omega)
      simp only [Value.slice.injEq] at e'
      rw [← e'.1] at rd
      have K2 := kept_set (kept_set (kept_trans ka hk) (p := ⟨w.heap.size + 1, 0, none⟩) (Nat.le_succ _) (.int .i64 (WW : Nat))) (p := ⟨w.heap.size + 1, 1, none⟩) (Nat.le_succ _) (.slice A' j cap')
      have hne : w3.heap.size ≠ w.heap.size + 1 := by omega
      clear hown e' o2 hbo hbz hk
      go_wp2_with fail
      exact bodyPost_ret (v := .tuple #[maskV (WW : Nat) A' j cap', .bool true]) (by simp [results, Try.results19, go_sem, z0, z1]) rfl (.inl ⟨HM.out, A', cap', by rw [HWW.out], by rw [Int.toNat_natCast, HTF.out]; exact rd, K2, hcap'⟩)
theorem turnm_c (V : Int) (A : Option Addr) (cap n : Nat) (xs : List Int) (k : Int) (k1 : -9223372036854775808 ≤ k) (k2 : k ≤ 9223372036854775807) (hu : U64 xs) (hl : xs.length = 4 * n) (hn : n ≤ 1000000) (w : World) (hr : Rd .u64 w A xs) : Calls Try.prog 18 #[maskV V A n cap, .int .i64 k] w (AnsT V xs n k w) := by
  cases hm : mayb V xs n
  · exact turn_no V A cap n xs k k1 k2 hu hl hn w hr hm
  · obtain ⟨K, rfl, hK, hK2, _, h1, h2, h3, _⟩ := mayb_parts hm
    exact turn_yes K A cap n xs k k1 k2 hu hl hn w hr hm hK hK2 h1 h2 h3
theorem rturnm_c (V : Int) (A : Option Addr) (cap n : Nat) (xs : List Int) (k : Int) (k1 : -9223372036854775808 ≤ k) (k2 : k ≤ 9223372036854775807) (hu : U64 xs) (hl : xs.length = 4 * n) (hn : n ≤ 1000000) (w : World) (hr : Rd .u64 w A xs) : Calls Try.prog 19 #[maskV V A n cap, .int .i64 k] w (AnsT V xs n k w) := by
  cases hm : mayb V xs n
  · exact rturn_no V A cap n xs k k1 k2 hu hl hn w hr hm
  · obtain ⟨K, rfl, hK, hK2, _, h1, h2, h3, _⟩ := mayb_parts hm
    exact rturn_yes K A cap n xs k k1 k2 hu hl hn w hr hm hK hK2 h1 h2 h3
end Go.Proofs.Ythbbkmkaopgmdaa
