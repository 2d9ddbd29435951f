/-
  Texts of one claim, joined: TSplit7, TZed1.
-/
import Derived.Test.YtdejablhpljdfaaGreatQ19
import Derived.Test.YtdejablhpljdfaaGreatQ18
namespace Go.Proofs.YtdejablhpljdfaaGreat
open Go.RowKit BG
attribute [local go_sem ↓] Go.wp_at_zero Go.wp_at_succ run_max_at
set_option linter.unusedVariables false
def hitS (xs : List Int) (n : Nat) (s : ByteArray) (l : List Cl) (i : Nat) : Nat := (l.map fun x => hitN xs n s x i).sum
def spS (xs : List Int) (n : Nat) (s : ByteArray) (q i : Nat) : Nat := gotL (rarL xs n) xs n s i + hitS xs n s ((frqL xs n).take q) i
theorem hitS_le (xs : List Int) (n : Nat) (s : ByteArray) (l : List Cl) (i : Nat) : hitS xs n s l i ≤ l.length * n := by
  induction l with
  | nil => simp [hitS]
  | cons a l ih =>
    unfold hitS at ih ⊢
    rw [List.map_cons, List.sum_cons, List.length_cons, Nat.succ_mul]
    have := hitN_le xs n s a i
    omega
theorem spS_zero (xs : List Int) (n : Nat) (s : ByteArray) (i : Nat) : spS xs n s 0 i = gotL (rarL xs n) xs n s i := by simp [spS, hitS]
theorem spS_next (xs : List Int) (n : Nat) (s : ByteArray) (q i : Nat) (h : q < (frqL xs n).length) : spS xs n s (q + 1) i = spS xs n s q i + hitN xs n s (frqL xs n)[q] i := by
  unfold spS hitS
  rw [List.take_add_one, List.getElem?_eq_getElem h, List.map_append, List.sum_append]
  simp
  omega
theorem frqL_le (xs : List Int) (n : Nat) : (frqL xs n).length ≤ n := Nat.le_trans (List.length_filter_le _ _) (kindsC_le xs n)
theorem rarL_le (xs : List Int) (n : Nat) : (rarL xs n).length ≤ n := Nat.le_trans (List.length_filter_le _ _) (kindsC_le xs n)
theorem spS_bd (xs : List Int) (n : Nat) (s : ByteArray) (q i : Nat) (hn : n ≤ 64) : spS xs n s q i ≤ 5000 := by
  have h1 := gotL_le (rarL xs n) xs n s i
  have h2 := hitS_le xs n s ((frqL xs n).take q) i
  have h3 := frqL_le xs n
  have h4 : ((frqL xs n).take q).length ≤ 64 := by rw [List.length_take]; omega
  have h5 : ((frqL xs n).take q).length * n ≤ 64 * 64 := Nat.mul_le_mul h4 hn
  unfold spS
  omega
theorem hitS_split (xs : List Int) (n : Nat) (s : ByteArray) (p : Cl → Bool) (i : Nat) (l : List Cl) : hitS xs n s (l.filter p) i + hitS xs n s (l.filter fun x => !p x) i = hitS xs n s l i := by
  induction l with
  | nil => rfl
  | cons a l ih =>
    unfold hitS at ih ⊢
    rw [List.filter_cons, List.filter_cons]
    cases p a <;> simp only [Bool.not_false, Bool.not_true, if_true, if_false, Bool.false_eq_true, List.map_cons, List.sum_cons] <;> omega
theorem spS_all (xs : List Int) (n : Nat) (s : ByteArray) (i : Nat) : boundv xs n - ((spS xs n s (frqL xs n).length i : Nat) : Int) = missF xs n s i := by
  have h1 : spS xs n s (frqL xs n).length i = gotL (kindsC xs n) xs n s i := by
    unfold spS
    rw [List.take_length]
    have hnd := kindsC_nodup xs n
    have e1 : gotL (rarL xs n) xs n s i = hitS xs n s (rarL xs n) i := (sum_hits (hnd.sublist List.filter_sublist)).symm
    have e2 : gotL (kindsC xs n) xs n s i = hitS xs n s (kindsC xs n) i := (sum_hits hnd).symm
    rw [e1, e2]
    have := hitS_split xs n s (fq xs n) i (kindsC xs n)
    unfold frqL rarL
    omega
  rw [h1]
  exact bound_got xs n s i
def splEr (xs : List Int) (n : Nat) (K : Int) (N : Nat) (size : Int) : Int := splE xs n K N size (frqL xs n).length
def splL (xs : List Int) (n : Nat) (K : Int) (s : ByteArray) (size : Int) : List Int := if splEr xs n K s.size size = 0 then countsv xs n K s else []
def splN (xs : List Int) (n : Nat) (K : Int) (N : Nat) (size : Int) : Int := if splEr xs n K N size = 0 then ((frqL xs n).length : Int) * cntC n N size else 0
def splF (xs : List Int) (n : Nat) (K : Int) (s : ByteArray) (size : Int) : List Int := if splEr xs n K s.size size = 0 then hitsv (countsv xs n K s) K else []
theorem splE_zero {xs : List Int} {n : Nat} {K : Int} {N F : Nat} {size : Int} (h : splE xs n K N size F = 0) : rightv xs n K = true ∧ 1 ≤ n ∧ n ≤ 64 ∧ 0 ≤ K ∧ K ≤ 64 ∧ (0 < F → n ≤ N → szb n size = true) := by
  unfold splE at h
  by_cases hr : rightv xs n K = true ∧ plainv xs n = true
  · rw [if_pos hr] at h
    have hr2 := hr.1
    unfold rightv at hr2
    simp only [Bool.and_eq_true, decide_eq_true_eq] at hr2
    refine ⟨hr.1, by omega, by omega, by omega, by omega, fun hF hN => ?_⟩
    cases hz : szb n size
    · rw [if_pos ⟨hF, hN, hz⟩] at h; omega
    · rfl
  · rw [if_neg hr] at h; omega
set_option maxRecDepth 100000 in
set_option maxHeartbeats 8000000 in
theorem splcounts_yes (A : Option Addr) (cap n : Nat) (xs : List Int) (K : Int) (s : ByteArray) (size : Int) (hu : U64 xs) (hl : xs.length = 4 * n) (hn : n ≤ 1000000) (hsz : s.size ≤ 900000) (w : World) (hr : Rd .u64 w A xs) (hE : splE xs n K s.size size (frqL xs n).length = 0) : Calls Tryz.prog 90 #[leafV A n cap K, .string s, .int .i64 size, .int .i64 3] w (AnsI (splL xs n K s size) (splN xs n K s.size size) (splEr xs n K s.size size) w) := by
  have PT := fun w1 h => sparts_c A cap n xs K hu hl hn w1 h
  have hFl := frqL_le xs n
  have hRl := rarL_le xs n
  have CK := fun w1 h => splcheck_c A cap n xs K s size (frqL xs n).length hu hl hn (by omega) (by omega) w1 h
  have BD := fun w1 h => bound_c A cap n xs K hu hl hn w1 h
  have hb := blk_new w (.cells #[.slice A n cap, .int .i64 K] 61)
  have ka := kept_alloc (kept_refl w) (.cells #[.slice A n cap, .int .i64 K] 61)
  have c0 : (w.alloc (.cells #[.slice A n cap, .int .i64 K] 61)).cell? ⟨w.heap.size, 0, none⟩ = some (.slice A n cap) := blk_cell hb 0
  have c1 : (w.alloc (.cells #[.slice A n cap, .int .i64 K] 61)).cell? ⟨w.heap.size, 1, none⟩ = some (.int .i64 K) := blk_cell hb 1
  unfold SP at PT
  have hEr : splEr xs n K s.size size = splE xs n K s.size size (frqL xs n).length := rfl
  have HEr := Lib.hid hEr
  clear hEr
  obtain ⟨hrv, hn1, hn64, hK0, hK64, hz⟩ := splE_zero hE
  have hL : splL xs n K s size = mk (s.size + 1 - n) fun i => boundv xs n - ((spS xs n s (frqL xs n).length i : Nat) : Int) := by
    unfold splL countsv
    rw [HEr.out, if_pos hE, if_pos hrv]
    exact mk_congr fun i _ => (spS_all xs n s i).symm
  have hN : splN xs n K s.size size = ((frqL xs n).length : Int) * cntC n s.size size := by unfold splN; rw [HEr.out, if_pos hE]
  rw [hL, hN, HEr.out, hE]
  rw [hE] at CK
  have RA := fun A2 p2 w1 h h2 => rare_c A cap n xs K s (rarL xs n) A2 p2 hu hl hn (by omega) hsz hrv hn64 w1 h h2
  have hcl0 := flatC_cls (frqL xs n)
  have hnx : ∀ q i, q < (frqL xs n).length → spS xs n s (q + 1) i = spS xs n s q i + hitN xs n s (cls (flatC (frqL xs n)) q) i := fun q i h => by rw [hcl0 q h]; exact spS_next xs n s q i h
  have hz0 : (mk (s.size + 1 - n) fun p => ((gotL (rarL xs n) xs n s p : Nat) : Int)) = mk (s.size + 1 - n) fun i => ((spS xs n s 0 i : Nat) : Int) := mk_congr fun i _ => by rw [spS_zero]
  rw [hz0] at RA
  have hbd := fun q i => spS_bd xs n s q i hn64
  have hcb := cntC_bd n s.size size
  have hbb : 0 ≤ boundv xs n ∧ boundv xs n ≤ 64 := by
    have := whereT_len xs fullv n
    unfold boundv whereN
    omega
  have hfl := flatC_length (frqL xs n)
  have hku : ∀ q, q < (frqL xs n).length → (cls (flatC (frqL xs n)) q).ok := fun q h => by rw [hcl0 q h]; exact kinds_u64 hu n _ (List.mem_filter.1 (List.getElem_mem h)).1
  have PL := fun x w1 h => plc_c A cap n xs K x hl hn w1 h
  have MK := fun x hx w1 => marks_c s x hx (by omega) w1
  have hBV := fun x (h : n ≤ s.size → szb n size = true) => bval_hits (xs := xs) (n := n) (s := s) (x := x) (size := size) hn1 hn64 (by omega) h
  have hHL := fun x i => hitN_le xs n s x i
  obtain ⟨L0, hL0⟩ : ∃ L0, L0 = s.size + 1 - n := ⟨_, rfl⟩
  rw [← hL0] at RA hBV ⊢
  have hL01 : L0 ≤ 900001 := by omega
  unfold AnsI
  rw [mk_length]
  have HB := Lib.hid hbb
  clear hz0 hL hN hE hbb hL0 hcl0 HEr
  generalize frqL xs n = fr at *
  generalize hF : fr.length = F at *
  generalize spS xs n s = sp at *
  generalize boundv xs n = bb at *
  generalize hCC : cntC n s.size size = CC at *
  clear hCC
  go_enter Tryz.func90, Tryz.ntmps90
  go_wp2_with fail
  refine (PT _ (hr.kept ka)).mono ?_
  rintro e w1 ⟨A1, p1, A2, p2, rfl, rdF, rdR, hk1⟩
  replace hb := blk_kept hk1 hb
  replace ka := kept_trans ka hk1
  replace c0 : w1.cell? ⟨w.heap.size, 0, none⟩ = some (.slice A n cap) := blk_cell hb 0
  replace c1 : w1.cell? ⟨w.heap.size, 1, none⟩ = some (.int .i64 K) := blk_cell hb 1
  clear PT hk1
  go_wp2_with fail
  refine (CK _ (hr.kept ka)).mono ?_
  rintro e wC ⟨rfl, hk2⟩
  replace hb := blk_kept hk2 hb
  replace ka := kept_trans ka hk2
  replace rdF := rdF.kept hk2
  replace rdR := rdR.kept hk2
  have hrC := hr.kept ka
  replace c0 : wC.cell? ⟨w.heap.size, 0, none⟩ = some (.slice A n cap) := blk_cell hb 0
  replace c1 : wC.cell? ⟨w.heap.size, 1, none⟩ = some (.int .i64 K) := blk_cell hb 1
  clear CK hk2
  go_wp2_with fail
  refine (RA _ _ _ hrC rdR).mono ?_
  rintro e wB ⟨g, rfl, hown, hkB⟩
  have hgl := World.ownsRow.lt hown g rfl
  have hs1 : ∀ ad, A1 = some ad → 0 < F → ad.block ≠ g := fun ad e h => by
    obtain ⟨ad2, e2, hc⟩ := rdF.2 (by omega)
    rw [e] at e2
    cases e2
    have h9 := World.block_lt_of_cell? wC _ (hc 0 (by omega))
    rw [add_block] at h9
    omega
  clear RA c0 c1
  go_wp2_with fail
  go_loopw [15, 45] (fun av iv wr => ∃ q : Nat, q ≤ F ∧ iv = .int .i64 q ∧ av = .int .i64 ((q : Int) * CC) ∧ wr.ownsRow wC.heap.size 3 1 (.slice (some ⟨g, 0, none⟩) L0 L0) L0 ((mk L0 fun i => ((sp q i : Nat) : Int)).map (Value.int .i64)) ∧ Kept wC wr) (fun _ iv _ => F - (intOf iv).toNat)
  case atStart => exact ⟨0, Nat.zero_le _, rfl, by simp, hown, hkB⟩
  case round =>
    clear hown hkB
    obtain ⟨q, hq, rfl, rfl, hown, hk⟩ := hrel
    by_cases hlt : q < F
    · have hbr := blk_kept hk hb
      have rdr := rdF.kept hk
      have hrr := hrC.kept hk
      obtain ⟨ad, hAK, d0, d1, d2, d3⟩ := rdr.cl hfl (j := q) (by omega)
      have ho := hku q hlt
      have hNX : ∀ i, sp (q + 1) i = sp q i + hitN xs n s (cls (flatC fr) q) i := fun i => hnx q i hlt
      have PL := PL (cls (flatC fr) q)
      have MK := MK (cls (flatC fr) q) ho
      obtain ⟨hb1, hb2⟩ := hBV (cls (flatC fr) q) (hz (by omega))
      have hHL := hHL (cls (flatC fr) q)
      have hpl := plcv_len xs n (cls (flatC fr) q)
      have hml := marksv_len s (cls (flatC fr) q)
      have hpu : U64 (plcv xs n (cls (flatC fr) q)) := (small_row (rowN_small xs 1 1 _ n n)).1
      have hmu : U64 (marksv s (cls (flatC fr) q)) := (small_row (marksv_small s _)).1
      have CR := fun A B ca cb hcb w1 (a : Rd .u64 w1 A (plcv xs n (cls (flatC fr) q))) (b : Rd .u64 w1 B (marksv s (cls (flatC fr) q))) => correlate_c5 A B ca cb _ _ size hpu hmu (by rw [hpl]; omega) (by rw [hml]; omega) hcb w1 a b
      rw [hb1, hb2, hpl, hml] at CR
      subst hAK
      unfold Ans3 at CR
      rw [mk_length] at CR
      have hbd0 := hbd q
      have HX := Lib.hid (⟨hNX, hbd0, hHL, hs1⟩ : _ ∧ _ ∧ _ ∧ _)
      clear hBV hb1 hb2 hpu hmu hNX hbd0 hHL hnx hbd hku
      generalize hitN xs n s (cls (flatC fr) q) = hf at *
      generalize berrv (plcv xs n (cls (flatC fr) q)) (marksv s (cls (flatC fr) q)) size = ber at *
      generalize plcv xs n (cls (flatC fr) q) = pv at *
      generalize marksv s (cls (flatC fr) q) = mv at *
      generalize cls (flatC fr) q = x at *
      have kx := kept_alloc (kept_refl wr) x.cells
      have hbx := blk_new wr x.cells
      have hbr := blk_alloc hbr x.cells
      obtain ⟨z0, z1, z2, z3⟩ := x
      dsimp only [Cl.v, Cl.cells] at d0 d1 d2 d3 kx hbx hbr PL MK
      have hqc : 0 ≤ (q : Int) * CC ∧ (q : Int) * CC ≤ 562949953421312 := by
        have h8 := Int.mul_le_mul (show (q : Int) ≤ 64 by omega) hcb.2 hcb.1 (by decide)
        exact ⟨Int.mul_nonneg (by omega) hcb.1, h8⟩
      go_wp2_with fail
      generalize hWx : wr.alloc (.cells #[.int .u64 z0, .int .u64 z1, .int .u64 z2, .int .u64 z3] 110) = Wx at *
      have c0 : Wx.cell? ⟨w.heap.size, 0, none⟩ = some (.slice A n cap) := blk_cell hbr 0
      have c1 : Wx.cell? ⟨w.heap.size, 1, none⟩ = some (.int .i64 K) := blk_cell hbr 1
      have q0 : Wx.cell? ⟨wr.heap.size, 0, none⟩ = some (.int .u64 z0) := blk_cell hbx 0
      have q1 : Wx.cell? ⟨wr.heap.size, 1, none⟩ = some (.int .u64 z1) := blk_cell hbx 1
      have q2 : Wx.cell? ⟨wr.heap.size, 2, none⟩ = some (.int .u64 z2) := blk_cell hbx 2
      have q3 : Wx.cell? ⟨wr.heap.size, 3, none⟩ = some (.int .u64 z3) := blk_cell hbx 3
      have kr := kept_refl Wx
      have hrr := hrr.kept kx
      clear d0 d1 d2 d3
      go_region_held3 (fun w' => w'.cell? ⟨w.heap.size, 0, none⟩ = some (.slice A n cap) ∧ w'.cell? ⟨w.heap.size, 1, none⟩ = some (.int .i64 K) ∧ w'.cell? ⟨wr.heap.size, 0, none⟩ = some (.int .u64 z0) ∧ w'.cell? ⟨wr.heap.size, 1, none⟩ = some (.int .u64 z1) ∧ w'.cell? ⟨wr.heap.size, 2, none⟩ = some (.int .u64 z2) ∧ w'.cell? ⟨wr.heap.size, 3, none⟩ = some (.int .u64 z3)) (first | exact ⟨by assumption, by assumption, by assumption, by assumption, by assumption, by assumption⟩ | exact ⟨kept_cell hk3 c0, kept_cell hk3 c1, kept_cell hk3 q0, kept_cell hk3 q1, kept_cell hk3 q2, kept_cell hk3 q3⟩ | exact ⟨kept_cell hk2 c0, kept_cell hk2 c1, kept_cell hk2 q0, kept_cell hk2 q1, kept_cell hk2 q2, kept_cell hk2 q3⟩ | exact ⟨kept_cell hk1 c0, kept_cell hk1 c1, kept_cell hk1 q0, kept_cell hk1 q1, kept_cell hk1 q2, kept_cell hk1 q3⟩) (first | (go_at_call 151; refine (PL _ (hrr.kept (kept_drew kr))).mono ?_; rintro e w1 ⟨v1, rfl, own1, hk1⟩; replace hk1 := kept_trans (kept_drew kr) hk1; obtain ⟨A1, cp1, hv1, _, _, rd1⟩ := own1.rd; rw [hpl] at hv1; subst hv1) | (go_at_call 58; refine (MK _).mono ?_; rintro e w2 ⟨v2, rfl, own2, hk2⟩; replace rd1 := rd1.kept hk2; replace hk2 := kept_trans hk1 hk2; obtain ⟨A2, cp2, hv2, hcp2, _, rd2⟩ := own2.rd; rw [hml] at hv2 hcp2; subst hv2) | (go_at_call 57; refine (CR _ _ cp1 cp2 hcp2 _ rd1 rd2).mono ?_; rintro e w3 ⟨A3, cp3, rfl, rd3, hk3, _, _, own3⟩; have hXa : ∀ ad, A3 = some ad → ad.block ≠ g := (fun ad e hx => by (subst e; have h7 := own_ad own3; have h9 := hk2.size; have h10 := kx.size; have h11 := (World.ownsRow.lt hown g rfl).2; omega)); replace hk3 := kept_trans hk2 hk3))
      have hk4 : Kept wC _ := kept_trans hk (kept_trans kx hk3)
      have hown4 := rowKept hown (kept_trans kx hk3)
      have hz0 := lay_zero (mk L0 fun i => ((sp (q + 1) i : Nat) : Int)) (mk L0 fun i => ((sp q i : Nat) : Int)) L0 (mk_length _ _)
      have hza := lay_all (mk L0 fun i => ((sp (q + 1) i : Nat) : Int)) (mk L0 fun i => ((sp q i : Nat) : Int)) L0 (mk_length _ _)
      rw [← hz0] at hown4
      have HZA := Lib.hid hza
      clear c0 c1 q0 q1 q2 q3 PL MK CR hk1 hk2 hk3 kr hrr kx rd1 rd2 hown hk hbr hbx hz0 hza own1 own2 own3
      go_wp2_with fail
      go_loopw [66] (fun jv wq => ∃ j : Nat, j ≤ L0 ∧ jv = .int .i64 j ∧ wq.ownsRow wC.heap.size 3 1 (.slice (some ⟨g, 0, none⟩) L0 L0) L0 ((lay (mk L0 fun i => ((sp (q + 1) i : Nat) : Int)) (mk L0 fun i => ((sp q i : Nat) : Int)) L0 j).map (Value.int .i64)) ∧ Rd .u64 wq A3 (mk L0 fun i => ((hf i : Nat) : Int)) ∧ Kept wC wq) (fun jv _ => L0 - (intOf jv).toNat)
      case atStart => exact ⟨0, Nat.zero_le _, rfl, hown4, rd3, hk4⟩
      case round =>
        clear hown4 rd3 hk4
        obtain ⟨j, hj, rfl, hown, rd3, hk⟩ := hrel
        by_cases hlj : j < L0
        · have e0 := World.ownsRow.cellAt hown j (by omega)
          have hlen : (lay (mk L0 fun i => ((sp (q + 1) i : Nat) : Int)) (mk L0 fun i => ((sp q i : Nat) : Int)) L0 j).length = L0 := mk_length _ _
          rw [List.getElem?_map, List.getElem?_eq_getElem (by rw [hlen]; omega), Option.map_some, ← nth_lt (by rw [hlen]; omega), lay_at _ _ hlj, nth_mk hlj] at e0
          have f0 := World.ownsRow.frozenAt hown j
          obtain ⟨ad, rfl, e1⟩ := rd3.at_ (j := j) (by rw [mk_length]; exact hlj)
          rw [nth_mk hlj] at e1
          obtain ⟨hNX, hbd0, hHL, _⟩ := HX.out
          have hv := hNX j
          have b1 := hbd0 j
          have b3 := hHL j
          have ST := World.ownsRow.stored hown j (.int .i64 ((sp (q + 1) j : Nat) : Int))
          have hset := lay_set (mk L0 fun i => ((sp (q + 1) i : Nat) : Int)) (mk L0 fun i => ((sp q i : Nat) : Int)) hlj
          rw [nth_mk hlj] at hset
          rw [← List.map_set, hset, hv, Int.natCast_add] at ST
          have HS := Lib.hid (⟨ST, hown, rd3, hk⟩ : _ ∧ _ ∧ _ ∧ _)
          have ea : (⟨g, 0, none⟩ : Addr).add j = ⟨g, j, none⟩ := by unfold Addr.add; split <;> simp_all
          clear hset hlen ST rd3 hk hv HZA hNX hbd0 hHL hown
          generalize sp q j = y at *
          generalize hf j = z at *
          go_wp2_with fail
          obtain ⟨ST, hown, rd3, hk⟩ := HS.out
          have G : wr.grownBy (wr.setCell ⟨g, j, none⟩ (.int .i64 ((y : Int) + (z : Int)))) (some g) := ST.2
          exact ⟨⟨j + 1, by omega, by go_num, ST.1, rd_grown rd3 G (fun ad' e h => hXa ad' e (by simpa using h)), kept_grow hk G (by rintro k h; cases h; exact hgl.1)⟩, by simp [intOf]; omega⟩
        · obtain rfl : j = L0 := by omega
          rw [HZA.out] at hown
          go_wp2_with fail
          exact ⟨⟨q + 1, by omega, by go_num, by rw [Int.natCast_add, Int.add_mul]; simp, hown, hk⟩, by simp [intOf]; omega⟩
    · obtain rfl : q = F := by omega
      have hz0 := lay_zero (mk L0 fun i => bb - ((sp q i : Nat) : Int)) (mk L0 fun i => ((sp q i : Nat) : Int)) L0 (mk_length _ _)
      have hza := lay_all (mk L0 fun i => bb - ((sp q i : Nat) : Int)) (mk L0 fun i => ((sp q i : Nat) : Int)) L0 (mk_length _ _)
      rw [← hz0] at hown
      have HZA := Lib.hid hza
      have hbd0 := hbd q
      have HBD := Lib.hid hbd0
      clear hz0 hza hbd0 hbd hnx hku hBV hHL PL MK
      generalize hnn : (q : Int) * CC = nn at *
      have HNN := Lib.hid hnn
      clear hnn
      go_wp2_with fail
      go_loopw [83] (fun jv wq => ∃ j : Nat, j ≤ L0 ∧ jv = .int .i64 j ∧ wq.ownsRow wC.heap.size 3 1 (.slice (some ⟨g, 0, none⟩) L0 L0) L0 ((lay (mk L0 fun i => bb - ((sp q i : Nat) : Int)) (mk L0 fun i => ((sp q i : Nat) : Int)) L0 j).map (Value.int .i64)) ∧ Kept wC wq) (fun jv _ => L0 - (intOf jv).toNat)
      case atStart => exact ⟨0, Nat.zero_le _, rfl, hown, hk⟩
      case round =>
        clear hown hk
        obtain ⟨j, hj, rfl, hown, hk⟩ := hrel
        by_cases hlj : j < L0
        · have hbr := blk_kept hk hb
          have hrr := hrC.kept hk
          have c0 := blk_cell hbr 0
          have c1 := blk_cell hbr 1
          have e0 := World.ownsRow.cellAt hown j (by omega)
          have hlen : (lay (mk L0 fun i => bb - ((sp q i : Nat) : Int)) (mk L0 fun i => ((sp q i : Nat) : Int)) L0 j).length = L0 := mk_length _ _
          rw [List.getElem?_map, List.getElem?_eq_getElem (by rw [hlen]; omega), Option.map_some, ← nth_lt (by rw [hlen]; omega), lay_at _ _ hlj, nth_mk hlj] at e0
          have b1 := HBD.out j
          have hset := lay_set (mk L0 fun i => bb - ((sp q i : Nat) : Int)) (mk L0 fun i => ((sp q i : Nat) : Int)) hlj
          rw [nth_mk hlj] at hset
          have HSET := Lib.hid hset
          obtain ⟨hb0, hb6⟩ := HB.out
          have ea : (⟨g, 0, none⟩ : Addr).add j = ⟨g, j, none⟩ := by unfold Addr.add; split <;> simp_all
          clear hset hlen HZA HBD
          generalize sp q j = y at *
          go_wp2_with fail
          have ks_0 := fun s => kw_cell s c0
          have ks_1 := fun s => kw_cell s c1
          have ks_2 := fun s => kw_cell s e0
          refine wp_region_tail 9 (by kernel_rfl) (by kernel_rfl) ?_
          simp only [List.take_succ_cons, List.take_zero, List.drop_succ_cons, List.drop_zero]
          repeat (first | go_big_quiet_skip | (go_big_quiet_want; go_big_quiet_op; first | go_big_quiet_on | (apply Exists.intro; refine ⟨fun s => ?_, ?_⟩; (first | (go_at_call 146; exact call_kept (BD _ (hrr.kept s.kept)))); go_big_quiet_on)))
          refine wpQuiet_nil ?_
          rintro w7 ⟨⟨_, hk7⟩, rfl⟩
          clear ks_0 ks_1 ks_2 c0 c1 BD
          have hownA := rowKept hown hk7
          have hkA := kept_trans hk hk7
          have d0 := kept_cell hk7 e0
          have f0 := World.ownsRow.frozenAt hownA j
          have ST := World.ownsRow.stored hownA j (.int .i64 (bb - (y : Int)))
          rw [← List.map_set, HSET.out] at ST
          have HS := Lib.hid (⟨ST, hkA⟩ : _ ∧ _)
          clear hown hk hk7 hownA e0 ST hkA
          go_wp2_with fail
          obtain ⟨ST, hkA⟩ := HS.out
          exact ⟨⟨j + 1, by omega, by go_num, ST.1, kept_grow hkA ST.2 (by rintro k h; cases h; exact hgl.1)⟩, by simp [intOf]; omega⟩
        · obtain rfl : j = L0 := by omega
          rw [HZA.out] at hown
          have hO : Own .i64 3 wC.heap.size wr (.slice (some ⟨g, 0, none⟩) j j) (mk j fun i => bb - ((sp q i : Nat) : Int)) := by unfold Own; rw [mk_length]; exact hown
          obtain ⟨B, cB, eB, -, -, rdB⟩ := hO.rd
          simp only [Value.slice.injEq] at eB
          obtain ⟨rfl, -, rfl⟩ := eB
          have HO := Lib.hid (⟨rdB, kept_trans ka hk⟩ : _ ∧ _)
          clear hO hown BD rdB hk HB HZA HBD hs1 hrC hlj hj rdF rdR hfl hgl hu hr hb
          go_wp2_with fail
          obtain ⟨rdB, hkE⟩ := HO.out
          exact bodyPost_ret (v := .tuple #[.slice (some ⟨g, 0, none⟩) j j, .int .i64 nn, .int .i64 0]) (by simp [results, Tryz.results90, go_sem]) rfl ⟨some ⟨g, 0, none⟩, j, by rw [HNN.out], rdB, hkE⟩
set_option maxRecDepth 100000 in
set_option maxHeartbeats 8000000 in
theorem splcounts_no (A : Option Addr) (cap n : Nat) (xs : List Int) (K : Int) (s : ByteArray) (size : Int) (hu : U64 xs) (hl : xs.length = 4 * n) (hn : n ≤ 1000000) (hsz : s.size ≤ 900000) (w : World) (hr : Rd .u64 w A xs) (hE : splE xs n K s.size size (frqL xs n).length ≠ 0) : Calls Tryz.prog 90 #[leafV A n cap K, .string s, .int .i64 size, .int .i64 3] w (AnsI (splL xs n K s size) (splN xs n K s.size size) (splEr xs n K s.size size) w) := by
  have PT := fun w1 h => sparts_c A cap n xs K hu hl hn w1 h
  have hFl := frqL_le xs n
  have hRl := rarL_le xs n
  have CK := fun w1 h => splcheck_c A cap n xs K s size (frqL xs n).length hu hl hn (by omega) (by omega) w1 h
  have BD := fun w1 h => bound_c A cap n xs K hu hl hn w1 h
  have hb := blk_new w (.cells #[.slice A n cap, .int .i64 K] 61)
  have ka := kept_alloc (kept_refl w) (.cells #[.slice A n cap, .int .i64 K] 61)
  have c0 : (w.alloc (.cells #[.slice A n cap, .int .i64 K] 61)).cell? ⟨w.heap.size, 0, none⟩ = some (.slice A n cap) := blk_cell hb 0
  have c1 : (w.alloc (.cells #[.slice A n cap, .int .i64 K] 61)).cell? ⟨w.heap.size, 1, none⟩ = some (.int .i64 K) := blk_cell hb 1
  unfold SP at PT
  have hEr : splEr xs n K s.size size = splE xs n K s.size size (frqL xs n).length := rfl
  have HEr := Lib.hid hEr
  clear hEr
  have hL : splL xs n K s size = [] := by unfold splL; rw [HEr.out, if_neg hE]
  have hN : splN xs n K s.size size = 0 := by unfold splN; rw [HEr.out, if_neg hE]
  rw [hL, hN, HEr.out]
  clear hL hN HEr BD
  generalize splE xs n K s.size size (frqL xs n).length = er at *
  generalize (frqL xs n).length = F at *
  have hne : (er != 0) = true := by simpa using hE
  go_enter Tryz.func90, Tryz.ntmps90
  go_wp2_with fail
  refine (PT _ (hr.kept ka)).mono ?_
  rintro e w1 ⟨A1, p1, A2, p2, rfl, rdF, rdR, hk1⟩
  replace hb := blk_kept hk1 hb
  replace ka := kept_trans ka hk1
  replace c0 : w1.cell? ⟨w.heap.size, 0, none⟩ = some (.slice A n cap) := blk_cell hb 0
  replace c1 : w1.cell? ⟨w.heap.size, 1, none⟩ = some (.int .i64 K) := blk_cell hb 1
  clear PT hk1
  go_wp2_with fail
  refine (CK _ (hr.kept ka)).mono ?_
  rintro e wC ⟨rfl, hk2⟩
  replace hb := blk_kept hk2 hb
  replace ka := kept_trans ka hk2
  replace rdF := rdF.kept hk2
  replace rdR := rdR.kept hk2
  have hrC := hr.kept ka
  replace c0 : wC.cell? ⟨w.heap.size, 0, none⟩ = some (.slice A n cap) := blk_cell hb 0
  replace c1 : wC.cell? ⟨w.heap.size, 1, none⟩ = some (.int .i64 K) := blk_cell hb 1
  clear CK hk2
  go_wp2_with fail
  exact bodyPost_ret (v := .tuple #[.slice none 0 0, .int .i64 0, .int .i64 er]) (by simp [results, Tryz.results90, go_sem]) rfl ⟨none, 0, rfl, Rd.nil _ _ _, ka⟩
theorem splcounts_c (A : Option Addr) (cap n : Nat) (xs : List Int) (K : Int) (s : ByteArray) (size : Int) (hu : U64 xs) (hl : xs.length = 4 * n) (hn : n ≤ 1000000) (hsz : s.size ≤ 900000) (w : World) (hr : Rd .u64 w A xs) : Calls Tryz.prog 90 #[leafV A n cap K, .string s, .int .i64 size, .int .i64 3] w (AnsI (splL xs n K s size) (splN xs n K s.size size) (splEr xs n K s.size size) w) := by
  by_cases hE : splE xs n K s.size size (frqL xs n).length = 0
  · exact splcounts_yes A cap n xs K s size hu hl hn hsz w hr hE
  · exact splcounts_no A cap n xs K s size hu hl hn hsz w hr hE
set_option maxRecDepth 100000 in
set_option maxHeartbeats 4000000 in
theorem splfind_c (A : Option Addr) (cap n : Nat) (xs : List Int) (K : Int) (s : ByteArray) (size : Int) (hu : U64 xs) (hl : xs.length = 4 * n) (hn : n ≤ 1000000) (hsz : s.size ≤ 900000) (w : World) (hr : Rd .u64 w A xs) : Calls Tryz.prog 88 #[leafV A n cap K, .string s, .int .i64 size, .int .i64 3] w (AnsJ (splF xs n K s size) (splN xs n K s.size size) (splEr xs n K s.size size) w) := by
  have C := fun w1 h => splcounts_c A cap n xs K s size hu hl hn hsz w1 h
  have hb := blk_new w (.cells #[.slice A n cap, .int .i64 K] 61)
  have ka := kept_alloc (kept_refl w) (.cells #[.slice A n cap, .int .i64 K] 61)
  have c0 : (w.alloc (.cells #[.slice A n cap, .int .i64 K] 61)).cell? ⟨w.heap.size, 0, none⟩ = some (.slice A n cap) := blk_cell hb 0
  have c1 : (w.alloc (.cells #[.slice A n cap, .int .i64 K] 61)).cell? ⟨w.heap.size, 1, none⟩ = some (.int .i64 K) := blk_cell hb 1
  have hcl := countsv_len xs n K s
  have hF : splF xs n K s size = if splEr xs n K s.size size = 0 then hitsv (splL xs n K s size) K else [] := by
    unfold splF splL
    split
    · rfl
    · rfl
  have hLl : (splL xs n K s size).length ≤ 1000000 := by
    unfold splL
    split
    · omega
    · exact Nat.zero_le _
  have HF := Lib.hid hF
  have hN0 : splEr xs n K s.size size ≠ 0 → splN xs n K s.size size = 0 := fun h => if_neg h
  have HN0 := Lib.hid hN0
  unfold AnsI at C
  clear hF hcl hN0
  generalize splF xs n K s size = sf at *
  generalize splL xs n K s size = sl at *
  generalize splN xs n K s.size size = sn at *
  generalize splEr xs n K s.size size = er at *
  go_enter Tryz.func88, Tryz.ntmps88
  go_wp2_with fail
  refine (C _ (hr.kept ka)).mono ?_
  rintro e w1 ⟨A1, cp1, rfl, rd1, hk1⟩
  replace hb := blk_kept hk1 hb
  replace ka := kept_trans ka hk1
  replace c1 : w1.cell? ⟨w.heap.size, 1, none⟩ = some (.int .i64 K) := blk_cell hb 1
  clear C c0 hk1 hb
  by_cases he : er = 0
  · subst he
    have hF2 := HF.out
    rw [if_pos rfl] at hF2
    subst hF2
    have HT := hits_c A1 cp1 sl K (by omega) w1 rd1
    clear HF HN0
    go_wp2_with fail
    refine HT.mono ?_
    rintro e w2 ⟨v2, rfl, own2, hk2⟩
    obtain ⟨A2, cp2, rfl, _, _, rd2⟩ := own2.rdF
    clear HT c1 own2
    go_wp2_with fail
    exact bodyPost_ret (v := .tuple #[.slice A2 (hitsv sl K).length cp2, .int .i64 sn, .int .i64 0]) (by simp [results, Tryz.results88, go_sem]) rfl ⟨A2, cp2, rfl, rd2.less ka.size, kept_trans ka hk2⟩
  · have hF2 := HF.out
    rw [if_neg he] at hF2
    have hn0 := HN0.out he
    subst hF2 hn0
    have hne : (er != 0) = true := by simpa using he
    clear HF HN0 c1
    go_wp2_with fail
    exact bodyPost_ret (v := .tuple #[.slice none 0 0, .int .i64 0, .int .i64 er]) (by simp [results, Tryz.results88, go_sem]) rfl ⟨none, 0, rfl, RdF.nil _ _ _, ka⟩
end Go.Proofs.YtdejablhpljdfaaGreat
namespace Go.Proofs.YtdejablhpljdfaaGreat
open Go.RowKit BG
attribute [local go_sem ↓] Go.wp_at_zero Go.wp_at_succ run_max_at run_min_at
set_option linter.unusedVariables false
def goesOn (s t : ByteArray) (i n : Nat) : Prop := n < s.size ∧ i + n < t.size ∧ byteAt s n = byteAt t (i + n)
instance (s t : ByteArray) (i n : Nat) : Decidable (goesOn s t i n) := by unfold goesOn; exact inferInstance
def lcpF (s t : ByteArray) (i : Nat) : Nat → Nat → Nat
  | 0, n => n
  | f + 1, n => if goesOn s t i n then lcpF s t i f (n + 1) else n
def lcp (s t : ByteArray) (i : Nat) : Nat := lcpF s t i s.size 0
def isL (s t : ByteArray) (i n : Nat) : Prop := (∀ k, k < n → goesOn s t i k) ∧ ¬ goesOn s t i n
theorem lcpF_is (s t : ByteArray) (i : Nat) : ∀ f n, s.size ≤ n + f → (∀ k, k < n → goesOn s t i k) → isL s t i (lcpF s t i f n)
  | 0, n, h, hk => by show isL s t i n; exact ⟨hk, fun g => by have := g.1; omega⟩
  | f + 1, n, h, hk => by
    unfold lcpF
    by_cases g : goesOn s t i n
    · rw [if_pos g]
      refine lcpF_is s t i f (n + 1) (by omega) fun k h2 => ?_
      rcases Nat.lt_or_ge k n with h3 | h3
      · exact hk k h3
      · obtain rfl : k = n := by omega
        exact g
    · rw [if_neg g]; exact ⟨hk, g⟩
theorem lcp_is (s t : ByteArray) (i : Nat) : isL s t i (lcp s t i) := lcpF_is s t i _ _ (by omega) fun k h => absurd h (Nat.not_lt_zero k)
theorem isL_eq {s t : ByteArray} {i n : Nat} (h : isL s t i n) : lcp s t i = n := by
  have h2 := lcp_is s t i
  rcases Nat.lt_trichotomy (lcp s t i) n with a | a | a
  · exact absurd (h.1 _ a) h2.2
  · exact a
  · exact absurd (h2.1 _ a) h.2
theorem lcp_le (s t : ByteArray) (i : Nat) : lcp s t i ≤ s.size ∧ i + lcp s t i ≤ max i t.size := by
  have h := (lcp_is s t i).1
  rcases Nat.eq_zero_or_pos (lcp s t i) with h0 | h0
  · omega
  · obtain ⟨a, b, _⟩ := h (lcp s t i - 1) (by omega)
    omega
theorem lcp_self (s : ByteArray) : lcp s s 0 = s.size := isL_eq ⟨fun k h => ⟨h, by omega, by rw [Nat.zero_add]⟩, fun g => by have := g.1; omega⟩
structure Far (s t : ByteArray) (f e : Nat) : Prop where
  le : f ≤ e
  into : e ≤ t.size
  few : e - f ≤ s.size
  same : ∀ k, k < e - f → byteAt s k = byteAt t (f + k)
theorem far_seen {s t : ByteArray} {f e i : Nat} (h : Far s t f e) (hf : f ≤ i) (hi : i < e) : ∀ k, k < min (lcp s s (i - f)) (e - i) → goesOn s t i k := by
  intro k hk
  obtain ⟨h1, h2, h3⟩ := (lcp_is s s (i - f)).1 k (by omega)
  have h4 := h.into
  have h5 := h.same (i - f + k) (by omega)
  refine ⟨h1, by omega, ?_⟩
  rw [h3, h5]
  congr 1
  omega
theorem far_new {s t : ByteArray} {i n : Nat} (h : ∀ k, k < n → goesOn s t i k) (hi : i ≤ t.size) : Far s t i (i + n) := by
  rcases Nat.eq_zero_or_pos n with h0 | h0
  · subst h0
    exact ⟨by omega, by omega, by omega, fun k hk => by omega⟩
  · obtain ⟨a, b, _⟩ := h (n - 1) (by omega)
    exact ⟨by omega, by omega, by omega, fun k hk => (h k (by omega)).2.2⟩
def lcpL (s t : ByteArray) : List Int := mk t.size fun i => ((lcp s t i : Nat) : Int)
theorem nilI_eq (A : Option Addr) (n c : Nat) (w : World) : (binOp .eql 24 (.slice A n c) (.slice none 0 0)).run Tryz.prog w = .ok (.bool A.isNone) w := by
  cases A with
  | none => kernel_rfl
  | some a => kernel_rfl
theorem nilI_ne (A : Option Addr) (n c : Nat) (w : World) : (binOp .neq 24 (.slice A n c) (.slice none 0 0)).run Tryz.prog w = .ok (.bool (!A.isNone)) w := by
  cases A with
  | none => kernel_rfl
  | some a => kernel_rfl
def seenV (R : Nat → Int) (f e i : Nat) : Int := if e ≤ i then 0 else min (R (i - f)) ((e : Int) - (i : Int))
set_option maxRecDepth 100000 in
set_option maxHeartbeats 4000000 in
theorem seenown_c (i f e bt bo bf bu : Nat) (ad : Addr) (m c : Nat) (R : Nat → Int) (hi : i ≤ 1000000) (he : e ≤ 1000000) (hf : f ≤ i) (w : World) (ct : w.cell? ⟨bt, 0, none⟩ = some (.int .i64 (e : Nat))) (co : w.cell? ⟨bo, 0, none⟩ = some (.slice (some ad) m c)) (cf : w.cell? ⟨bf, 0, none⟩ = some (.int .i64 (f : Nat))) (hr : i < e → i - f < m ∧ w.cell? (ad.add (i - f)) = some (.int .i64 (R (i - f)))) :
    Calls Tryz.prog 226 #[.int .i64 (i : Nat), .pointer (some ⟨bt, 0, none⟩), .pointer (some ⟨bo, 0, none⟩), .pointer (some ⟨bf, 0, none⟩), .pointer (some ⟨bu, 0, none⟩)] w (Ret (.int .i64 (seenV R f e i)) w) := by
  have hne := fun w1 => nilI_ne (some ad) m c w1
  unfold seenV
  go_enter Tryz.func226, Tryz.ntmps226
  by_cases h : e ≤ i
  · rw [if_pos h]
    have d0 : decide ((e : Int) ≤ (i : Int)) = true := decide_eq_true (by omega)
    have d0n : decide (e ≤ i) = true := decide_eq_true h
    clear hr
    go_wp2_with fail
    go_ret
    exact ⟨rfl, kept_refl _⟩
  · rw [if_neg h]
    obtain ⟨hlt, cr⟩ := hr (by omega)
    have d0 : decide ((e : Int) ≤ (i : Int)) = false := decide_eq_false (by omega)
    have d0n : decide (e ≤ i) = false := decide_eq_false h
    have hsub : (i : Int) - (f : Int) = ((i - f : Nat) : Int) := by omega
    have hei : ∃ d : Nat, (e : Int) - (i : Int) = d ∧ d ≤ 1000000 := ⟨e - i, by omega, by omega⟩
    obtain ⟨d, hd, hd1⟩ := hei
    rw [hd]
    generalize R (i - f) = z at *
    generalize i - f = q at *
    go_wp2_with fail
    have ks_0 := fun s => kw_cell s ct
    have ks_1 := fun s => kw_cell s co
    have ks_2 := fun s => kw_cell s cf
    have ks_3 := fun s => kw_cell s cr
    refine wp_region_tail 9 (by kernel_rfl) (by kernel_rfl) ?_
    simp only [List.take_succ_cons, List.take_zero, List.drop_succ_cons, List.drop_zero]
    repeat (first | go_big_quiet_skip | (go_big_quiet_want; go_big_quiet_op; go_big_quiet_on))
    refine wpQuiet_nil ?_
    rintro w7 ⟨⟨_, hk7⟩, rfl⟩
    clear ks_0 ks_1 ks_2 ks_3
    go_wp2_with fail
    go_ret
    exact ⟨by first | rfl | simp, hk7⟩
set_option maxRecDepth 100000 in
set_option maxHeartbeats 4000000 in
theorem seennil_c (i f e bt bo bf bu : Nat) (ad : Addr) (m c : Nat) (R : Nat → Int) (hi : i ≤ 1000000) (he : e ≤ 1000000) (hf : f ≤ i) (w : World) (ct : w.cell? ⟨bt, 0, none⟩ = some (.int .i64 (e : Nat))) (co : w.cell? ⟨bo, 0, none⟩ = some (.slice none 0 0)) (cf : w.cell? ⟨bf, 0, none⟩ = some (.int .i64 (f : Nat))) (cu : w.cell? ⟨bu, 0, none⟩ = some (.slice (some ad) m c)) (hr : i < e → i - f < m ∧ w.cell? (ad.add (i - f)) = some (.int .i64 (R (i - f)))) :
    Calls Tryz.prog 226 #[.int .i64 (i : Nat), .pointer (some ⟨bt, 0, none⟩), .pointer (some ⟨bo, 0, none⟩), .pointer (some ⟨bf, 0, none⟩), .pointer (some ⟨bu, 0, none⟩)] w (Ret (.int .i64 (seenV R f e i)) w) := by
  have hne := fun w1 => nilI_ne none 0 0 w1
  unfold seenV
  go_enter Tryz.func226, Tryz.ntmps226
  by_cases h : e ≤ i
  · rw [if_pos h]
    have d0 : decide ((e : Int) ≤ (i : Int)) = true := decide_eq_true (by omega)
    have d0n : decide (e ≤ i) = true := decide_eq_true h
    clear hr
    go_wp2_with fail
    go_ret
    exact ⟨rfl, kept_refl _⟩
  · rw [if_neg h]
    obtain ⟨hlt, cr⟩ := hr (by omega)
    have d0 : decide ((e : Int) ≤ (i : Int)) = false := decide_eq_false (by omega)
    have d0n : decide (e ≤ i) = false := decide_eq_false h
    have hsub : (i : Int) - (f : Int) = ((i - f : Nat) : Int) := by omega
    have hei : ∃ d : Nat, (e : Int) - (i : Int) = d ∧ d ≤ 1000000 := ⟨e - i, by omega, by omega⟩
    obtain ⟨d, hd, hd1⟩ := hei
    rw [hd]
    generalize R (i - f) = z at *
    generalize i - f = q at *
    go_wp2_with fail
    have ks_0 := fun s => kw_cell s ct
    have ks_1 := fun s => kw_cell s co
    have ks_2 := fun s => kw_cell s cf
    have ks_3 := fun s => kw_cell s cr
    have ks_4 := fun s => kw_cell s cu
    refine wp_region_tail 9 (by kernel_rfl) (by kernel_rfl) ?_
    simp only [List.take_succ_cons, List.take_zero, List.drop_succ_cons, List.drop_zero]
    repeat (first | go_big_quiet_skip | (go_big_quiet_want; go_big_quiet_op; go_big_quiet_on))
    refine wpQuiet_nil ?_
    rintro w7 ⟨⟨_, hk7⟩, rfl⟩
    clear ks_0 ks_1 ks_2 ks_3 ks_4
    go_wp2_with fail
    go_ret
    exact ⟨by first | rfl | simp, hk7⟩
end Go.Proofs.YtdejablhpljdfaaGreat
