/-
  Texts of one claim, joined: TSymb3, TPlan2.
-/
import Derived.Test.YtdejablhpljdfaaGreatQ15
import Derived.Test.YtdejablhpljdfaaGreatQ12
import Derived.Test.YtdejablhpljdfaaGreatQ16
import Derived.Test.YtdejablhpljdfaaGreatQ07
namespace Go.Proofs.YtdejablhpljdfaaGreat
open Go.RowKit BG
attribute [local go_sem] Oper.semAt_some
attribute [local go_sem ↓] Go.wp_at_zero Go.wp_at_succ run_max_at
set_option linter.unusedVariables false
def accF (xs : List Int) (n : Nat) (s : ByteArray) (l : List Nat) (i : Nat) : Int := boundv xs n - ((l.map fun q => hitN xs n s (cls (flatC (kindsC xs n)) q) i).sum : Nat)
def accL (xs : List Int) (n : Nat) (s : ByteArray) (l : List Nat) : List Int := mk (s.size + 1 - n) (accF xs n s l)
theorem sum_le {l : List Nat} {f : Nat → Nat} {b : Nat} (h : ∀ q, f q ≤ b) : (l.map f).sum ≤ l.length * b := by
  induction l with
  | nil => simp
  | cons a l ih => rw [List.map_cons, List.sum_cons, List.length_cons, Nat.succ_mul]; have := h a; omega
theorem accF_bd (xs : List Int) (n : Nat) (s : ByteArray) (l : List Nat) (i : Nat) (hn : n ≤ 64) (hl : l.length ≤ 64) : -5000 ≤ accF xs n s l i ∧ accF xs n s l i ≤ 64 := by
  have h1 := whereT_len xs fullv n
  have h2 := sum_le (l := l) (f := fun q => hitN xs n s (cls (flatC (kindsC xs n)) q) i) (b := 64) fun q => Nat.le_trans (hitN_le _ _ _ _ _) hn
  have h3 : l.length * 64 ≤ 4096 := by omega
  unfold accF boundv whereN
  omega
theorem accF_snoc (xs : List Int) (n : Nat) (s : ByteArray) (l : List Nat) (q i : Nat) : accF xs n s (l ++ [q]) i = accF xs n s l i - ((hitN xs n s (cls (flatC (kindsC xs n)) q) i : Nat) : Int) := by
  unfold accF
  rw [List.map_append, List.sum_append]
  simp
  omega
theorem range_kinds (xs : List Int) (n : Nat) (s : ByteArray) (i : Nat) : ∀ (l : List Cl), ((List.range l.length).map fun q => hitN xs n s (cls (flatC l) q) i).sum = (l.map fun x => hitN xs n s x i).sum := fun l => by
  congr 1
  refine List.ext_getElem (by simp) fun j h1 h2 => ?_
  simp only [List.length_map, List.length_range] at h1
  simp [flatC_cls l j h1]
theorem accL_all {xs : List Int} {n : Nat} {K : Int} {s : ByteArray} (hr : rightv xs n K = true) : accL xs n s (List.range (kindsC xs n).length) = countsv xs n K s := by
  unfold accL countsv
  rw [if_pos hr]
  refine mk_congr fun i _ => ?_
  unfold accF
  rw [range_kinds xs n s i (kindsC xs n), sum_hits (kindsC_nodup xs n)]
  exact bound_got xs n s i
def symL (xs : List Int) (n : Nat) (K : Int) (s : ByteArray) (size : Int) : List Int := if symE xs n K s.size size = 0 then countsv xs n K s else []
def symN (xs : List Int) (n : Nat) (K : Int) (N : Nat) (size : Int) : Int := if symE xs n K N size = 0 then ((kindsC xs n).length : Int) * cntC n N size else 0
theorem symE_zero {xs : List Int} {n : Nat} {K : Int} {N : Nat} {size : Int} (h : symE xs n K N size = 0) : rightv xs n K = true ∧ 1 ≤ n ∧ n ≤ 64 ∧ 0 ≤ K ∧ K ≤ 64 ∧ (n ≤ N → szb n size = true) := by
  unfold symE at h
  by_cases hr : rightv xs n K = true
  · rw [if_pos hr] at h
    have hr2 := hr
    unfold rightv at hr2
    simp only [Bool.and_eq_true, decide_eq_true_eq] at hr2
    refine ⟨hr, by omega, by omega, by omega, by omega, fun hN => ?_⟩
    cases hz : szb n size
    · rw [if_pos ⟨hN, hz⟩] at h; omega
    · rfl
  · rw [if_neg hr] at h; omega
theorem setCell_grown (w : World) (p : Addr) (u : Value) : w.grownBy (w.setCell p u) (some p.block) := ⟨rfl, rfl, rfl, by simp, fun k _ hne => Below.heap_setCell w p u k (fun e => hne (by rw [e]))⟩
theorem rd_grown {k : IntKind} {A : Option Addr} {xs : List Int} {W W' : World} {row : Option Nat} (h : Rd k W A xs) (hg : W.grownBy W' row) (hr : ∀ ad, A = some ad → some ad.block ≠ row) : Rd k W' A xs :=
  ⟨h.1, fun h0 => by
    obtain ⟨ad, e, hc⟩ := h.2 h0
    exact ⟨ad, e, fun j hj => (World.cell?_of_block (hg.block _ (World.block_lt_of_cell? W _ (hc j hj)) (by rw [add_block]; exact hr ad e))).trans (hc j hj)⟩⟩
theorem kpx_grown {X : Nat → Prop} {W W' : World} {g : Nat} (hg : W.grownBy W' (some g)) (hx : X g) : KpX X W W' := ⟨hg.size, fun k o a _ c => grown_blk hg a (fun e => c (by cases e; exact hx))⟩
theorem keeps_grown {W W' : World} {g : Nat} {cs : Array Value} {t : TypeId} (hg : W.grownBy W' (some g)) (h : W.heap[g]? = some (.cells cs t (0, 0))) : KeepsOthers W W' := KeepsOthers.of_grownBy hg fun j o e ho => by cases e; rw [h] at ho; cases ho; rfl
def bndT (b : Int) (L q : Nat) : List Int := mk L fun i => if i < q then b else 0
theorem bndT_set {b : Int} {L q : Nat} (h : q < L) : (bndT b L q).set q b = bndT b L (q + 1) := by
  unfold bndT
  rw [mk_set _ h]
  refine mk_congr fun t _ => ?_
  by_cases h1 : t = q
  · rw [if_pos h1, if_pos (by omega)]
  · rw [if_neg h1]
    by_cases h2 : t < q
    · rw [if_pos h2, if_pos (by omega)]
    · rw [if_neg h2, if_neg (by omega)]
theorem bndT_zero (b : Int) (L : Nat) : (bndT b L 0).map (Value.int .i64) = List.replicate L (Value.int .i64 0) := by
  unfold bndT mk
  rw [List.map_map]
  refine List.ext_getElem (by simp) fun j h1 h2 => by simp
theorem bndT_all (xs : List Int) (n : Nat) (s : ByteArray) : bndT (boundv xs n) (s.size + 1 - n) (s.size + 1 - n) = accL xs n s [] := by
  unfold bndT accL
  refine mk_congr fun t ht => ?_
  rw [if_pos ht]; simp [accF]
set_option maxRecDepth 100000 in
set_option maxHeartbeats 4000000 in
theorem symcounts_no (A : Option Addr) (cap n : Nat) (xs : List Int) (K : Int) (s : ByteArray) (size : Int) (hu : U64 xs) (hl : xs.length = 4 * n) (hn : n ≤ 1000000) (hsz : s.size ≤ 900000) (hE : symE xs n K s.size size ≠ 0) (w : World) (hr : Rd .u64 w A xs) : Calls Tryz.prog 86 #[leafV A n cap K, .string s, .int .i64 size] w (AnsI (symL xs n K s size) (symN xs n K s.size size) (symE xs n K s.size size) w) := by
  have C := fun w1 h => symcheck_c A cap n xs K s size hl hn (by omega) w1 h
  have hL : symL xs n K s size = [] := if_neg hE
  have hN : symN xs n K s.size size = 0 := if_neg hE
  rw [hL, hN]
  clear hL hN
  have hb := blk_new w (.cells #[.slice A n cap, .int .i64 K] 61)
  have ka := kept_alloc (kept_refl w) (.cells #[.slice A n cap, .int .i64 K] 61)
  have c0 : (w.alloc (.cells #[.slice A n cap, .int .i64 K] 61)).cell? ⟨w.heap.size, 0, none⟩ = some (.slice A n cap) := blk_cell hb 0
  have c1 : (w.alloc (.cells #[.slice A n cap, .int .i64 K] 61)).cell? ⟨w.heap.size, 1, none⟩ = some (.int .i64 K) := blk_cell hb 1
  generalize symE xs n K s.size size = er at *
  have hne : (er != 0) = true := by simpa using hE
  go_enter Tryz.func86, Tryz.ntmps86
  go_wp2_with fail
  refine (C _ (hr.kept ka)).mono ?_
  rintro e w1 ⟨rfl, hk1⟩
  clear C c0 c1 hb
  go_wp2_with fail
  exact bodyPost_ret (v := .tuple #[.slice none 0 0, .int .i64 0, .int .i64 er]) (by simp [results, Tryz.results86, go_sem]) rfl ⟨none, 0, rfl, Rd.nil _ _ _, kept_trans ka hk1⟩
theorem cntC_bd (n N : Nat) (size : Int) : 0 ≤ cntC n N size ∧ cntC n N size ≤ 8796093022208 := by
  unfold cntC
  split
  · exact countv_bd _ _ _
  · omega
set_option maxRecDepth 100000 in
set_option maxHeartbeats 8000000 in
theorem symcounts_yes (A : Option Addr) (cap n : Nat) (xs : List Int) (K : Int) (s : ByteArray) (size : Int) (hu : U64 xs) (hl : xs.length = 4 * n) (hn : n ≤ 1000000) (hsz : s.size ≤ 900000) (hE : symE xs n K s.size size = 0) (w : World) (hr : Rd .u64 w A xs) : Calls Tryz.prog 86 #[leafV A n cap K, .string s, .int .i64 size] w (AnsI (symL xs n K s size) (symN xs n K s.size size) (symE xs n K s.size size) w) := by
  obtain ⟨i1, hif1, hy0, hy1, hy2⟩ := info_parts info_i64c
  have C := fun w1 h => symcheck_c A cap n xs K s size hl hn (by omega) w1 h
  obtain ⟨hrv, hn1, hn64, hK0, hK64, hz⟩ := symE_zero hE
  have hL : symL xs n K s size = accL xs n s (List.range (kindsC xs n).length) := (if_pos hE).trans (accL_all hrv).symm
  have hN : symN xs n K s.size size = ((kindsC xs n).length : Int) * cntC n s.size size := if_pos hE
  have hkl := kindsC_le xs n
  rw [hE] at C
  rw [hL, hN, hE]
  have BD := fun w1 h => bound_c A cap n xs K hu hl hn w1 h
  have hb := blk_new w (.cells #[.slice A n cap, .int .i64 K] 61)
  have ka := kept_alloc (kept_refl w) (.cells #[.slice A n cap, .int .i64 K] 61)
  have c0 : (w.alloc (.cells #[.slice A n cap, .int .i64 K] 61)).cell? ⟨w.heap.size, 0, none⟩ = some (.slice A n cap) := blk_cell hb 0
  have c1 : (w.alloc (.cells #[.slice A n cap, .int .i64 K] 61)).cell? ⟨w.heap.size, 1, none⟩ = some (.int .i64 K) := blk_cell hb 1
  obtain ⟨L0, hL0⟩ : ∃ L0, L0 = s.size + 1 - n := ⟨_, rfl⟩
  have hmx : max (0 : Int) ((s.size : Int) - (n : Int) + 1) = (L0 : Int) := by omega
  have HL0 := Lib.hid hL0
  have hL01 : L0 ≤ 900001 := by omega
  have HE := Lib.hid hE
  clear hL hN hE hL0
  refine (callsIn_wide (n := 5)).1 ?_
  refine callsIn_of_wp_marks Tryz.func86 rfl trivial ?_ rfl
  refine (wpIn_wide (n := 5)).2 ?_
  simp only [Tryz.ntmps86, List.size_toArray, List.length_cons, List.length_nil, Nat.reduceAdd, Nat.reduceSub, Array.replicate_succ, Array.replicate_zero, List.push_toArray, List.append_toArray, List.nil_append, List.cons_append]
  go_wp2_with fail
  refine (C _ (hr.kept ka)).mono ?_
  rintro e wd ⟨rfl, hk1⟩
  replace hb := blk_kept hk1 hb
  replace ka := kept_trans ka hk1
  replace c0 : wd.cell? ⟨w.heap.size, 0, none⟩ = some (.slice A n cap) := blk_cell hb 0
  clear C hk1 c1
  go_wp2_with (refine wpList_make_full _ rfl (.tmp 31) (.tmp 31) 24 rfl wd.heap.size 3 i1 (.int .i64 0) 1 Tryz.underlying24 hif1 hy0 hy1 .i64 .i64 _ _ L0 rfl rfl (by simp) (by simp) ?b2 ?b3 ?b4 ?_)
  case b2 => rw [hy2]; omega
  case b3 => unfold maxLen; omega
  case b4 => exact Nat.le_refl _
  intro w4 hown4 hgrow
  have K4 : Kept wd w4 := (kept_refl wd).grown hgrow (Nat.le_refl _) (fun k h => by cases h)
  rw [toList_madeCells_one] at hown4
  have hown5 : w4.ownsRow wd.heap.size 3 1 (.slice (some ⟨wd.heap.size, 0, none⟩) L0 L0) L0 ((bndT (boundv xs n) L0 0).map (Value.int .i64)) := by
    rw [bndT_zero]; exact hown4
  have hgo : wd.heap.size < w4.heap.size := (World.ownsRow.lt hown5 _ rfl).2
  have hO := blk_new w4 (.cells #[.slice (some ⟨wd.heap.size, 0, none⟩) L0 L0] 24)
  have ko := kept_alloc K4 (.cells #[.slice (some ⟨wd.heap.size, 0, none⟩) L0 L0] 24)
  have hown6 := hown5.alloc (.cells #[.slice (some ⟨wd.heap.size, 0, none⟩) L0 L0] 24)
  have o0 : (w4.alloc (.cells #[.slice (some ⟨wd.heap.size, 0, none⟩) L0 L0] 24)).cell? ⟨w4.heap.size, 0, none⟩ = some (.slice (some ⟨wd.heap.size, 0, none⟩) L0 L0) := blk_cell hO 0
  clear hown4 hgrow hown5 K4 c0
  go_wp2_with fail
  generalize w4.alloc (.cells #[.slice (some ⟨wd.heap.size, 0, none⟩) L0 L0] 24) = w5 at *
  generalize hbo : w4.heap.size = bo at *
  have hne : wd.heap.size < bo := hgo
  have HNE := Lib.hid hne
  clear hbo o0 hne hgo
  generalize hbb : boundv xs n = bb at *
  have HBB := Lib.hid hbb
  clear hbb
  go_loopw [35] (fun i wr => ∃ q : Nat, q ≤ L0 ∧ i = .int .i64 q ∧ wr.ownsRow wd.heap.size 3 1 (.slice (some ⟨wd.heap.size, 0, none⟩) L0 L0) L0 ((bndT bb L0 q).map (Value.int .i64)) ∧ wr.heap[bo]? = some (.cells #[.slice (some ⟨wd.heap.size, 0, none⟩) L0 L0] 24) ∧ Kept wd wr) (fun i _ => L0 - (intOf i).toNat)
  case atStart => exact ⟨0, Nat.zero_le _, rfl, hown6, hO, ko⟩
  case round =>
    clear hown6 hO ko
    obtain ⟨q, hq, rfl, hown, hO, hk⟩ := hrel
    have hbr := blk_kept hk hb
    have o0 : wr.cell? ⟨bo, 0, none⟩ = some (.slice (some ⟨wd.heap.size, 0, none⟩) L0 L0) := blk_cell hO 0
    by_cases hlt : q < L0
    · have c0 : wr.cell? ⟨w.heap.size, 0, none⟩ = some (.slice A n cap) := blk_cell hbr 0
      have c1 : wr.cell? ⟨w.heap.size, 1, none⟩ = some (.int .i64 K) := blk_cell hbr 1
      have hrr := hr.kept (kept_trans ka hk)
      have HS := Lib.hid (bndT_set (b := bb) hlt)
      have hlen : (bndT bb L0 q).length = L0 := mk_length _ _
      have HLEN := Lib.hid hlen
      clear hlen
      have ea : (⟨wd.heap.size, 0, none⟩ : Addr).add q = ⟨wd.heap.size, q, none⟩ := by unfold Addr.add; split <;> simp_all
      go_wp2_with fail
      have ks_0 := fun s => kw_cell s c0
      have ks_1 := fun s => kw_cell s c1
      have ks_2 := fun s => kw_cell s o0
      refine wp_region_tail 5 (by kernel_rfl) (by kernel_rfl) ?_
      simp only [List.take_succ_cons, List.take_zero, List.drop_succ_cons, List.drop_zero]
      repeat (first | go_big_quiet_skip | (go_big_quiet_want; go_big_quiet_op; first | go_big_quiet_on | (apply Exists.intro; refine ⟨fun s => ?_, ?_⟩; (first | (go_at_call 146; exact call_kept (BD _ (hrr.kept s.kept)))); go_big_quiet_on)))
      refine wpQuiet_nil ?_
      rintro w7 ⟨⟨_, hk7⟩, rfl⟩
      clear ks_0 ks_1 ks_2 c0 c1 o0 BD
      have hownA := rowKept hown hk7
      have hkA := kept_trans hk hk7
      have hO7 := blk_kept hk7 hO
      have d0 := World.ownsRow.cellAt hownA q (by omega)
      rw [List.getElem?_map, List.getElem?_eq_getElem (by rw [HLEN.out]; omega), Option.map_some] at d0
      have f0 := World.ownsRow.frozenAt hownA q
      have ST := World.ownsRow.stored hownA q (.int .i64 bb)
      rw [← List.map_set, HS.out] at ST
      generalize (bndT bb L0 q)[q]'(by rw [HLEN.out]; omega) = old at *
      have hO8 := grown_blk ST.2 hO7 (by simp []; have := HNE.out; omega)
      clear hown hk hk7 hO
      go_wp2_with fail
      exact ⟨⟨q + 1, by omega, by go_num, ST.1, hO8, kept_grown hkA hownA (Nat.le_refl _) ST.2⟩, by simp [intOf]; omega⟩
    · obtain rfl : q = L0 := by omega
      have hA0 : bndT bb q q = accL xs n s [] := by rw [← HBB.out, HL0.out]; exact bndT_all xs n s
      rw [hA0] at hown
      have c0 : (wr.alloc (.cells #[.int .i64 0] 3)).cell? ⟨w.heap.size, 0, none⟩ = some (.slice A n cap) := blk_cell (blk_alloc hbr _) 0
      have c1 : (wr.alloc (.cells #[.int .i64 0] 3)).cell? ⟨w.heap.size, 1, none⟩ = some (.int .i64 K) := blk_cell (blk_alloc hbr _) 1
      clear hA0 o0 BD hbr
      have hne := HNE.out
      have hbw := blk_lt hO
      go_wp2_with fail
      have PC := symkinds_c A cap n xs K s size (wr.alloc (.cells #[.int .i64 0] 3))
      rw [show (wr.alloc (.cells #[.int .i64 0] 3)).heap.size = wr.heap.size + 1 by simp] at PC
      refine PC.mono ?_
      rintro e wp ⟨rfl, p1, p2, p3, hkp⟩
      have hOp := blk_kept hkp (blk_alloc hO (.cells #[.int .i64 0] 3))
      have hAp := blk_kept hkp (blk_new wr (.cells #[.int .i64 0] 3))
      have hkd := kept_trans (kept_alloc hk (.cells #[.int .i64 0] 3)) hkp
      have hwn := rowKept (hown.alloc (.cells #[.int .i64 0] 3)) hkp
      have hps : wr.heap.size + 3 < wp.heap.size := by have := blk_lt p3; omega
      have rp := hr.kept (kept_trans ka hkd)
      clear PC c0 c1 hO hown hk hkp
      generalize wr.heap.size = ba at *
      go_wp2_with fail
      refine (wpIn_wide (n := 5)).1 ?_
      have hwd := blk_lt hb
      have hAx : ∀ ad, A = some ad → ¬ (fun g => g = wd.heap.size ∨ g = ba) ad.block := fun ad e h => by
        obtain ⟨ad2, e2, hc⟩ := (hr.kept ka).2 (by omega)
        rw [e] at e2
        cases e2
        have h9 := World.block_lt_of_cell? wd _ (hc 0 (by omega))
        rw [add_block] at h9
        rcases h with h | h <;> omega
      refine wpIn_rangeFunc_ownR rfl (by decide) (gf := 196) (lb := #[.pointer (some ⟨ba + 1, 0, none⟩), .pointer (some ⟨ba + 1 + 1, 0, none⟩), .pointer (some ⟨ba + 1 + 2, 0, none⟩)]) rfl trivial (enters_of Tryz.func196 (by kernel_rfl) rfl) (kinds_seqR (5 - 1) (ba + 1) (ba + 1 + 1) (ba + 1 + 2) A cap n xs K s size hu hl hn (by omega) hn1 hn64 hz (by decide) (fun g => g = wd.heap.size ∨ g = ba) wp (fun g h => by rcases h with h | h <;> omega) (fun h => by rcases h with h | h <;> omega) (fun h => by rcases h with h | h <;> omega) (fun h => by rcases h with h | h <;> omega) hAx rp p1 p2 p3) KpX.trans kpX_b (Below.refl _ _) (fun _ => rfl) (fun pre W => W.heap[bo]? = some (.cells #[.slice (some ⟨wd.heap.size, 0, none⟩) q q] 24) ∧ W.heap[ba]? = some (.cells #[.int .i64 ((pre.length : Int) * cntC n s.size size)] 3) ∧ W.ownsRow wd.heap.size 3 1 (.slice (some ⟨wd.heap.size, 0, none⟩) q q) q ((accL xs n s (pre.map fun x => x.1.1)).map (Value.int .i64)) ∧ Kept wd W ∧ wp.heap.size ≤ W.heap.size) ?own (fun s W W' row h hg hr => ⟨rd_own h.1 hg hr, h.2⟩) ⟨hOp, by simpa using hAp, hwn, hkd, Nat.le_refl _⟩ ?a1 ?assign ?body ?done
      case own =>
        rintro s W W' row ⟨h1, h2, h3, h4, h5⟩ hg hr
        have hX : ∀ g, g < wp.heap.size → some g ≠ row := fun g hg e => by have := (hr g e.symm).1; omega
        refine ⟨grown_blk hg h1 (hX _ (by omega)), grown_blk hg h2 (hX _ (by omega)), World.ownsRow.kept h3 hg (.inr ?_), h4.grown hg h4.size (fun k e => by have := (hr k e).1; omega), by have := hg.size; omega⟩
        simp only [Value.ownBlock]
        exact hX _ (by omega)
      case assign =>
        intro l x W K' hK
        unfold kencs
        gi_wp2
        exact hK
      case done =>
        rintro D ys W hD hys ⟨h1, h2, h3, h4, h5⟩ hdf
        have hyl : ys.length = (kindsC xs n).length := by have := congrArg List.length hys; simpa using this
        rw [hys] at h3
        rw [hyl] at h2
        have o0 := blk_cell h1 0
        have a0 := blk_cell h2 0
        clear hys hwn hAp hOp p1 p2 p3
        generalize hv : ((kindsC xs n).length : Int) * cntC n s.size size = nn at *
        generalize hal : accL xs n s (List.range (kindsC xs n).length) = al at *
        have hll : al.length = q := by rw [← hal, HL0.out]; exact mk_length _ _
        have HLL := Lib.hid hll
        clear hv hal hyl hll
        go_wp2_with fail
        have ks_0 := fun s => kw_cell s o0
        have ks_1 := fun s => kw_cell s a0
        refine wp_region_kept (by kernel_rfl) (by kernel_rfl) ?_
        repeat (first | go_big_quiet_skip | (go_big_quiet_want; go_big_quiet_op; go_big_quiet_on))
        refine wpQuiet_nil ?_
        rintro w8 ⟨⟨_, hk8⟩, rfl⟩
        clear ks_0 ks_1 o0 a0
        have hdf8 := blk_kept hk8 hdf
        have ho8 := ownsRow_putObj (rowKept h3 hk8) (.deferred none) hdf8 rfl
        have hw8 : Kept w (World.putObj w8 D (.deferred none)) := belowK_t (kept_trans ka (kept_trans h4 hk8)) (belowK_b (w := w) (Nat.le_refl _) w8 D _ (.deferred none) (by have := ka.size; omega) hdf8 rfl rfl)
        go_wp2_with fail
        refine ⟨by simp, .inl ⟨_, _, rfl, run_takeDeferred hdf8, ?_⟩⟩
        have hO : Own .i64 3 wd.heap.size (World.putObj w8 D (.deferred none)) (.slice (some ⟨wd.heap.size, 0, none⟩) q q) al := by unfold Own; rw [HLL.out]; exact ho8
        obtain ⟨B, cB, eB, _, _, rdB⟩ := hO.rd
        simp only [Value.slice.injEq] at eB
        obtain ⟨rfl, _, rfl⟩ := eB
        exact ⟨.tuple #[.slice (some ⟨wd.heap.size, 0, none⟩) q q, .int .i64 nn, .int .i64 0], by simp [results, Tryz.results86, go_sem], some ⟨wd.heap.size, 0, none⟩, q, by rw [HLL.out], rdB, hw8⟩
      case body =>
        rintro l pre ⟨⟨k, hkk⟩, Ad, cp⟩ W ⟨h1, h2, h3, h4, h5⟩ hR hlen
        have hcb := cntC_bd n s.size size
        have hsn := fun i => accF_snoc xs n s (pre.map fun x => x.1.1) k i
        have hbd := fun i => accF_bd xs n s (pre.map fun x => x.1.1) i hn64 (by rw [List.length_map]; omega)
        have hhb := fun i => hitN_le xs n s (cls (flatC (kindsC xs n)) k) i
        unfold kindR at hR
        dsimp only at hR hlen ⊢
        have HX := Lib.hid (show accL xs n s (pre.map fun x => x.1.1) = mk q (accF xs n s (pre.map fun x => x.1.1)) by unfold accL; rw [← HL0.out])
        have HX2 := Lib.hid (show accL xs n s ((pre ++ [((⟨k, hkk⟩ : BI (kindsC xs n).length), Ad, cp)]).map fun x => x.1.1) = mk q (accF xs n s ((pre.map fun x => x.1.1) ++ [k])) by unfold accL; rw [← HL0.out, List.map_append]; rfl)
        rw [HX.out] at h3
        obtain ⟨hR, hXa⟩ := hR
        rw [← HL0.out] at hR
        have hpl : 0 ≤ (pre.length : Int) * cntC n s.size size ∧ (pre.length : Int) * cntC n s.size size ≤ 562949953421312 := by
          have h8 := Int.mul_le_mul (show (pre.length : Int) ≤ 64 by omega) hcb.2 hcb.1 (by decide)
          exact ⟨Int.mul_nonneg (by omega) hcb.1, h8⟩
        have a0 := blk_cell h2 0
        have af := blk_frozen h2 0
        have HH := Lib.hid (⟨h2, h3, hR, h4, h1⟩ : _ ∧ _ ∧ _ ∧ _ ∧ _)
        have HSN := Lib.hid hsn
        have HBD := Lib.hid hbd
        have HHB := Lib.hid hhb
        clear hsn hbd hhb h3 hR hwn hAp hOp p1 p2 p3 HX
        generalize accF xs n s ((pre.map fun x => x.1.1) ++ [k]) = ac1 at *
        generalize accF xs n s (pre.map fun x => x.1.1) = ac at *
        generalize hitN xs n s (cls (flatC (kindsC xs n)) k) = hf at *
        generalize cntC n s.size size = CC at *
        have G2 := setCell_grown W ⟨ba, 0, none⟩ (.int .i64 ((pre.length : Int) * CC + CC))
        have hB2 : (W.setCell ⟨ba, 0, none⟩ (.int .i64 ((pre.length : Int) * CC + CC))).heap[ba]? = some (.cells #[.int .i64 ((pre.length : Int) * CC + CC)] 3) := blk_set h2 0 _
        gi_wp2_with fail
        obtain ⟨h2, h3, hR, h4, h1⟩ := HH.out
        generalize W.setCell ⟨ba, 0, none⟩ (.int .i64 ((pre.length : Int) * CC + CC)) = W2 at *
        have g1 := grown_blk G2 h1 (fun e => by cases e; omega)
        have g3 := World.ownsRow.kept h3 G2 (.inr (fun e => by simp [Value.ownBlock] at e; omega))
        have g4 := kept_grow h4 G2 (by rintro k h; cases h; omega)
        have gR := rd_grown hR G2 (fun ad e h => hXa ad e (.inr (by simpa using h)))
        have kO := keeps_grown G2 h2
        have kX : KpX (fun g => g = wd.heap.size ∨ g = ba) W W2 := kpx_grown G2 (.inr rfl)
        have hw2 := G2.size
        have hz0 := lay_zero (mk q ac1) (mk q ac) q (mk_length _ _)
        have hza := lay_all (mk q ac1) (mk q ac) q (mk_length _ _)
        rw [← hz0] at g3
        have HZA := Lib.hid hza
        clear h1 h2 h3 h4 hR HH a0 af hza hz0 G2
        gi_loopw [55] (fun i wq => ∃ j : Nat, j ≤ q ∧ i = .int .i64 j ∧ wq.heap[bo]? = some (.cells #[.slice (some ⟨wd.heap.size, 0, none⟩) q q] 24) ∧ wq.heap[ba]? = some (.cells #[.int .i64 ((pre.length : Int) * CC + CC)] 3) ∧ wq.ownsRow wd.heap.size 3 1 (.slice (some ⟨wd.heap.size, 0, none⟩) q q) q ((lay (mk q ac1) (mk q ac) q j).map (Value.int .i64)) ∧ Rd .u64 wq Ad (mk q fun i => ((hf i : Nat) : Int)) ∧ Kept wd wq ∧ KeepsOthers W wq ∧ KpX (fun g => g = wd.heap.size ∨ g = ba) W wq) (fun i _ => q - (intOf i).toNat)
        case atStart => exact ⟨0, Nat.zero_le _, rfl, g1, hB2, g3, gR, g4, kO, kX⟩
        case round =>
          clear g1 hB2 g3 gR g4 kO kX
          obtain ⟨j, hj, rfl, g1, hB2, g3, gR, g4, kO, kX⟩ := hrel
          by_cases hlt : j < q
          · have e0 := World.ownsRow.cellAt g3 j (by omega)
            have hlen : (lay (mk q ac1) (mk q ac) q j).length = q := mk_length _ _
            rw [List.getElem?_map, List.getElem?_eq_getElem (by rw [hlen]; omega), Option.map_some, ← nth_lt (by rw [hlen]; omega), lay_at _ _ hlt, nth_mk hlt] at e0
            have f0 := World.ownsRow.frozenAt g3 j
            obtain ⟨ad, rfl, e1⟩ := gR.at_ (j := j) (by rw [mk_length]; exact hlt)
            rw [nth_mk hlt] at e1
            have o0 := blk_cell g1 0
            obtain ⟨b1, b2⟩ := HBD.out j
            have b3 := HHB.out j
            have hv := HSN.out j
            have ST := World.ownsRow.stored g3 j (.int .i64 (ac1 j))
            have hset := lay_set (mk q ac1) (mk q ac) hlt
            rw [nth_mk hlt] at hset
            rw [← List.map_set, hset] at ST
            have HV := Lib.hid hv
            have HS := Lib.hid (⟨ST, g3, g1, hB2, gR, g4, kO, kX⟩ : _ ∧ _ ∧ _ ∧ _ ∧ _ ∧ _ ∧ _ ∧ _)
            have ea : (⟨wd.heap.size, 0, none⟩ : Addr).add j = ⟨wd.heap.size, j, none⟩ := by unfold Addr.add; split <;> simp_all
            clear hset hlen ST g3 hB2 gR g4 kO kX hv HZA
            generalize ac j = y at *
            generalize hf j = z at *
            gi_wp2_with fail
            obtain ⟨ST, g3, g1', hB2, gR, g4, kO, kX⟩ := HS.out
            rw [HV.out] at ST
            have G : wr.grownBy (wr.setCell ⟨wd.heap.size, j, none⟩ (.int .i64 (y - (z : Int)))) (some wd.heap.size) := ST.2
            have O := ST.1
            exact ⟨⟨j + 1, by omega, by go_num, grown_blk G g1' (fun e => by cases e; omega), grown_blk G hB2 (fun e => by cases e; omega), O, rd_grown gR G (fun ad' e h => hXa ad' e (.inl (by simpa using h))), kept_grow g4 G (by rintro k h; cases h; exact Nat.le_refl _), KeepsOthers.trans kO (KeepsOthers.of_grownBy G (fun j o e ho => own_cells g3 j o e ho)), KpX.trans kX (kpx_grown G (.inl rfl))⟩, by simp [intOf]; omega⟩
          · obtain rfl : j = q := by omega
            rw [HZA.out] at g3
            gi_wp2_with fail
            have hB3 : wr.heap[ba]? = some (.cells #[.int .i64 (((pre ++ [((⟨k, hkk⟩ : BI (kindsC xs n).length), Ad, cp)]).length : Int) * CC)] 3) := by
              rw [hB2, List.length_append, List.length_singleton, Int.natCast_add, Int.add_mul]
              simp
            exact ⟨kO, kX, g1, hB3, by rw [HX2.out]; exact g3, g4, Nat.le_trans h5 kX.size⟩
theorem symcounts_c (A : Option Addr) (cap n : Nat) (xs : List Int) (K : Int) (s : ByteArray) (size : Int) (hu : U64 xs) (hl : xs.length = 4 * n) (hn : n ≤ 1000000) (hsz : s.size ≤ 900000) (w : World) (hr : Rd .u64 w A xs) : Calls Tryz.prog 86 #[leafV A n cap K, .string s, .int .i64 size] w (AnsI (symL xs n K s size) (symN xs n K s.size size) (symE xs n K s.size size) w) := by
  by_cases hE : symE xs n K s.size size = 0
  · exact symcounts_yes A cap n xs K s size hu hl hn hsz hE w hr
  · exact symcounts_no A cap n xs K s size hu hl hn hsz hE w hr
def symF (xs : List Int) (n : Nat) (K : Int) (s : ByteArray) (size : Int) : List Int := if symE xs n K s.size size = 0 then hitsv (countsv xs n K s) K else []
theorem countsv_len (xs : List Int) (n : Nat) (K : Int) (s : ByteArray) : (countsv xs n K s).length ≤ s.size + 1 := by
  unfold countsv
  split
  · rw [mk_length]; omega
  · exact Nat.zero_le _
set_option maxRecDepth 100000 in
set_option maxHeartbeats 4000000 in
theorem symfind_c (A : Option Addr) (cap n : Nat) (xs : List Int) (K : Int) (s : ByteArray) (size : Int) (hu : U64 xs) (hl : xs.length = 4 * n) (hn : n ≤ 1000000) (hsz : s.size ≤ 900000) (w : World) (hr : Rd .u64 w A xs) : Calls Tryz.prog 85 #[leafV A n cap K, .string s, .int .i64 size] w (AnsJ (symF xs n K s size) (symN xs n K s.size size) (symE xs n K s.size size) w) := by
  have C := fun w1 h => symcounts_c A cap n xs K s size hu hl hn hsz w1 h
  have hb := blk_new w (.cells #[.slice A n cap, .int .i64 K] 61)
  have ka := kept_alloc (kept_refl w) (.cells #[.slice A n cap, .int .i64 K] 61)
  have c0 : (w.alloc (.cells #[.slice A n cap, .int .i64 K] 61)).cell? ⟨w.heap.size, 0, none⟩ = some (.slice A n cap) := blk_cell hb 0
  have c1 : (w.alloc (.cells #[.slice A n cap, .int .i64 K] 61)).cell? ⟨w.heap.size, 1, none⟩ = some (.int .i64 K) := blk_cell hb 1
  have hcl := countsv_len xs n K s
  have hF : symF xs n K s size = if symE xs n K s.size size = 0 then hitsv (symL xs n K s size) K else [] := by
    unfold symF symL
    split
    · rfl
    · rfl
  have hLl : (symL xs n K s size).length ≤ 1000000 := by
    unfold symL
    split
    · omega
    · exact Nat.zero_le _
  have HF := Lib.hid hF
  have hN0 : symE xs n K s.size size ≠ 0 → symN xs n K s.size size = 0 := fun h => if_neg h
  have HN0 := Lib.hid hN0
  unfold AnsI at C
  clear hF hcl hN0
  generalize symF xs n K s size = sf at *
  generalize symL xs n K s size = sl at *
  generalize symN xs n K s.size size = sn at *
  generalize symE xs n K s.size size = er at *
  go_enter Tryz.func85, Tryz.ntmps85
  go_wp2_with fail
  refine (C _ (hr.kept ka)).mono ?_
  rintro e w1 ⟨A1, cp1, rfl, rd1, hk1⟩
  replace hb := blk_kept hk1 hb
  replace ka := kept_trans ka hk1
  replace c1 : w1.cell? ⟨w.heap.size, 1, none⟩ = some (.int .i64 K) := blk_cell hb 1
  clear C c0 hk1 hb
  by_cases he : er = 0
  · subst he
    have hF2 := HF.out
    rw [if_pos rfl] at hF2
    subst hF2
    have HT := hits_c A1 cp1 sl K (by omega) w1 rd1
    clear HF HN0
    go_wp2_with fail
    refine HT.mono ?_
    rintro e w2 ⟨v2, rfl, own2, hk2⟩
    obtain ⟨A2, cp2, rfl, _, _, rd2⟩ := own2.rdF
    clear HT c1 own2
    go_wp2_with fail
    exact bodyPost_ret (v := .tuple #[.slice A2 (hitsv sl K).length cp2, .int .i64 sn, .int .i64 0]) (by simp [results, Tryz.results85, go_sem]) rfl ⟨A2, cp2, rfl, rd2.less ka.size, kept_trans ka hk2⟩
  · have hF2 := HF.out
    rw [if_neg he] at hF2
    have hn0 := HN0.out he
    subst hF2 hn0
    have hne : (er != 0) = true := by simpa using he
    clear HF HN0 c1
    go_wp2_with fail
    exact bodyPost_ret (v := .tuple #[.slice none 0 0, .int .i64 0, .int .i64 er]) (by simp [results, Tryz.results85, go_sem]) rfl ⟨none, 0, rfl, RdF.nil _ _ _, ka⟩
end Go.Proofs.YtdejablhpljdfaaGreat
namespace Go.Proofs.YtdejablhpljdfaaGreat
open Go.RowKit BG
attribute [local go_sem ↓] Go.wp_at_zero Go.wp_at_succ
set_option linter.unusedVariables false
def admitsv (way : Nat) (xs : List Int) (n : Nat) (K : Int) : Bool :=
  rightv xs n K && (if way = 1 ∨ way = 4 then true else if way = 2 then lettersOk xs n && (K == 0) else if way = 3 then plainv xs n && (K == 0) else if way = 5 then plainv xs n else false)
set_option maxRecDepth 100000 in
set_option maxHeartbeats 4000000 in
theorem admits_0 (A : Option Addr) (cap n : Nat) (xs : List Int) (K : Int) (hu : U64 xs) (hl : xs.length = 4 * n) (hn : n ≤ 1000000) (w : World) (hr : Rd .u64 w A xs) : Calls Tryz.prog 91 #[.int .i64 0, leafV A n cap K] w (Ret (.bool (admitsv 0 xs n K)) w) := by
  have ka := kept_alloc (kept_refl w) (.cells #[.slice A n cap, .int .i64 K] 61)
  have hb := blk_new w (.cells #[.slice A n cap, .int .i64 K] 61)
  have hn1 : rightv xs n K = true → 1 ≤ n := fun h => by
    unfold rightv at h
    simp only [Bool.and_eq_true, decide_eq_true_eq] at h
    omega
  have R := fun w1 h => right_c A cap n xs K hl w1 h
  have L := fun h0 w1 h => letters_c A cap n xs K hu hl hn h0 w1 h
  have P := fun w1 h => plain_c A cap n xs K hu hl w1 h
  have c0 : (w.alloc (.cells #[.slice A n cap, .int .i64 K] 61)).cell? ⟨w.heap.size, 0, none⟩ = some (.slice A n cap) := blk_cell hb 0
  have c1 : (w.alloc (.cells #[.slice A n cap, .int .i64 K] 61)).cell? ⟨w.heap.size, 1, none⟩ = some (.int .i64 K) := blk_cell hb 1
  unfold admitsv
  simp only [reduceIte, reduceCtorEq, or_self]
  generalize rightv xs n K = rv at *
  generalize lettersOk xs n = lv at *
  generalize lettersS xs n = ls at *
  generalize plainv xs n = pv at *
  obtain ⟨k0, hk0⟩ : ∃ k0, (K == 0) = k0 := ⟨_, rfl⟩
  try rw [hk0]
  go_enter Tryz.func91, Tryz.ntmps91
  go_wp2_with fail
  refine (R _ (hr.kept ka)).mono ?_
  rintro e w1 ⟨rfl, hk1⟩
  replace hb := blk_kept hk1 hb
  replace ka := kept_trans ka hk1
  replace c0 : w1.cell? ⟨w.heap.size, 0, none⟩ = some (.slice A n cap) := blk_cell hb 0
  replace c1 : w1.cell? ⟨w.heap.size, 1, none⟩ = some (.int .i64 K) := blk_cell hb 1
  clear R hk1
  cases rv
  · go_wp2_with fail
    go_ret
    exact ⟨by simp, ka⟩
  · go_wp2_with fail
    refine (L (hn1 (by first | rfl | trivial)) _ (hr.kept ka)).mono ?_
    rintro e w2 ⟨rfl, hk2⟩
    replace hb := blk_kept hk2 hb
    replace ka := kept_trans ka hk2
    replace c0 : w2.cell? ⟨w.heap.size, 0, none⟩ = some (.slice A n cap) := blk_cell hb 0
    replace c1 : w2.cell? ⟨w.heap.size, 1, none⟩ = some (.int .i64 K) := blk_cell hb 1
    clear L hk2 hn1
    go_wp2_with fail
    go_ret
    exact ⟨by simp, ka⟩
set_option maxRecDepth 100000 in
set_option maxHeartbeats 4000000 in
theorem admits_1 (A : Option Addr) (cap n : Nat) (xs : List Int) (K : Int) (hu : U64 xs) (hl : xs.length = 4 * n) (hn : n ≤ 1000000) (w : World) (hr : Rd .u64 w A xs) : Calls Tryz.prog 91 #[.int .i64 1, leafV A n cap K] w (Ret (.bool (admitsv 1 xs n K)) w) := by
  have ka := kept_alloc (kept_refl w) (.cells #[.slice A n cap, .int .i64 K] 61)
  have hb := blk_new w (.cells #[.slice A n cap, .int .i64 K] 61)
  have hn1 : rightv xs n K = true → 1 ≤ n := fun h => by
    unfold rightv at h
    simp only [Bool.and_eq_true, decide_eq_true_eq] at h
    omega
  have R := fun w1 h => right_c A cap n xs K hl w1 h
  have L := fun h0 w1 h => letters_c A cap n xs K hu hl hn h0 w1 h
  have P := fun w1 h => plain_c A cap n xs K hu hl w1 h
  have c0 : (w.alloc (.cells #[.slice A n cap, .int .i64 K] 61)).cell? ⟨w.heap.size, 0, none⟩ = some (.slice A n cap) := blk_cell hb 0
  have c1 : (w.alloc (.cells #[.slice A n cap, .int .i64 K] 61)).cell? ⟨w.heap.size, 1, none⟩ = some (.int .i64 K) := blk_cell hb 1
  unfold admitsv
  simp only [reduceIte, Nat.reduceEqDiff, or_false]
  generalize rightv xs n K = rv at *
  generalize lettersOk xs n = lv at *
  generalize lettersS xs n = ls at *
  generalize plainv xs n = pv at *
  obtain ⟨k0, hk0⟩ : ∃ k0, (K == 0) = k0 := ⟨_, rfl⟩
  try rw [hk0]
  go_enter Tryz.func91, Tryz.ntmps91
  go_wp2_with fail
  refine (R _ (hr.kept ka)).mono ?_
  rintro e w1 ⟨rfl, hk1⟩
  replace hb := blk_kept hk1 hb
  replace ka := kept_trans ka hk1
  replace c0 : w1.cell? ⟨w.heap.size, 0, none⟩ = some (.slice A n cap) := blk_cell hb 0
  replace c1 : w1.cell? ⟨w.heap.size, 1, none⟩ = some (.int .i64 K) := blk_cell hb 1
  clear R hk1
  cases rv
  · go_wp2_with fail
    go_ret
    exact ⟨by simp, ka⟩
  · go_wp2_with fail
    refine (L (hn1 (by first | rfl | trivial)) _ (hr.kept ka)).mono ?_
    rintro e w2 ⟨rfl, hk2⟩
    replace hb := blk_kept hk2 hb
    replace ka := kept_trans ka hk2
    replace c0 : w2.cell? ⟨w.heap.size, 0, none⟩ = some (.slice A n cap) := blk_cell hb 0
    replace c1 : w2.cell? ⟨w.heap.size, 1, none⟩ = some (.int .i64 K) := blk_cell hb 1
    clear L hk2 hn1
    go_wp2_with fail
    go_ret
    exact ⟨by simp, ka⟩
set_option maxRecDepth 100000 in
set_option maxHeartbeats 4000000 in
theorem admits_2 (A : Option Addr) (cap n : Nat) (xs : List Int) (K : Int) (hu : U64 xs) (hl : xs.length = 4 * n) (hn : n ≤ 1000000) (w : World) (hr : Rd .u64 w A xs) : Calls Tryz.prog 91 #[.int .i64 2, leafV A n cap K] w (Ret (.bool (admitsv 2 xs n K)) w) := by
  have ka := kept_alloc (kept_refl w) (.cells #[.slice A n cap, .int .i64 K] 61)
  have hb := blk_new w (.cells #[.slice A n cap, .int .i64 K] 61)
  have hn1 : rightv xs n K = true → 1 ≤ n := fun h => by
    unfold rightv at h
    simp only [Bool.and_eq_true, decide_eq_true_eq] at h
    omega
  have R := fun w1 h => right_c A cap n xs K hl w1 h
  have L := fun h0 w1 h => letters_c A cap n xs K hu hl hn h0 w1 h
  have P := fun w1 h => plain_c A cap n xs K hu hl w1 h
  have c0 : (w.alloc (.cells #[.slice A n cap, .int .i64 K] 61)).cell? ⟨w.heap.size, 0, none⟩ = some (.slice A n cap) := blk_cell hb 0
  have c1 : (w.alloc (.cells #[.slice A n cap, .int .i64 K] 61)).cell? ⟨w.heap.size, 1, none⟩ = some (.int .i64 K) := blk_cell hb 1
  unfold admitsv
  simp only [reduceIte, Nat.reduceEqDiff, or_self, Nat.succ_ne_self]
  generalize rightv xs n K = rv at *
  generalize lettersOk xs n = lv at *
  generalize lettersS xs n = ls at *
  generalize plainv xs n = pv at *
  obtain ⟨k0, hk0⟩ : ∃ k0, (K == 0) = k0 := ⟨_, rfl⟩
  try rw [hk0]
  go_enter Tryz.func91, Tryz.ntmps91
  go_wp2_with fail
  refine (R _ (hr.kept ka)).mono ?_
  rintro e w1 ⟨rfl, hk1⟩
  replace hb := blk_kept hk1 hb
  replace ka := kept_trans ka hk1
  replace c0 : w1.cell? ⟨w.heap.size, 0, none⟩ = some (.slice A n cap) := blk_cell hb 0
  replace c1 : w1.cell? ⟨w.heap.size, 1, none⟩ = some (.int .i64 K) := blk_cell hb 1
  clear R hk1
  cases rv
  · go_wp2_with fail
    go_ret
    exact ⟨by simp, ka⟩
  · go_wp2_with fail
    refine (L (hn1 (by first | rfl | trivial)) _ (hr.kept ka)).mono ?_
    rintro e w2 ⟨rfl, hk2⟩
    replace hb := blk_kept hk2 hb
    replace ka := kept_trans ka hk2
    replace c0 : w2.cell? ⟨w.heap.size, 0, none⟩ = some (.slice A n cap) := blk_cell hb 0
    replace c1 : w2.cell? ⟨w.heap.size, 1, none⟩ = some (.int .i64 K) := blk_cell hb 1
    clear L hk2 hn1
    cases lv <;> cases k0 <;> (go_wp2_with fail; go_ret; exact ⟨by simp, ka⟩)
set_option maxRecDepth 100000 in
set_option maxHeartbeats 4000000 in
theorem admits_3 (A : Option Addr) (cap n : Nat) (xs : List Int) (K : Int) (hu : U64 xs) (hl : xs.length = 4 * n) (hn : n ≤ 1000000) (w : World) (hr : Rd .u64 w A xs) : Calls Tryz.prog 91 #[.int .i64 3, leafV A n cap K] w (Ret (.bool (admitsv 3 xs n K)) w) := by
  have ka := kept_alloc (kept_refl w) (.cells #[.slice A n cap, .int .i64 K] 61)
  have hb := blk_new w (.cells #[.slice A n cap, .int .i64 K] 61)
  have hn1 : rightv xs n K = true → 1 ≤ n := fun h => by
    unfold rightv at h
    simp only [Bool.and_eq_true, decide_eq_true_eq] at h
    omega
  have R := fun w1 h => right_c A cap n xs K hl w1 h
  have L := fun h0 w1 h => letters_c A cap n xs K hu hl hn h0 w1 h
  have P := fun w1 h => plain_c A cap n xs K hu hl w1 h
  have c0 : (w.alloc (.cells #[.slice A n cap, .int .i64 K] 61)).cell? ⟨w.heap.size, 0, none⟩ = some (.slice A n cap) := blk_cell hb 0
  have c1 : (w.alloc (.cells #[.slice A n cap, .int .i64 K] 61)).cell? ⟨w.heap.size, 1, none⟩ = some (.int .i64 K) := blk_cell hb 1
  unfold admitsv
  simp only [reduceIte, Nat.reduceEqDiff, or_self, Nat.succ_ne_self]
  generalize rightv xs n K = rv at *
  generalize lettersOk xs n = lv at *
  generalize lettersS xs n = ls at *
  generalize plainv xs n = pv at *
  obtain ⟨k0, hk0⟩ : ∃ k0, (K == 0) = k0 := ⟨_, rfl⟩
  try rw [hk0]
  go_enter Tryz.func91, Tryz.ntmps91
  go_wp2_with fail
  refine (R _ (hr.kept ka)).mono ?_
  rintro e w1 ⟨rfl, hk1⟩
  replace hb := blk_kept hk1 hb
  replace ka := kept_trans ka hk1
  replace c0 : w1.cell? ⟨w.heap.size, 0, none⟩ = some (.slice A n cap) := blk_cell hb 0
  replace c1 : w1.cell? ⟨w.heap.size, 1, none⟩ = some (.int .i64 K) := blk_cell hb 1
  clear R hk1
  cases rv
  · go_wp2_with fail
    go_ret
    exact ⟨by simp, ka⟩
  · go_wp2_with fail
    refine (L (hn1 (by first | rfl | trivial)) _ (hr.kept ka)).mono ?_
    rintro e w2 ⟨rfl, hk2⟩
    replace hb := blk_kept hk2 hb
    replace ka := kept_trans ka hk2
    replace c0 : w2.cell? ⟨w.heap.size, 0, none⟩ = some (.slice A n cap) := blk_cell hb 0
    replace c1 : w2.cell? ⟨w.heap.size, 1, none⟩ = some (.int .i64 K) := blk_cell hb 1
    clear L hk2 hn1
    go_wp2_with fail
    refine (P _ (hr.kept ka)).mono ?_
    rintro e w3 ⟨rfl, hk3⟩
    replace hb := blk_kept hk3 hb
    replace ka := kept_trans ka hk3
    replace c1 : w3.cell? ⟨w.heap.size, 1, none⟩ = some (.int .i64 K) := blk_cell hb 1
    clear P hk3 c0
    cases pv <;> cases k0 <;> (go_wp2_with fail; go_ret; exact ⟨by simp, ka⟩)
set_option maxRecDepth 100000 in
set_option maxHeartbeats 4000000 in
theorem admits_4 (A : Option Addr) (cap n : Nat) (xs : List Int) (K : Int) (hu : U64 xs) (hl : xs.length = 4 * n) (hn : n ≤ 1000000) (w : World) (hr : Rd .u64 w A xs) : Calls Tryz.prog 91 #[.int .i64 4, leafV A n cap K] w (Ret (.bool (admitsv 4 xs n K)) w) := by
  have ka := kept_alloc (kept_refl w) (.cells #[.slice A n cap, .int .i64 K] 61)
  have hb := blk_new w (.cells #[.slice A n cap, .int .i64 K] 61)
  have hn1 : rightv xs n K = true → 1 ≤ n := fun h => by
    unfold rightv at h
    simp only [Bool.and_eq_true, decide_eq_true_eq] at h
    omega
  have R := fun w1 h => right_c A cap n xs K hl w1 h
  have L := fun h0 w1 h => letters_c A cap n xs K hu hl hn h0 w1 h
  have P := fun w1 h => plain_c A cap n xs K hu hl w1 h
  have c0 : (w.alloc (.cells #[.slice A n cap, .int .i64 K] 61)).cell? ⟨w.heap.size, 0, none⟩ = some (.slice A n cap) := blk_cell hb 0
  have c1 : (w.alloc (.cells #[.slice A n cap, .int .i64 K] 61)).cell? ⟨w.heap.size, 1, none⟩ = some (.int .i64 K) := blk_cell hb 1
  unfold admitsv
  simp only [reduceIte, Nat.reduceEqDiff, or_true, Nat.succ_ne_self]
  generalize rightv xs n K = rv at *
  generalize lettersOk xs n = lv at *
  generalize lettersS xs n = ls at *
  generalize plainv xs n = pv at *
  obtain ⟨k0, hk0⟩ : ∃ k0, (K == 0) = k0 := ⟨_, rfl⟩
  try rw [hk0]
  go_enter Tryz.func91, Tryz.ntmps91
  go_wp2_with fail
  refine (R _ (hr.kept ka)).mono ?_
  rintro e w1 ⟨rfl, hk1⟩
  replace hb := blk_kept hk1 hb
  replace ka := kept_trans ka hk1
  replace c0 : w1.cell? ⟨w.heap.size, 0, none⟩ = some (.slice A n cap) := blk_cell hb 0
  replace c1 : w1.cell? ⟨w.heap.size, 1, none⟩ = some (.int .i64 K) := blk_cell hb 1
  clear R hk1
  cases rv
  · go_wp2_with fail
    go_ret
    exact ⟨by simp, ka⟩
  · go_wp2_with fail
    refine (L (hn1 (by first | rfl | trivial)) _ (hr.kept ka)).mono ?_
    rintro e w2 ⟨rfl, hk2⟩
    replace hb := blk_kept hk2 hb
    replace ka := kept_trans ka hk2
    replace c0 : w2.cell? ⟨w.heap.size, 0, none⟩ = some (.slice A n cap) := blk_cell hb 0
    replace c1 : w2.cell? ⟨w.heap.size, 1, none⟩ = some (.int .i64 K) := blk_cell hb 1
    clear L hk2 hn1
    go_wp2_with fail
    go_ret
    exact ⟨by simp, ka⟩
set_option maxRecDepth 100000 in
set_option maxHeartbeats 4000000 in
theorem admits_5 (A : Option Addr) (cap n : Nat) (xs : List Int) (K : Int) (hu : U64 xs) (hl : xs.length = 4 * n) (hn : n ≤ 1000000) (w : World) (hr : Rd .u64 w A xs) : Calls Tryz.prog 91 #[.int .i64 5, leafV A n cap K] w (Ret (.bool (admitsv 5 xs n K)) w) := by
  have ka := kept_alloc (kept_refl w) (.cells #[.slice A n cap, .int .i64 K] 61)
  have hb := blk_new w (.cells #[.slice A n cap, .int .i64 K] 61)
  have hn1 : rightv xs n K = true → 1 ≤ n := fun h => by
    unfold rightv at h
    simp only [Bool.and_eq_true, decide_eq_true_eq] at h
    omega
  have R := fun w1 h => right_c A cap n xs K hl w1 h
  have L := fun h0 w1 h => letters_c A cap n xs K hu hl hn h0 w1 h
  have P := fun w1 h => plain_c A cap n xs K hu hl w1 h
  have c0 : (w.alloc (.cells #[.slice A n cap, .int .i64 K] 61)).cell? ⟨w.heap.size, 0, none⟩ = some (.slice A n cap) := blk_cell hb 0
  have c1 : (w.alloc (.cells #[.slice A n cap, .int .i64 K] 61)).cell? ⟨w.heap.size, 1, none⟩ = some (.int .i64 K) := blk_cell hb 1
  unfold admitsv
  simp only [reduceIte, Nat.reduceEqDiff, or_self, Nat.succ_ne_self]
  generalize rightv xs n K = rv at *
  generalize lettersOk xs n = lv at *
  generalize lettersS xs n = ls at *
  generalize plainv xs n = pv at *
  obtain ⟨k0, hk0⟩ : ∃ k0, (K == 0) = k0 := ⟨_, rfl⟩
  try rw [hk0]
  go_enter Tryz.func91, Tryz.ntmps91
  go_wp2_with fail
  refine (R _ (hr.kept ka)).mono ?_
  rintro e w1 ⟨rfl, hk1⟩
  replace hb := blk_kept hk1 hb
  replace ka := kept_trans ka hk1
  replace c0 : w1.cell? ⟨w.heap.size, 0, none⟩ = some (.slice A n cap) := blk_cell hb 0
  replace c1 : w1.cell? ⟨w.heap.size, 1, none⟩ = some (.int .i64 K) := blk_cell hb 1
  clear R hk1
  cases rv
  · go_wp2_with fail
    go_ret
    exact ⟨by simp, ka⟩
  · go_wp2_with fail
    refine (L (hn1 (by first | rfl | trivial)) _ (hr.kept ka)).mono ?_
    rintro e w2 ⟨rfl, hk2⟩
    replace hb := blk_kept hk2 hb
    replace ka := kept_trans ka hk2
    replace c0 : w2.cell? ⟨w.heap.size, 0, none⟩ = some (.slice A n cap) := blk_cell hb 0
    replace c1 : w2.cell? ⟨w.heap.size, 1, none⟩ = some (.int .i64 K) := blk_cell hb 1
    clear L hk2 hn1
    go_wp2_with fail
    refine (P _ (hr.kept ka)).mono ?_
    rintro e w3 ⟨rfl, hk3⟩
    replace hb := blk_kept hk3 hb
    replace ka := kept_trans ka hk3
    replace c1 : w3.cell? ⟨w.heap.size, 1, none⟩ = some (.int .i64 K) := blk_cell hb 1
    clear P hk3 c0
    cases pv <;> (go_wp2_with fail; go_ret; exact ⟨by simp, ka⟩)
theorem admits_c (way : Nat) (hw : way ≤ 5) (A : Option Addr) (cap n : Nat) (xs : List Int) (K : Int) (hu : U64 xs) (hl : xs.length = 4 * n) (hn : n ≤ 1000000) (w : World) (hr : Rd .u64 w A xs) : Calls Tryz.prog 91 #[.int .i64 (way : Int), leafV A n cap K] w (Ret (.bool (admitsv way xs n K)) w) := by
  match way, hw with
  | 0, _ => exact admits_0 A cap n xs K hu hl hn w hr
  | 1, _ => exact admits_1 A cap n xs K hu hl hn w hr
  | 2, _ => exact admits_2 A cap n xs K hu hl hn w hr
  | 3, _ => exact admits_3 A cap n xs K hu hl hn w hr
  | 4, _ => exact admits_4 A cap n xs K hu hl hn w hr
  | 5, _ => exact admits_5 A cap n xs K hu hl hn w hr
end Go.Proofs.YtdejablhpljdfaaGreat
