/-
  Texts of one claim, joined: TLeaf1, TLeaf2, TPlan1, TNaive1.
-/
import Derived.Test.YtdejablhpljdfaaGreatQ06
namespace Go.Proofs.YtdejablhpljdfaaGreat
open Go.RowKit BG
attribute [local go_sem ↓] Go.wp_at_zero Go.wp_at_succ
set_option linter.unusedVariables false
def whereT (xs : List Int) (x : Cl) (q : Nat) : List Int := ((List.range q).filter fun i => decide (cls xs i = x)).map fun i : Nat => (i : Int)
def whereN (xs : List Int) (n : Nat) (x : Cl) : List Int := whereT xs x n
theorem whereT_yes {xs : List Int} {x : Cl} {q : Nat} (h : decide (cls xs q = x) = true) : whereT xs x (q + 1) = whereT xs x q ++ [(q : Int)] := by
  unfold whereT
  rw [List.range_succ, List.filter_append, List.map_append]
  simp [of_decide_eq_true h]
theorem whereT_no {xs : List Int} {x : Cl} {q : Nat} (h : decide (cls xs q = x) = false) : whereT xs x (q + 1) = whereT xs x q := by
  unfold whereT
  rw [List.range_succ, List.filter_append, List.map_append]
  simp [of_decide_eq_false h]
theorem whereT_len (xs : List Int) (x : Cl) (q : Nat) : (whereT xs x q).length ≤ q := by
  unfold whereT
  rw [List.length_map]
  have := List.length_filter_le (fun i => decide (cls xs i = x)) (List.range q)
  rwa [List.length_range] at this
set_option maxRecDepth 100000 in
set_option maxHeartbeats 4000000 in
theorem where_c (A : Option Addr) (cap n : Nat) (xs : List Int) (K : Int) (v : Cl) (hu : U64 xs) (hl : xs.length = 4 * n) (hn : n ≤ 1000000) (w : World) (hr : Rd .u64 w A xs) : Calls Tryz.prog 195 #[leafV A n cap K, v.v] w fun e w' => ∃ r, e = .returned r ∧ Own .i64 3 w.heap.size w' r (whereN xs n v) ∧ Kept w w' := by
  obtain ⟨i1, hif1, hy0, hy1, hy2⟩ := info_parts info_i64c
  have hyes := fun q => whereT_yes (xs := xs) (x := v) (q := q)
  have hno := fun q => whereT_no (xs := xs) (x := v) (q := q)
  have hle := whereT_len xs v
  have hall : whereN xs n v = whereT xs v n := rfl
  have h0 : whereT xs v 0 = [] := rfl
  have HYES := Lib.hid hyes
  have HNO := Lib.hid hno
  have HALL := Lib.hid hall
  have H0 := Lib.hid h0
  clear hyes hno hall h0
  generalize whereN xs n v = hv at *
  generalize whereT xs v = ht at *
  have E := fun j w1 => eqCl (cls xs j) v w1
  have ka := kept_alloc (kept_alloc (kept_refl w) (.cells #[.slice A n cap, .int .i64 K] 61)) v.cells
  have hb := blk_new1 w (.cells #[.slice A n cap, .int .i64 K] 61) v.cells
  obtain ⟨v0, v1, v2, v3⟩ := v
  dsimp only [Cl.v, Cl.cells] at ka hb E
  go_enter Tryz.func195, Tryz.ntmps195
  go_wp2_with fail
  generalize hW1 : (w.alloc (.cells #[.slice A n cap, .int .i64 K] 61)).alloc (.cells #[.int .u64 v0, .int .u64 v1, .int .u64 v2, .int .u64 v3] 110) = W1 at *
  have hs1 : W1.heap.size = w.heap.size + 2 := by rw [← hW1]; simp
  have HS1 := Lib.hid hs1
  clear hs1 hW1
  go_loopw [5, 11] (fun v iv wr => ∃ j : Nat, j ≤ n ∧ iv = .int .i64 j ∧ Own .i64 3 W1.heap.size wr v (ht j) ∧ Kept W1 wr) (fun _ iv _ => n - (intOf iv).toNat)
  case atStart => exact ⟨0, Nat.zero_le _, rfl, by rw [H0.out]; exact Own.nil _ _ _ _, kept_refl _⟩
  case round =>
    obtain ⟨j, hj, rfl, hown, hkw⟩ := hrel
    have hbr := blk_kept hkw hb
    have c0 : wr.cell? ⟨w.heap.size + 1, 0, none⟩ = some (.int .u64 v0) := blk_cell hbr 0
    have c1 : wr.cell? ⟨w.heap.size + 1, 1, none⟩ = some (.int .u64 v1) := blk_cell hbr 1
    have c2 : wr.cell? ⟨w.heap.size + 1, 2, none⟩ = some (.int .u64 v2) := blk_cell hbr 2
    have c3 : wr.cell? ⟨w.heap.size + 1, 3, none⟩ = some (.int .u64 v3) := blk_cell hbr 3
    have hlt0 := blk_lt hbr
    by_cases hlt : j < n
    · obtain ⟨ad, rfl, d0, d1, d2, d3⟩ := (hr.kept (kept_trans ka hkw)).cl hl hlt
      have E := E j
      have HY := Lib.hid (HYES.out j)
      have HO := Lib.hid (HNO.out j)
      have hle := hle j
      have hbase := hkw.size
      clear HYES HNO HALL H0 hb hbr
      generalize decide (cls xs j = ⟨v0, v1, v2, v3⟩) = b at *
      generalize cls xs j = x at *
      obtain ⟨x0, x1, x2, x3⟩ := x
      dsimp only [Cl.v] at d0 d1 d2 d3 E
      have kx := kept_alloc hkw (.cells #[.int .u64 x0, .int .u64 x1, .int .u64 x2, .int .u64 x3] 110)
      have ox := hown.kept (kept_alloc (kept_refl wr) (.cells #[.int .u64 x0, .int .u64 x1, .int .u64 x2, .int .u64 x3] 110))
      have hbx := kx.size
      cases b
      · have HN1 := Lib.hid (HO.out (by first | rfl | trivial))
        clear HY HO
        go_wp2_with fail
        exact ⟨⟨j + 1, by omega, by go_num, by rw [HN1.out]; exact ox, kx⟩, by simp [intOf]; omega⟩
      · have HN1 := Lib.hid (HY.out (by first | rfl | trivial))
        clear HY HO
        go_wp2_with (at_builtin; refine app_one Tryz.underlying24 hif1 hy0 hy1 hy2 (by decide) rfl rfl rfl rfl (by simp) ox ?c1 ?c2 kx (Nat.le_refl _) ?_)
        case c1 => omega
        case c2 => exact hbx
        intro v' w5 o5 _ K5
        rw [← HN1.out] at o5
        clear d0 d1 d2 d3 c0 c1 c2 c3 ox kx hown hkw E HN1
        go_wp2_with fail
        exact ⟨⟨j + 1, by omega, by go_num, o5, K5⟩, by simp [intOf]; omega⟩
    · obtain rfl : j = n := by omega
      rw [← HALL.out] at hown
      clear HYES HNO HALL H0 hle c0 c1 c2 c3 hb hbr E
      go_wp2_with fail
      go_ret
      exact ⟨_, rfl, hown.less (by rw [HS1.out]; omega), kept_trans ka hkw⟩
def boundv (xs : List Int) (n : Nat) : Int := (n : Int) - ((whereN xs n fullv).length : Nat)
set_option maxRecDepth 100000 in
set_option maxHeartbeats 4000000 in
theorem bound_c (A : Option Addr) (cap n : Nat) (xs : List Int) (K : Int) (hu : U64 xs) (hl : xs.length = 4 * n) (hn : n ≤ 1000000) (w : World) (hr : Rd .u64 w A xs) : Calls Tryz.prog 146 #[leafV A n cap K] w (Ret (.int .i64 (boundv xs n)) w) := by
  have hle := whereT_len xs fullv n
  have hm := hr.1
  have hb := blk_new w (.cells #[.slice A n cap, .int .i64 K] 61)
  have ka := kept_alloc (kept_refl w) (.cells #[.slice A n cap, .int .i64 K] 61)
  have W := fun w1 h => where_c A cap n xs K fullv hu hl hn w1 h
  have F := fun w1 => full_c w1
  have c0 : (w.alloc (.cells #[.slice A n cap, .int .i64 K] 61)).cell? ⟨w.heap.size, 0, none⟩ = some (.slice A n cap) := blk_cell hb 0
  have c1 : (w.alloc (.cells #[.slice A n cap, .int .i64 K] 61)).cell? ⟨w.heap.size, 1, none⟩ = some (.int .i64 K) := blk_cell hb 1
  unfold boundv
  dsimp only [Cl.v, fullv] at F W
  unfold whereN at W
  unfold whereN
  unfold fullv at hle
  unfold fullv
  generalize whereT xs ⟨18446744073709551615, 18446744073709551615, 18446744073709551615, 18446744073709551615⟩ n = wl at *
  go_enter Tryz.func146, Tryz.ntmps146
  go_wp2_with fail
  generalize w.alloc (.cells #[.slice A n cap, .int .i64 K] 61) = W1 at *
  have kr := kept_refl W1
  go_region_held3 (fun w' => w'.cell? ⟨w.heap.size, 0, none⟩ = some (.slice A n cap) ∧ w'.cell? ⟨w.heap.size, 1, none⟩ = some (.int .i64 K) ∧ Kept W1 w') (first | exact ⟨by assumption, by assumption, kept_drew kr⟩ | exact ⟨kept_cell hk2 c0, kept_cell hk2 c1, hk2⟩ | exact ⟨kept_cell hk1 c0, kept_cell hk1 c1, hk1⟩) (first | (go_at_call 95; refine (F _).mono ?_; rintro e w1 ⟨rfl, hk1⟩; replace hk1 := kept_trans (kept_drew kr) hk1) | (go_at_call 195; refine (W _ (hr.kept (kept_trans ka hk1))).mono ?_; rintro e w2 ⟨r, rfl, ow2, hk2⟩; replace hk2 := kept_trans hk1 hk2; obtain ⟨A2, cp2, rfl, _, _⟩ := ow2.rd))
  go_wp2_with fail
  have hw : IntKind.i64.wrap ((n : Int) - (wl.length : Int)) = (n : Int) - (wl.length : Int) := by rw [IntKind.wrap_i64]; omega
  go_ret
  exact ⟨by show Ending.returned (.int .i64 (IntKind.i64.wrap _)) = _; rw [hw], kept_trans ka (by assumption)⟩
def metv (xs : List Int) (j : Nat) : Bool := decide (cls xs j ∈ fullv :: kindsC xs j)
theorem metv_yes {xs : List Int} {j : Nat} (h : metv xs j = true) : kindsC xs (j + 1) = kindsC xs j := by
  have h := of_decide_eq_true h
  show (if cls xs j = fullv then kindsC xs j else if cls xs j ∈ kindsC xs j then kindsC xs j else _) = _
  by_cases h1 : cls xs j = fullv
  · rw [if_pos h1]
  · rw [if_neg h1, if_pos ((List.mem_cons.1 h).resolve_left h1)]
theorem metv_no {xs : List Int} {j : Nat} (h : metv xs j = false) : kindsC xs (j + 1) = kindsC xs j ++ [cls xs j] := by
  have h := of_decide_eq_false h
  simp only [List.mem_cons, not_or] at h
  show (if cls xs j = fullv then kindsC xs j else if cls xs j ∈ kindsC xs j then kindsC xs j else _) = _
  rw [if_neg h.1, if_neg h.2]
set_option maxRecDepth 100000 in
set_option maxHeartbeats 4000000 in
theorem lkinds_c (A : Option Addr) (cap n : Nat) (xs : List Int) (K : Int) (hu : U64 xs) (hl : xs.length = 4 * n) (hn : n ≤ 1000000) (w : World) (hr : Rd .u64 w A xs) : Calls Tryz.prog 197 #[leafV A n cap K] w fun e w' => ∃ v, e = .returned v ∧ w'.ownsRow w.heap.size 110 4 v (kindsC xs n).length ((flatC (kindsC xs n)).map (Value.int .u64)) ∧ Kept w w' := by
  have hm := hr.1
  have ka := kept_alloc (kept_refl w) (.cells #[.slice A n cap, .int .i64 K] 61)
  have hb := blk_new w (.cells #[.slice A n cap, .int .i64 K] 61)
  have F := fun w1 => full_c w1
  have hM := ClsMap.new (w.alloc (.cells #[.slice A n cap, .int .i64 K] 61))
  have km := kept_alloc ka (.map #[] 0)
  have hsz : ((w.alloc (.cells #[.slice A n cap, .int .i64 K] 61)).alloc (.map #[] 0)).heap.size = w.heap.size + 2 := by simp
  rw [show (w.alloc (.cells #[.slice A n cap, .int .i64 K] 61)).heap.size = w.heap.size + 1 by simp] at hM
  dsimp only [Cl.v, fullv] at F
  have hmm := @run_makeMap Tryz.prog
  go_enter Tryz.func197, Tryz.ntmps197
  go_wp2_with fail
  refine (F _).mono ?_
  rintro e w1 ⟨rfl, hk1⟩
  have hM1 := hM.kept hk1
  have hb1 := blk_kept hk1 (blk_alloc hb (.map #[] 0))
  have k1 := kept_trans km hk1
  have hz1 : w.heap.size + 2 ≤ w1.heap.size := by have := hk1.size; omega
  clear F hM km hk1 hb ka hsz hmm
  go_wp2_with (refine wpList_update_cls fullv rfl (.inr rfl) rfl rfl rfl hM1 (by simp) ?_)
  intro w2 hM2 hg2
  have k2 := kept_grow k1 hg2 (by rintro k h; cases h; omega)
  have hz2 := Nat.le_trans hz1 hg2.size
  have d0 : w2.cell? ⟨w.heap.size, 0, none⟩ = some (.slice A n cap) := blk_cell (grown_blk hg2 hb1 (by simp)) 0
  clear hM1 hb1 k1 hz1 hg2
  go_wp2_with fail
  go_loopw [4, 13] (fun v iv wr => ∃ j : Nat, j ≤ n ∧ iv = .int .i64 j ∧ wr.ownsRow w2.heap.size 110 4 v (kindsC xs j).length ((flatC (kindsC xs j)).map (Value.int .u64)) ∧ ClsMap wr (w.heap.size + 1) (fullv :: kindsC xs j) ∧ Kept w wr ∧ w2.heap.size ≤ wr.heap.size) (fun _ iv _ => n - (intOf iv).toNat)
  case atStart => exact ⟨0, Nat.zero_le _, rfl, World.ownsRow_nil _ _ _ _, hM2, k2, Nat.le_refl _⟩
  case round =>
    clear hM2 k2 d0
    obtain ⟨j, hj, rfl, hown, hMr, hkw, hszr⟩ := hrel
    have hkl := kindsC_le xs j
    by_cases hlt : j < n
    · obtain ⟨ad, rfl, d0, d1, d2, d3⟩ := (hr.kept hkw).cl hl hlt
      have hK1 := metv_yes (xs := xs) (j := j)
      have hK2 := fun h => by have := metv_no (xs := xs) (j := j) h; have h3 := congrArg flatC this; rw [flatC_append] at h3; exact (⟨this, congrArg List.length this, h3⟩ : _ ∧ _ ∧ _)
      rw [List.length_append] at hK2
      have hn1 : metv xs j = false → cls xs j ∉ fullv :: kindsC xs j := fun h => of_decide_eq_false h
      have hd1 : decide (cls xs j ∈ fullv :: kindsC xs j) = metv xs j := rfl
      have HN := Lib.hid hn1
      have HD := Lib.hid hd1
      have HK1 := Lib.hid hK1
      have HK2 := Lib.hid hK2
      clear hK1 hK2 hn1 hd1
      generalize metv xs j = b at *
      generalize cls xs j = x at *
      have kx := kept_alloc hkw x.cells
      have ox := hown.alloc x.cells
      have mx := hMr.kept (kept_alloc (kept_refl wr) x.cells)
      have hbx := blk_new wr x.cells
      have hg1 : w.heap.size + 1 < wr.heap.size := hMr.lt
      obtain ⟨x0, x1, x2, x3⟩ := x
      dsimp only [Cl.v, Cl.cells] at d0 d1 d2 d3 kx ox hbx mx
      have c0 := blk_cell hbx 0
      have c1 := blk_cell hbx 1
      have c2 := blk_cell hbx 2
      have c3 := blk_cell hbx 3
      cases b
      · go_wp2_with (first | (at_lookup; refine wpList_lookup_cls ⟨x0, x1, x2, x3⟩ rfl rfl rfl rfl mx HD.out ?_) | (at_mapUpdate; refine wpList_update_cls ⟨x0, x1, x2, x3⟩ rfl (.inl rfl) rfl rfl rfl mx (HN.out (by first | rfl | trivial)) ?_))
        intro w4 hM4 hg4
        have k4 := kept_grow kx hg4 (by rintro k h; cases h; omega)
        have hb4 := grown_blk hg4 hbx (by simp; omega)
        have o4 := World.ownsRow.kept ox hg4 (.inr (Ne.symm (own_farN ox (by omega))))
        have hs4 := hg4.size
        have hs40 : wr.heap.size + 1 ≤ w4.heap.size := by simpa using hs4
        obtain ⟨q1, q2, q3⟩ := HK2.out (by first | rfl | trivial)
        try rw [List.cons_append] at hM4
        rw [← q1] at hM4
        have Q2 := Lib.hid q2
        have Q3 := Lib.hid q3
        clear q1 q2 q3 HK1 HK2 HN HD mx ox kx hMr hown hkw hg4 hs4 hbx c0 c1 c2 c3 d0 d1 d2 d3
        have c0 : w4.cell? ⟨wr.heap.size, 0, none⟩ = some (.int .u64 x0) := blk_cell hb4 0
        have c1 : w4.cell? ⟨wr.heap.size, 1, none⟩ = some (.int .u64 x1) := blk_cell hb4 1
        have c2 : w4.cell? ⟨wr.heap.size, 2, none⟩ = some (.int .u64 x2) := blk_cell hb4 2
        have c3 : w4.cell? ⟨wr.heap.size, 3, none⟩ = some (.int .u64 x3) := blk_cell hb4 3
        go_wp2_with (at_builtin; refine app_cls (c := ⟨x0, x1, x2, x3⟩) rfl rfl rfl rfl rfl o4 ?c1 ?c2 k4 ?c3 ?_)
        case c1 => omega
        case c2 => omega
        case c3 => omega
        intro v' w5 o5 hg5 k5
        have hM5 := hM4.grown hg5 (own_farN o4 (by omega))
        have hs5 := hg5.size
        have o6 : w5.ownsRow w2.heap.size 110 4 v' (kindsC xs (j + 1)).length ((flatC (kindsC xs (j + 1))).map (Value.int .u64)) := by rw [Q2.out, Q3.out, List.map_append]; exact o5
        clear o5 o4 hg5 k4 hM4 c0 c1 c2 c3 hb4 Q2 Q3
        go_wp2_with fail
        exact ⟨⟨j + 1, by omega, by go_num, o6, hM5, k5, by omega⟩, by simp [intOf]; omega⟩
      · go_wp2_with (at_lookup; refine wpList_lookup_cls ⟨x0, x1, x2, x3⟩ rfl rfl rfl rfl mx HD.out ?_)
        have q1 := HK1.out (by first | rfl | trivial)
        have Q := Lib.hid (⟨q1, ox, mx⟩ : _ ∧ _ ∧ _)
        clear q1 HK1 HK2 HN HD mx ox hMr hown
        exact ⟨⟨j + 1, by omega, by go_num, by rw [Q.out.1]; exact Q.out.2.1, by rw [Q.out.1]; exact Q.out.2.2, kx, by simp; omega⟩, by simp [intOf]; omega⟩
    · obtain rfl : j = n := by omega
      clear hMr
      go_wp2_with fail
      go_ret
      exact ⟨_, rfl, ownsRow_less hown (by omega), hkw⟩
end Go.Proofs.YtdejablhpljdfaaGreat
namespace Go.Proofs.YtdejablhpljdfaaGreat
open Go.RowKit BG
attribute [local go_sem ↓] Go.wp_at_zero Go.wp_at_succ
set_option linter.unusedVariables false
def lettersOk (xs : List Int) (n : Nat) : Bool := (List.range n).all fun j => (sgl (cls xs j)).2
def lettersL (xs : List Int) (n : Nat) : List UInt8 := (List.range n).map fun q => UInt8.ofNat (sgl (cls xs q)).1
def lettersS (xs : List Int) (n : Nat) : ByteArray := if lettersOk xs n = true then ⟨(lettersL xs n).toArray⟩ else ⟨#[]⟩
def sglF (xs : List Int) (q : Nat) : Int := ((sgl (cls xs q)).1 : Nat)
theorem lettersL_len (xs : List Int) (n : Nat) : (lettersL xs n).length = n := by simp [lettersL]
theorem lettersL_at {xs : List Int} {n j : Nat} (hj : j < (lettersL xs n).length) : ((lettersL xs n)[j].toNat : Int) = nth (mk n (sglF xs)) j := by
  have hj' : j < n := by rw [lettersL_len] at hj; exact hj
  have e : (lettersL xs n)[j] = UInt8.ofNat (sgl (cls xs j)).1 := by simp [lettersL]
  rw [e, UInt8.toNat_ofNat', nth_mk hj']
  have := sgl_lt (cls xs j)
  unfold sglF
  omega
theorem lettersOk_no {xs : List Int} {n j : Nat} (hj : j < n) (h : (sgl (cls xs j)).2 = false) : lettersOk xs n = false := by
  unfold lettersOk
  rw [List.all_eq_false]
  exact ⟨j, List.mem_range.2 hj, by simp [h]⟩
theorem lettersOk_yes {xs : List Int} {n : Nat} (h : ∀ j, j < n → (sgl (cls xs j)).2 = true) : lettersOk xs n = true := by
  unfold lettersOk
  rw [List.all_eq_true]
  exact fun j hj => h j (List.mem_range.1 hj)
set_option maxRecDepth 100000 in
set_option maxHeartbeats 4000000 in
theorem letters_c (A : Option Addr) (cap n : Nat) (xs : List Int) (K : Int) (hu : U64 xs) (hl : xs.length = 4 * n) (hn : n ≤ 1000000) (hn1 : 1 ≤ n) (w : World) (hr : Rd .u64 w A xs) : Calls Tryz.prog 141 #[leafV A n cap K] w (Ret (.tuple #[.string (lettersS xs n), .bool (lettersOk xs n)]) w) := by
  obtain ⟨i1, hif1, hy0, hy1, hy2⟩ := info_parts info_u8
  have hm := hr.1
  have ka := kept_alloc (kept_refl w) (.cells #[.slice A n cap, .int .i64 K] 61)
  have hb := blk_new w (.cells #[.slice A n cap, .int .i64 K] 61)
  have S := fun j w1 => single_c (cls xs j) (cls_ok hu j) w1
  have hno := fun j => lettersOk_no (xs := xs) (n := n) (j := j)
  have hyes := lettersOk_yes (xs := xs) (n := n)
  have HNO := Lib.hid hno
  have HYES := Lib.hid hyes
  have HS := Lib.hid (show lettersS xs n = if lettersOk xs n = true then ⟨(lettersL xs n).toArray⟩ else ⟨#[]⟩ from rfl)
  have hs := fun j => mk_succ j (sglF xs)
  have HSU := Lib.hid hs
  clear hno hyes hs
  generalize lettersS xs n = ls at *
  generalize lettersOk xs n = lo at *
  go_enter Tryz.func141, Tryz.ntmps141
  go_wp2_with fail
  go_loopw [4, 12] (fun v iv wr => ∃ j : Nat, j ≤ n ∧ iv = .int .i64 j ∧ Own .u8 5 w.heap.size wr v (mk j (sglF xs)) ∧ Kept w wr ∧ Hid (∀ q, q < j → (sgl (cls xs q)).2 = true)) (fun _ iv _ => n - (intOf iv).toNat)
  case atStart => exact ⟨0, Nat.zero_le _, rfl, Own.nil _ _ _ _, ka, fun q hq => absurd hq (Nat.not_lt_zero q)⟩
  case round =>
    clear hb ka
    obtain ⟨j, hj, rfl, hown, hkw, HQ⟩ := hrel
    by_cases hlt : j < n
    · obtain ⟨ad, rfl, d0, d1, d2, d3⟩ := (hr.kept hkw).cl hl hlt
      have S := S j
      have HN := Lib.hid (HNO.out j hlt)
      have HQ2 : Hid ((sgl (cls xs j)).2 = true → Hid (∀ q, q < j + 1 → (sgl (cls xs q)).2 = true)) := fun ho q hq => by
        rcases Nat.lt_or_ge q j with h | h
        · exact HQ q h
        · obtain rfl : q = j := by omega
          exact ho
      have hsu := HSU.out j
      unfold sglF at hsu
      have HM := Lib.hid hsu
      have hml := mk_length j (sglF xs)
      clear hsu HNO HYES HSU HQ
      have hbase := hkw.size
      have hF : sglF xs = fun q => ((sgl (cls xs q)).1 : Int) := rfl
      have HF := Lib.hid hF
      clear hF
      generalize hsg : sgl (cls xs j) = sg at *
      clear hsg
      generalize hfm : (fun q => ((sgl (cls xs q)).1 : Int)) = ff at *
      clear hfm
      obtain rfl := HF.out
      generalize cls xs j = x at *
      have kx := kept_alloc hkw x.cells
      have ox := hown.kept (kept_alloc (kept_refl wr) x.cells)
      have hbx := blk_new wr x.cells
      obtain ⟨x0, x1, x2, x3⟩ := x
      obtain ⟨s1, s2⟩ := sg
      dsimp only [Cl.v, Cl.cells] at d0 d1 d2 d3 S kx ox hbx
      have c0 := blk_cell hbx 0
      have c1 := blk_cell hbx 1
      have c2 := blk_cell hbx 2
      have c3 := blk_cell hbx 3
      go_wp2_with fail
      refine (S _).mono ?_
      rintro e w1 ⟨rfl, hk1⟩
      replace kx := kept_trans kx hk1
      replace ox := ox.kept hk1
      have hb1 := kx.size
      clear S c0 c1 c2 c3 d0 d1 d2 d3 hbx hk1 hown hkw HF
      cases s2
      · have hlo := HN.out rfl
        subst hlo
        go_wp2_with fail
        go_ret2
        exact ⟨by rw [HS.out]; rfl, kx⟩
      · go_wp2_with (at_builtin; refine app_one Tryz.underlying133 hif1 hy0 hy1 hy2 (by decide) rfl rfl rfl rfl rfl ox ?c1 ?c2 kx (Nat.le_refl _) ?_)
        case c1 => omega
        case c2 => omega
        intro v' w5 o5 _ K5
        rw [← HM.out] at o5
        have HQ3 := HQ2.out (by first | rfl | trivial)
        clear ox kx HM HQ2 HN
        go_wp2_with fail
        exact ⟨⟨j + 1, by omega, by go_num, o5, K5, HQ3⟩, by simp [intOf]; omega⟩
    · obtain rfl : j = n := by omega
      have hlo := HYES.out HQ.out
      subst hlo
      obtain ⟨A2, cp2, rfl, _, _, rd2⟩ := hown.rd
      rw [mk_length] at *
      obtain ⟨ad2, rfl, hc2⟩ := rd2.2 (by rw [mk_length]; omega)
      clear HNO HYES HQ S HSU
      go_wp2_with (refine wpList_str (lettersL xs j) rfl rfl rfl (lettersL_len xs j) (fun q hq => by rw [lettersL_at hq]; exact hc2 q (by rw [mk_length]; rw [lettersL_len] at hq; exact hq)) ?_)
      go_ret2
      exact ⟨by rw [HS.out]; rfl, hkw⟩
end Go.Proofs.YtdejablhpljdfaaGreat
namespace Go.Proofs.YtdejablhpljdfaaGreat
open Go.RowKit BG
attribute [local go_sem ↓] Go.wp_at_zero Go.wp_at_succ
set_option linter.unusedVariables false
def cntW (xs : List Int) (n : Nat) (x : Cl) : Nat := (whereN xs n x).length
theorem cntW_le (xs : List Int) (n : Nat) (x : Cl) : cntW xs n x ≤ n := whereT_len xs x n
def partsF (xs : List Int) (n : Nat) (l : List Cl) : Nat := l.countP fun x => decide (3 ≤ cntW xs n x)
def partsP (xs : List Int) (n : Nat) (l : List Cl) : Nat := (l.map fun x => if 3 ≤ cntW xs n x then 0 else cntW xs n x).sum
theorem parts_bd (xs : List Int) (n : Nat) (l : List Cl) : partsF xs n l ≤ l.length ∧ partsP xs n l ≤ 2 * l.length := by
  refine ⟨List.countP_le_length, ?_⟩
  unfold partsP
  induction l with
  | nil => simp
  | cons a l ih =>
    rw [List.map_cons, List.sum_cons, List.length_cons]
    split <;> omega
theorem parts_step {xs : List Int} {n : Nat} {l : List Cl} {j : Nat} (hj : j < l.length) : partsF xs n (l.take (j + 1)) = partsF xs n (l.take j) + (if 3 ≤ cntW xs n (cls (flatC l) j) then 1 else 0) ∧ partsP xs n (l.take (j + 1)) = partsP xs n (l.take j) + (if 3 ≤ cntW xs n (cls (flatC l) j) then 0 else cntW xs n (cls (flatC l) j)) := by
  rw [flatC_cls l j hj, List.take_succ_eq_append_getElem hj]
  unfold partsF partsP
  rw [List.countP_append, List.map_append, List.sum_append]
  constructor
  · congr 1
    by_cases h : 3 ≤ cntW xs n l[j] <;> simp [h]
  · simp
theorem kinds_u64 {xs : List Int} (hu : U64 xs) : ∀ n, ∀ x ∈ kindsC xs n, x.ok
  | 0 => fun x hx => absurd hx (by simp [kindsC])
  | n + 1 => fun x hx => by
    unfold kindsC at hx
    split at hx
    · exact kinds_u64 hu n x hx
    · split at hx
      · exact kinds_u64 hu n x hx
      · rcases List.mem_append.1 hx with h | h
        · exact kinds_u64 hu n x h
        · rw [List.mem_singleton.1 h]; exact cls_ok hu n
set_option maxRecDepth 100000 in
set_option maxHeartbeats 4000000 in
theorem parts_c (A : Option Addr) (cap n : Nat) (xs : List Int) (K : Int) (hu : U64 xs) (hl : xs.length = 4 * n) (hn : n ≤ 1000000) (w : World) (hr : Rd .u64 w A xs) : Calls Tryz.prog 152 #[leafV A n cap K] w (Ret (.tuple #[.int .i64 (partsF xs n (kindsC xs n) : Nat), .int .i64 (partsP xs n (kindsC xs n) : Nat)]) w) := by
  have hm := hr.1
  have ka := kept_alloc (kept_refl w) (.cells #[.slice A n cap, .int .i64 K] 61)
  have hb := blk_new w (.cells #[.slice A n cap, .int .i64 K] 61)
  have KN := fun w1 h => lkinds_c A cap n xs K hu hl hn w1 h
  have WH := fun v w1 h => where_c A cap n xs K v hu hl hn w1 h
  have hkl := kindsC_le xs n
  have hfl := flatC_length (kindsC xs n)
  have hok := kinds_u64 hu n
  have hst := fun j => parts_step (xs := xs) (n := n) (l := kindsC xs n) (j := j)
  have hbd := fun j => parts_bd xs n ((kindsC xs n).take j)
  have hcw := fun x => cntW_le xs n x
  have hp0 : partsF xs n ((kindsC xs n).take 0) = 0 ∧ partsP xs n ((kindsC xs n).take 0) = 0 := ⟨rfl, rfl⟩
  have hpa : partsF xs n ((kindsC xs n).take (kindsC xs n).length) = partsF xs n (kindsC xs n) ∧ partsP xs n ((kindsC xs n).take (kindsC xs n).length) = partsP xs n (kindsC xs n) := by rw [List.take_length]; exact ⟨rfl, rfl⟩
  have hcl : ∀ x, cntW xs n x = (whereN xs n x).length := fun _ => rfl
  have HST := Lib.hid hst
  have HBD := Lib.hid hbd
  have HP0 := Lib.hid hp0
  have HPA := Lib.hid hpa
  have HCL := Lib.hid hcl
  have HCW := Lib.hid hcw
  clear hst hbd hp0 hpa hcl hcw
  generalize kindsC xs n = ks at *
  generalize hpF : (fun j => partsF xs n (ks.take j)) = pF at *
  generalize hpP : (fun j => partsP xs n (ks.take j)) = pP at *
  replace HST : Hid (∀ j, j < ks.length → pF (j + 1) = pF j + (if 3 ≤ cntW xs n (cls (flatC ks) j) then 1 else 0) ∧ pP (j + 1) = pP j + (if 3 ≤ cntW xs n (cls (flatC ks) j) then 0 else cntW xs n (cls (flatC ks) j))) := by rw [← hpF, ← hpP]; exact Lib.hid fun j => HST.out j
  replace HBD : Hid (∀ j, j ≤ ks.length → pF j ≤ j ∧ pP j ≤ 2 * j) := by rw [← hpF, ← hpP]; exact Lib.hid fun j hj => by have := HBD.out j; rw [List.length_take] at this; dsimp only; omega
  replace HP0 : Hid (pF 0 = 0 ∧ pP 0 = 0) := by rw [← hpF, ← hpP]; exact HP0
  replace HPA : Hid (pF ks.length = partsF xs n ks ∧ pP ks.length = partsP xs n ks) := by rw [← hpF, ← hpP]; exact HPA
  clear hpF hpP
  generalize partsF xs n ks = rF at *
  generalize partsP xs n ks = rP at *
  generalize hmm : ks.length = m at *
  clear hmm hok
  go_enter Tryz.func152, Tryz.ntmps152
  go_wp2_with fail
  refine (KN _ (hr.kept ka)).mono ?_
  rintro e w2 ⟨v2, rfl, own2, hk2⟩
  obtain ⟨A2, cp2, rfl, hc2, rd2⟩ := ownN_rd own2 hfl (by omega)
  replace hb := blk_kept hk2 hb
  replace ka := kept_trans ka hk2
  replace hr := hr.kept ka
  clear own2 hk2 KN
  go_wp2_with fail
  go_loopw [4, 5, 12] (fun f p iv wr => ∃ j : Nat, j ≤ m ∧ iv = .int .i64 j ∧ f = .int .i64 (pF j : Nat) ∧ p = .int .i64 (pP j : Nat) ∧ Kept w2 wr) (fun _ _ iv _ => m - (intOf iv).toNat)
  case atStart => exact ⟨0, Nat.zero_le _, rfl, by rw [HP0.out.1]; rfl, by rw [HP0.out.2]; rfl, kept_refl _⟩
  case round =>
    obtain ⟨j, hj, rfl, rfl, rfl, hkw⟩ := hrel
    obtain ⟨bd1, bd2⟩ := HBD.out j hj
    have hbr := blk_kept hkw hb
    by_cases hlt : j < m
    · obtain ⟨ad, rfl, d0, d1, d2, d3⟩ := (rd2.kept hkw).cl hfl hlt
      have HS := Lib.hid (HST.out j hlt)
      have hcw := HCW.out (cls (flatC ks) j)
      have hcl := HCL.out (cls (flatC ks) j)
      have HC := Lib.hid hcl
      clear hcl HST HBD HP0 HPA HCL HCW
      have WH := WH (cls (flatC ks) j)
      generalize whereN xs n (cls (flatC ks) j) = wl at *
      generalize cntW xs n (cls (flatC ks) j) = cw at *
      generalize cls (flatC ks) j = x at *
      have kx := kept_alloc hkw x.cells
      have hbx := blk_new wr x.cells
      have hb2 := blk_alloc hbr x.cells
      obtain ⟨x0, x1, x2, x3⟩ := x
      dsimp only [Cl.v, Cl.cells] at d0 d1 d2 d3 WH kx hbx hb2
      have c0 := blk_cell hbx 0
      have c1 := blk_cell hbx 1
      have c2 := blk_cell hbx 2
      have c3 := blk_cell hbx 3
      have e0 : (wr.alloc (.cells #[.int .u64 x0, .int .u64 x1, .int .u64 x2, .int .u64 x3] 110)).cell? ⟨w.heap.size, 0, none⟩ = some (.slice A n cap) := blk_cell hb2 0
      have e1 : (wr.alloc (.cells #[.int .u64 x0, .int .u64 x1, .int .u64 x2, .int .u64 x3] 110)).cell? ⟨w.heap.size, 1, none⟩ = some (.int .i64 K) := blk_cell hb2 1
      have hl1 := blk_lt hb2
      go_wp2_with fail
      refine (WH _ (hr.kept kx)).mono ?_
      rintro e w4 ⟨v4, rfl, own4, hk4⟩
      obtain ⟨A4, cp4, rfl, _, _, _⟩ := own4.rd
      replace kx := kept_trans kx hk4
      rw [← HC.out] at *
      clear own4 hk4 WH c0 c1 c2 c3 e0 e1 hbx hb2 hbr d0 d1 d2 d3 hl1 hkw
      by_cases h3 : 3 ≤ cw
      · have hS := HS.out
        rw [if_pos h3, if_pos h3] at hS
        have hS1 := Lib.hid hS
        clear hS HS
        have hd : decide ((3 : Int) ≤ (cw : Int)) = true := decide_eq_true (by omega)
        go_wp2_with fail
        exact ⟨⟨j + 1, by omega, by go_num, by rw [hS1.out.1]; go_num, by rw [hS1.out.2, Nat.add_zero], kx⟩, by simp [intOf]; omega⟩
      · have hS := HS.out
        rw [if_neg h3, if_neg h3] at hS
        have hS1 := Lib.hid hS
        clear hS HS
        have hd : decide ((3 : Int) ≤ (cw : Int)) = false := decide_eq_false (by omega)
        go_wp2_with fail
        exact ⟨⟨j + 1, by omega, by go_num, by rw [hS1.out.1, Nat.add_zero], by rw [hS1.out.2]; go_num, kx⟩, by simp [intOf]; omega⟩
    · obtain rfl : j = m := by omega
      clear hbr HST HBD HP0 HCL HCW WH
      go_wp2_with fail
      go_ret2
      exact ⟨by rw [← HPA.out.1, ← HPA.out.2]; rfl, kept_trans ka hkw⟩
end Go.Proofs.YtdejablhpljdfaaGreat
namespace Go.Proofs.YtdejablhpljdfaaGreat
open Go.RowKit BG
attribute [local go_sem ↓] Go.wp_at_zero Go.wp_at_succ
set_option linter.unusedVariables false
theorem count_mono (p : Nat → Bool) {j n : Nat} (h : j ≤ n) : (List.range j).countP p ≤ (List.range n).countP p := by
  induction n with
  | zero => rw [show j = 0 by omega]; exact Nat.le_refl _
  | succ n ih =>
    rcases Nat.lt_or_ge j (n + 1) with h1 | h1
    · have := ih (by omega)
      rw [count_succ]
      omega
    · rw [show j = n + 1 by omega]; exact Nat.le_refl _
def missM (xs : List Int) (n : Nat) (s : ByteArray) (i most : Nat) : Nat := min (missv xs n s i) (most + 1)
set_option maxRecDepth 100000 in
set_option maxHeartbeats 4000000 in
theorem misses_c (A : Option Addr) (cap n : Nat) (xs : List Int) (K : Int) (s : ByteArray) (i most : Nat) (hu : U64 xs) (hl : xs.length = 4 * n) (hn : n ≤ 1000000) (hi : i + n ≤ s.size) (hsz : s.size ≤ 1000000) (hmo : most ≤ 1000000) (w : World) (hr : Rd .u64 w A xs) : Calls Tryz.prog 140 #[leafV A n cap K, .string s, .int .i64 (i : Nat), .int .i64 (most : Nat)] w (Ret (.int .i64 (missM xs n s i most : Nat)) w) := by
  have hm := hr.1
  have hb := blk_new w (.cells #[.slice A n cap, .int .i64 K] 61)
  have ka := kept_alloc (kept_refl w) (.cells #[.slice A n cap, .int .i64 K] 61)
  have H := fun j b hb w1 => has_c (cls xs j) (cls_ok hu j) b hb w1
  have hcs := fun j => count_succ (misses xs s i) j
  have hcm := fun j (h : j ≤ n) => count_mono (misses xs s i) h
  have hmv : missM xs n s i most = min ((List.range n).countP (misses xs s i)) (most + 1) := rfl
  have hmi : ∀ j, misses xs s i j = !hasv (cls xs j) (byteAt s (i + j)) := fun _ => rfl
  have HCS := Lib.hid hcs
  have HCM := Lib.hid hcm
  have HMV := Lib.hid hmv
  have HMI := Lib.hid hmi
  clear hcs hcm hmv hmi
  generalize missM xs n s i most = mv at *
  generalize misses xs s i = ms at *
  go_enter Tryz.func140, Tryz.ntmps140
  go_wp2_with fail
  go_step3
  go_wp2_with fail
  go_step3
  go_wp2_with fail
  go_loopw [9, 15] (fun v iv wr => ∃ j : Nat, j ≤ n ∧ iv = .int .i64 j ∧ v = .int .i64 (((List.range j).countP ms : Nat) : Int) ∧ (List.range j).countP ms ≤ most ∧ Kept w wr) (fun _ iv _ => n - (intOf iv).toNat)
  case atStart => exact ⟨0, Nat.zero_le _, rfl, rfl, Nat.zero_le _, ka⟩
  case round =>
    clear hb ka
    obtain ⟨j, hj, rfl, rfl, hq, hkw⟩ := hrel
    by_cases hlt : j < n
    · obtain ⟨ad, hA, d0, d1, d2, d3⟩ := (hr.kept hkw).cl hl hlt
      have hij : i + j < s.size := by omega
      have hbt := byteAt_eq hij
      have H := H j (byteAt s (i + j)) (byteAt_lt s _)
      have hcs := HCS.out j
      rw [HMI.out j] at hcs
      have hcm := HCM.out (j + 1) hlt
      have HB := Lib.hid hcs
      have HC := Lib.hid hcm
      subst hA
      clear hcs hcm HCS HCM HMI
      generalize hasv (cls xs j) (byteAt s (i + j)) = y at *
      generalize byteAt s (i + j) = bb at *
      generalize cls xs j = x at *
      generalize (List.range j).countP ms = q at *
      have kx := kept_alloc hkw x.cells
      have hbx := blk_new wr x.cells
      obtain ⟨x0, x1, x2, x3⟩ := x
      dsimp only [Cl.v, Cl.cells] at d0 d1 d2 d3 H kx hbx
      have c0 := blk_cell hbx 0
      have c1 := blk_cell hbx 1
      have c2 := blk_cell hbx 2
      have c3 := blk_cell hbx 3
      have hx1 : 0 ≤ (i : Int) + (j : Int) := by omega
      have hx2 : (i : Int) + (j : Int) < (s.size : Int) := by omega
      have hx3 : ((i : Int) + (j : Int)).toNat = i + j := by omega
      go_wp2_with fail
      have ls_0 := fun s => kw_cell s c0
      have ls_1 := fun s => kw_cell s c1
      have ls_2 := fun s => kw_cell s c2
      have ls_3 := fun s => kw_cell s c3
      refine wp_region_kept (by kernel_rfl) (by kernel_rfl) ?_
      repeat (first | go_big_quiet_skip | (go_big_quiet_want; go_big_quiet_op; first | go_big_quiet_on | (apply Exists.intro; refine ⟨fun s => ?_, ?_⟩; (first | (go_at_call 93; exact call_kept (H _))); go_big_quiet_on)))
      refine wpQuiet_nil ?_
      rintro w7 ⟨⟨_, hk7⟩, rfl⟩
      replace hkw := kept_trans kx hk7
      clear ls_0 ls_1 ls_2 ls_3 c0 c1 c2 c3 d0 d1 d2 d3 H hbt hx1 hx2 hx3 hbx kx hk7
      cases y
      · have hB := HB.out
        rw [Bool.not_false, if_pos rfl] at hB
        have HB1 := Lib.hid hB
        have HMV2 := HMV
        clear HB hB
        by_cases hmx : q + 1 ≤ most
        · have hd : decide ((most : Int) < (q : Int) + 1) = false := decide_eq_false (by omega)
          go_wp2_with fail
          exact ⟨⟨j + 1, by omega, by go_num, by rw [HB1.out]; go_num, by rw [HB1.out]; exact hmx, hkw⟩, by simp [intOf]; omega⟩
        · have hd : decide ((most : Int) < (q : Int) + 1) = true := decide_eq_true (by omega)
          go_wp2_with fail
          try rw [Exit.noGoto_ret]
          go_ret
          exact ⟨by rw [HMV.out, show min ((List.range n).countP ms) (most + 1) = q + 1 by have := HC.out; rw [HB1.out] at this; omega]; rfl, hkw⟩
      · have hB := HB.out
        rw [Bool.not_true, if_neg (by decide), Nat.add_zero] at hB
        have HB1 := Lib.hid hB
        clear HB hB
        have hd : decide ((most : Int) < (q : Int)) = false := decide_eq_false (by omega)
        go_wp2_with fail
        exact ⟨⟨j + 1, by omega, by go_num, by rw [HB1.out]; rfl, by rw [HB1.out]; exact hq, hkw⟩, by simp [intOf]; omega⟩
    · obtain rfl : j = n := by omega
      have HQ := Lib.hid hq
      clear HCS HCM HMI H hq
      go_wp2_with fail
      try rw [Exit.noGoto_ret]
      go_ret
      exact ⟨by rw [HMV.out, show min ((List.range j).countP ms) (most + 1) = (List.range j).countP ms by have := HQ.out; omega]; rfl, hkw⟩
set_option maxRecDepth 100000 in
set_option maxHeartbeats 4000000 in
theorem hits_c (A : Option Addr) (cap : Nat) (ys : List Int) (k : Int) (hlen : ys.length ≤ 1000000) (w : World) (hr : Rd .i64 w A ys) : Calls Tryz.prog 144 #[.slice A ys.length cap, .int .i64 k] w fun e w' => ∃ v, e = .returned v ∧ (Own .i64 3 w.heap.size w' v (hitsv ys k) ∧ Kept w w') := by
  obtain ⟨i1, hif1, hy0, hy1, hy2⟩ := info_parts info_i64c
  have hyes := fun q => hitsT_yes (ys := ys) (k := k) (q := q)
  have hno := fun q => hitsT_no (ys := ys) (k := k) (q := q)
  have hle := hitsT_len ys k
  have hall : hitsv ys k = hitsT ys k ys.length := rfl
  have h0 : hitsT ys k 0 = [] := rfl
  have HYES := Lib.hid hyes
  have HNO := Lib.hid hno
  have HALL := Lib.hid hall
  have H0 := Lib.hid h0
  clear hyes hno hall h0
  generalize hitsv ys k = hv at *
  generalize hitsT ys k = ht at *
  generalize hn : ys.length = n at *
  have HN := Lib.hid hn
  clear hn
  go_enter Tryz.func144, Tryz.ntmps144
  go_wp2_with fail
  go_loopw [5, 10] (fun v iv wr => ∃ i : Nat, i ≤ n ∧ iv = .int .i64 i ∧ Own .i64 3 w.heap.size wr v (ht i) ∧ Kept w wr) (fun _ iv _ => n - (intOf iv).toNat)
  case atStart => exact ⟨0, Nat.zero_le _, rfl, by rw [H0.out]; exact Own.nil _ _ _ _, kept_refl _⟩
  case round =>
    obtain ⟨i, hi, rfl, hown, hkw⟩ := hrel
    by_cases hlt : i < n
    · obtain ⟨ad, rfl, c0⟩ := (hr.kept hkw).at_ (j := i) (by rw [HN.out]; exact hlt)
      have hyes := HYES.out i
      have hno := HNO.out i
      have hle := hle i
      have hbase := hkw.size
      have HY := Lib.hid hyes
      have HO := Lib.hid hno
      clear hyes hno HYES HNO HALL H0
      generalize nth ys i = y at *
      by_cases hy : y ≤ k
      · have HN1 := Lib.hid (HY.out hy)
        have hyd : decide (y ≤ k) = true := decide_eq_true hy
        have hown2 : World.ownsRow _ _ _ _ _ _ _ := hown
        clear HY HO
        go_wp2_with (at_builtin; refine wpList_append_own _ rfl _ _ 24 rfl w.heap.size 3 i1 (.int .i64 0) 1 8 Tryz.underlying24 hif1 hy0 hy1 hy2 rfl (by decide) _ _ _ rfl (hown2.alloc _) ⟨wr.heap.size, 0, none⟩ 1 1 [.int .i64 (i : Nat)] rfl rfl ?c1 ?c2 ?c3 ?c4 ?c5 ?_)
        case c1 =>
          intro q u hq
          match q, hq with
          | 0, hq => simp at hq; subst hq; simp [Addr.add]
        case c2 => intro u hu; simp at hu; subst hu; rfl
        case c3 => unfold maxLen; omega
        case c4 => omega
        case c5 => simp; omega
        · intro v' w5 hown' hgrow _
          have o5 := own_snoc hown'
          rw [← HN1.out] at o5
          have K5 := kept_grown (kept_alloc hkw _) (hown2.alloc _) (Nat.le_refl _) hgrow
          clear hown' hgrow hown2 hown c0
          go_wp2_with fail
          exact ⟨⟨i + 1, by omega, by go_num, o5, K5⟩, by simp [intOf]; omega⟩
      · have hyd : decide (y ≤ k) = false := decide_eq_false hy
        have HN1 := Lib.hid (HO.out (by omega))
        clear HY HO
        go_wp2_with fail
        exact ⟨⟨i + 1, by omega, by go_num, by rw [HN1.out]; exact hown, hkw⟩, by simp [intOf]; omega⟩
    · obtain rfl : i = n := by omega
      rw [← HALL.out] at hown
      clear HYES HNO HALL H0 hle
      go_wp2_with fail
      go_ret
      exact ⟨_, rfl, hown, hkw⟩
end Go.Proofs.YtdejablhpljdfaaGreat
