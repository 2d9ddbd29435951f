/-
  Layer 5's statements: the walks.
-/
import Derived.Test.YthjedgniedpkfaaLaw05
import Derived.Laws.AppendOwnNone
import Derived.Deep.AppendLies
namespace Go.Proofs.Ythjedgniedpkfaa
open Go.RowKit BG
attribute [local go_sem ↓] Go.wp_at_zero Go.wp_at_succ
set_option linter.unusedVariables false

theorem wpList_append_all {P : Program} {w : World} {ops : Array Oper} {rest : List Oper} {o : Oper} {a : Act} {Q : Exit → Act → World → Prop} (hgd : o.guard = none) (s x : Operand) (t : TypeId)
    (ho : o.op = .call { callee := .builtin .append, args := #[s, x], argTypes := #[t, t] })
    (base : Nat) (e : TypeId) (i : TypeInfo) (z : Value) (bytes : Nat) (ht : P.underlying t = some (.slice e)) (hi : P.info? e = some i) (hz : i.zero = some z)
    (hsize : i.size = 1) (hby : i.bytes = bytes) (hzs : z.cells.size = 1)
    (v : Value) (n : Nat) (xs : List Value) (hs : a.eval s = v) (hown : w.ownsRow base e 1 v n xs)
    (k : IntKind) (A : Option Addr) (m c : Nat) (ys : List Int) (hl : ys.length = m) (hx : a.eval x = .slice A m c) (hr : Rd k w A ys) (hnone : A = none → c = 0)
    (h63 : n + m ≤ maxLen) (hbytes : (n + m) * bytes ≤ 140737488355328) (hbase : base ≤ w.heap.size)
    (h : ∀ v' w', w'.ownsRow base e 1 v' (n + m) (xs ++ ys.map (Value.int k)) → w.grownBy w' v.ownBlock → wpList P ops Q rest (a.put o.dst v') w') : wpList P ops Q (o :: rest) a w := by
  subst hl
  cases A with
  | none =>
    have hy : ys = [] := by
      cases ys with
      | nil => rfl
      | cons y ys => obtain ⟨ad, e, _⟩ := hr.2 (by simp); cases e
    subst hy
    have hc := hnone rfl
    subst hc
    refine wpList_append_own_none hgd s x t ho base e i 1 ht hi v n xs hs hown hx (h v w ?_ (World.grownBy.refl _ _))
    rw [List.map_nil, List.append_nil, List.length_nil, Nat.add_zero]
    exact hown
  | some ad =>
    exact wpList_append_own w hgd s x t ho base e i z 1 bytes ht hi hz hsize hby hzs (by decide) v n xs hs hown ad ys.length c (ys.map (Value.int k)) hx (by simp) (rd_cells hr) (cells_one _ _) h63 hbytes hbase fun v' w' h1 h2 _ => h v' w' h1 h2
set_option maxRecDepth 100000 in
set_option maxHeartbeats 4000000 in
theorem blockCorrelates_w (A B : Option Addr) (ca cb : Nat) (ps ts : List Int) (size : Int) (hu : U64 ps) (hv : U64 ts) (hcb : ts.length ≤ cb) (hna : A = none → ca = 0) (hnb : B = none → cb = 0) (w : World) (hr : Rd .u64 w A ps) (hs : Rd .u64 w B ts) : Calls Try.prog 6 #[.slice A ps.length ca, .slice B ts.length cb, .int .i64 size] w (Ret (.bool true) w) := by
  have hm := hr.1
  have hm2 := hs.1
  obtain ⟨i1, hif1, hy0, hy1, hy2⟩ := info_parts info_u64
  have FW := few5_c A B ca cb ps.length ts.length hm hm2
  by_cases h : ps.length ≤ 300 ∧ ts.length ≤ 2000
  · rw [show few5 ps.length ts.length = true by unfold few5; simp [h.1, h.2]] at FW
    have P1 := fun w1 a b => correlate_c5 A B ca cb ps ts size hu hv (by omega) (by omega) hcb w1 a b
    have P2 := fun w1 a b => rcorrelate_c5 A B ca cb ps ts size hu hv (by omega) (by omega) w1 a b
    have hw0 : ∀ w0 : World, (w0.alloc (.cells #[] 40)).ownsRow w0.heap.size 40 1 (.slice (some ⟨w0.heap.size, 0, none⟩) 0 0) 0 [] := fun w0 => World.ownsRow_lit w0 #[] 0 (Nat.le_refl _) (by decide) rfl
    generalize bval ps ts size = pv at *
    generalize bcnt ps ts size = pc at *
    generalize berrv ps ts size = pe at *
    have HL1 := Lib.hid (rfl : ps.length = ps.length)
    have hl1 := h.1
    have hl2 := h.2
    generalize hM : ps.length = m at *
    have HM := Lib.hid hM
    clear hM
    generalize hN : ts.length = n at *
    have HN := Lib.hid hN
    clear hN h
    go_enter Try.func6, Try.ntmps6
    go_wp2_with fail
    refine (FW _).mono ?_
    rintro e w0 ⟨rfl, hk0⟩
    clear FW
    go_wp2_with (at_builtin; refine wpList_append_all rfl _ _ 22 rfl w0.heap.size 40 i1 (.int .u64 0) 8 Try.underlying22 hif1 hy0 hy1 hy2 rfl (.slice (some ⟨w0.heap.size, 0, none⟩) 0 0) 0 [] rfl (hw0 w0) .u64 A m ca ps HM.out rfl ((hr.kept hk0).kept (kept_alloc (kept_refl w0) _)) hna (by unfold maxLen; omega) (by omega) (by simp) ?_)
    intro v1 w1 hown1 hgrow1
    have o1 : Own .u64 40 w0.heap.size w1 v1 ps := by unfold Own; rw [HM.out]; simpa using hown1
    have hk1 := kept_trans hk0 (kept_grown (kept_alloc (kept_refl w0) (.cells #[] 40)) (hw0 w0) (Nat.le_refl _) hgrow1)
    clear hown1 hgrow1 hk0
    obtain ⟨A1, c1, rfl, _, _, r1⟩ := o1.rd
    rw [HM.out]
    clear o1
    go_wp2_with (at_builtin; refine wpList_append_all rfl _ _ 22 rfl w1.heap.size 40 i1 (.int .u64 0) 8 Try.underlying22 hif1 hy0 hy1 hy2 rfl (.slice (some ⟨w1.heap.size, 0, none⟩) 0 0) 0 [] rfl (hw0 w1) .u64 B n cb ts HN.out rfl ((hs.kept hk1).kept (kept_alloc (kept_refl w1) _)) hnb (by unfold maxLen; omega) (by omega) (by simp) ?_)
    intro v2 w2 hown2 hgrow2
    have o2 : Own .u64 40 w1.heap.size w2 v2 ts := by unfold Own; rw [HN.out]; simpa using hown2
    have hk12 := kept_grown (kept_alloc (kept_refl w1) (.cells #[] 40)) (hw0 w1) (Nat.le_refl _) hgrow2
    have hk := kept_trans hk1 hk12
    replace r1 := r1.kept hk12
    clear hown2 hgrow2 hk1 hk12 hw0
    obtain ⟨A2, c2, rfl, _, _, r2⟩ := o2.rd
    rw [HN.out]
    clear o2
    have P1 := P1 w2 (hr.kept hk) (hs.kept hk)
    go_wp2_with fail
    refine P1.mono ?_
    rintro e w3 ⟨A3, c3, rfl, r3, hk3, _, _⟩
    clear P1
    have P2 := P2 w3 ((hr.kept hk).kept hk3) ((hs.kept hk).kept hk3)
    go_wp2_with fail
    refine P2.mono ?_
    rintro e w4 ⟨A4, c4, rfl, r4, hk4, _, _⟩
    clear P2
    go_wp2_with fail
    refine (alive05_c _).mono ?_
    rintro e w5 ⟨rfl, hk5⟩
    have k35 := kept_trans hk3 (kept_trans hk4 hk5)
    replace r1 := r1.kept k35
    replace r2 := r2.kept k35
    replace r3 := r3.kept (kept_trans hk4 hk5)
    replace r4 := r4.kept hk5
    replace hk := kept_trans hk k35
    clear hk3 hk4 hk5 k35
    have S := same_c A3 A4 c3 c4 pv pv w5 r3 r4
    rw [sameL_refl] at S
    go_wp2_with fail
    refine S.mono ?_
    rintro e w6 ⟨rfl, hk6⟩
    clear S r3 r4
    replace hk := kept_trans hk hk6
    have S := same_c A A1 ca c1 ps ps w6 (hr.kept hk) (r1.kept hk6)
    rw [sameL_refl, HM.out] at S
    go_wp2_with fail
    refine S.mono ?_
    rintro e w7 ⟨rfl, hk7⟩
    clear S
    have S := same_c B A2 cb c2 ts ts w7 ((hs.kept hk).kept hk7) ((r2.kept hk6).kept hk7)
    rw [sameL_refl, HN.out] at S
    go_wp2_with fail
    refine S.mono ?_
    rintro e w8 ⟨rfl, hk8⟩
    clear S
    go_wp2_with fail
    go_ret
    exact ⟨rfl, kept_trans hk (kept_trans hk7 hk8)⟩
  · rw [show few5 ps.length ts.length = false by unfold few5; simp; omega] at FW
    clear h
    go_enter Try.func6, Try.ntmps6
    go_wp2_with fail
    refine (FW _).mono ?_
    rintro e w0 ⟨rfl, hk0⟩
    go_wp2_with fail
    refine (alive05_c _).mono ?_
    rintro e w1 ⟨rfl, hk1⟩
    go_wp2_with fail
    go_ret
    exact ⟨rfl, kept_trans hk0 hk1⟩
theorem berrv_cases {ps ts : List Int} {size : Int} (h : berrv ps ts size = 0) : bval ps ts size = if slb ps.length ts.length = true then slidev (nth ps) (nth ts) ps.length ts.length else [] := by
  by_cases hs : slb ps.length ts.length = true
  · rw [if_pos hs]; exact (bval_good ⟨h, hs⟩).1
  · rw [if_neg hs]; exact (bval_bad fun h => hs h.2).1
theorem bval_size {ps ts : List Int} {s1 s2 : Int} (h1 : berrv ps ts s1 = 0) (h2 : berrv ps ts s2 = 0) : bval ps ts s1 = bval ps ts s2 := by rw [berrv_cases h1, berrv_cases h2]
set_option maxRecDepth 100000 in
set_option maxHeartbeats 4000000 in
theorem blockSizes_w (A B : Option Addr) (ca cb : Nat) (ps ts : List Int) (z1 z2 : Int) (hu : U64 ps) (hv : U64 ts) (hcb : ts.length ≤ cb) (w : World) (hr : Rd .u64 w A ps) (hs : Rd .u64 w B ts) : Calls Try.prog 7 #[.slice A ps.length ca, .slice B ts.length cb, .agg #[.int .i64 z1, .int .i64 z2]] w (Ret (.bool true) w) := by
  have hm := hr.1
  have hm2 := hs.1
  have FW := few5_c A B ca cb ps.length ts.length hm hm2
  have hcsz := blk_new w (.cells #[.int .i64 z1, .int .i64 z2] 34)
  have c0 : (w.alloc (.cells #[.int .i64 z1, .int .i64 z2] 34)).cell? ⟨w.heap.size, 0, none⟩ = some (.int .i64 z1) := blk_cell hcsz 0
  have c1 : (w.alloc (.cells #[.int .i64 z1, .int .i64 z2] 34)).cell? ⟨w.heap.size, 1, none⟩ = some (.int .i64 z2) := blk_cell hcsz 1
  have ka := kept_alloc (kept_refl w) (.cells #[.int .i64 z1, .int .i64 z2] 34)
  clear hcsz
  by_cases h : ps.length ≤ 300 ∧ ts.length ≤ 2000
  · rw [show few5 ps.length ts.length = true by unfold few5; simp [h.1, h.2]] at FW
    have P1 := fun w1 a b => correlate_c5 A B ca cb ps ts z1 hu hv (by omega) (by omega) hcb w1 a b
    have P2 := fun w1 a b => correlate_c5 A B ca cb ps ts z2 hu hv (by omega) (by omega) hcb w1 a b
    have hb := bval_size (ps := ps) (ts := ts) (s1 := z1) (s2 := z2)
    generalize bval ps ts z1 = v1 at *
    generalize bcnt ps ts z1 = n1 at *
    generalize berrv ps ts z1 = e1 at *
    generalize bval ps ts z2 = v2 at *
    generalize bcnt ps ts z2 = n2 at *
    generalize berrv ps ts z2 = e2 at *
    have HB := Lib.hid hb
    clear hb
    go_enter Try.func7, Try.ntmps7
    go_wp2_with fail
    generalize w.alloc (.cells #[.int .i64 z1, .int .i64 z2] 34) = wa at *
    refine (FW _).mono ?_
    rintro e w0 ⟨rfl, hk0⟩
    have hk := kept_trans ka hk0
    replace c0 := kept_cell hk0 c0
    replace c1 := kept_cell hk0 c1
    clear hk0 ka FW
    have P1 := P1 w0 (hr.kept hk) (hs.kept hk)
    go_wp2_with fail
    refine P1.mono ?_
    rintro e w1 ⟨A1, k1, rfl, r1, hk1, _, _⟩
    clear P1 c0
    replace c1 := kept_cell hk1 c1
    replace hk := kept_trans hk hk1
    have P2 := P2 w1 (hr.kept hk) (hs.kept hk)
    go_wp2_with fail
    refine P2.mono ?_
    rintro e w2 ⟨A2, k2, rfl, r2, hk2, _, _⟩
    clear P2 c1
    replace r1 := r1.kept hk2
    replace hk := kept_trans hk hk2
    go_wp2_with fail
    refine (alive05_c _).mono ?_
    rintro e w3 ⟨rfl, hk3⟩
    replace r1 := r1.kept hk3
    replace r2 := r2.kept hk3
    replace hk := kept_trans hk hk3
    clear hk1 hk2 hk3
    by_cases h1 : e1 = 0
    · by_cases h2 : e2 = 0
      · have hb := HB.out h1 h2
        subst hb
        subst h1 h2
        have S := same_c A1 A2 k1 k2 v1 v1 w3 r1 r2
        rw [sameL_refl] at S
        go_wp2_with fail
        refine S.mono ?_
        rintro e w4 ⟨rfl, hk4⟩
        clear S
        go_wp2_with fail
        go_ret
        exact ⟨rfl, kept_trans hk hk4⟩
      · have hn2 : (e2 == 0) = false := beq_eq_false_iff_ne.2 h2
        subst h1
        go_wp2_with fail
        go_ret
        exact ⟨rfl, hk⟩
    · have hn1 : (e1 == 0) = false := beq_eq_false_iff_ne.2 h1
      go_wp2_with fail
      go_ret
      exact ⟨rfl, hk⟩
  · rw [show few5 ps.length ts.length = false by unfold few5; simp; omega] at FW
    clear h c0 c1
    go_enter Try.func7, Try.ntmps7
    go_wp2_with fail
    generalize w.alloc (.cells #[.int .i64 z1, .int .i64 z2] 34) = wa at *
    refine (FW _).mono ?_
    rintro e w0 ⟨rfl, hk0⟩
    go_wp2_with fail
    refine (alive05_c _).mono ?_
    rintro e w1 ⟨rfl, hk1⟩
    go_wp2_with fail
    go_ret
    exact ⟨rfl, kept_trans ka (kept_trans hk0 hk1)⟩
theorem corr_same {ps ts : List Int} {size : Int} (h1 : berrv ps ts size = 0) (h2 : corrErr ps ts = 0) : bval ps ts size = corrv ps ts := by
  rw [berrv_cases h1]
  by_cases hs : slb ps.length ts.length = true
  · have : 1 ≤ (ps.length : Int) ∧ (ps.length : Int) ≤ ts.length := of_decide_eq_true hs
    rw [if_pos hs, corrv_good (by omega) (by omega) h2]
  · have : ¬ (1 ≤ (ps.length : Int) ∧ (ps.length : Int) ≤ ts.length) := fun h => hs (decide_eq_true h)
    rw [if_neg hs, (corrv_nil (by omega)).1]
theorem corr_big {ps ts : List Int} {size : Int} (h : corrErr ps ts = 40) : berrv ps ts size ≠ 0 := by
  have h0 : ¬ (ps.length = 0 ∨ ts.length < ps.length) := fun h0 => by
    unfold corrErr at h; rw [if_pos h0] at h; exact absurd h (by decide)
  rw [corr_err (by omega) (by omega)] at h
  have hl : ¬ 4097 < ps.length + ts.length := fun hl => by
    unfold cerr at h; rw [if_pos hl] at h; exact absurd h (by decide)
  rw [cerr_of _ _ _ _ hl, show min ps.length ts.length = ps.length by omega] at h
  have hs : slb ps.length ts.length = true := decide_eq_true (by omega)
  unfold berrv berr
  rw [if_pos hs]
  by_cases hz : szb ps.length size = true
  · rw [if_pos hz]
    cases h4 : ovr (greatest ps) (greatest ts)
    · rw [h4] at h
      cases h5 : ovr (greatest ps * greatest ts) ps.length
      · rw [h5] at h; exact absurd h (by decide)
      · rw [if_neg (by decide), if_pos rfl]; decide
    · rw [if_pos rfl]; decide
  · rw [if_neg hz]; decide
set_option maxRecDepth 100000 in
set_option maxHeartbeats 4000000 in
theorem blockConv_w (A B : Option Addr) (ca cb : Nat) (ps ts : List Int) (size : Int) (hu : U64 ps) (hv : U64 ts) (hcb : ts.length ≤ cb) (w : World) (hr : Rd .u64 w A ps) (hs : Rd .u64 w B ts) : Calls Try.prog 9 #[.slice A ps.length ca, .slice B ts.length cb, .int .i64 size] w (Ret (.bool true) w) := by
  have hm := hr.1
  have hm2 := hs.1
  have FW := few5_c A B ca cb ps.length ts.length hm hm2
  by_cases h : ps.length ≤ 300 ∧ ts.length ≤ 2000
  · rw [show few5 ps.length ts.length = true by unfold few5; simp [h.1, h.2]] at FW
    have P1 := fun w1 a b => correlate_c5 A B ca cb ps ts size hu hv (by omega) (by omega) hcb w1 a b
    have P2 := fun w1 a b => correlate_c A B ca cb ps ts hu hv (by omega) (by omega) w1 a b
    have hb1 := corr_same (ps := ps) (ts := ts) (size := size)
    have hb2 := corr_big (ps := ps) (ts := ts) (size := size)
    generalize bval ps ts size = v1 at *
    generalize bcnt ps ts size = n1 at *
    generalize berrv ps ts size = e1 at *
    generalize corrv ps ts = v2 at *
    generalize corrErr ps ts = e2 at *
    have HB1 := Lib.hid hb1
    have HB2 := Lib.hid hb2
    clear hb1 hb2
    go_enter Try.func9, Try.ntmps9
    go_wp2_with fail
    refine (FW _).mono ?_
    rintro e w0 ⟨rfl, hk⟩
    clear FW
    have P1 := P1 w0 (hr.kept hk) (hs.kept hk)
    go_wp2_with fail
    refine P1.mono ?_
    rintro e w1 ⟨A1, k1, rfl, r1, hk1, _, _⟩
    clear P1
    replace hk := kept_trans hk hk1
    have P2 := P2 w1 (hr.kept hk) (hs.kept hk)
    go_wp2_with fail
    refine P2.mono ?_
    rintro e w2 ⟨A2, k2, rfl, r2, hk2, _, _⟩
    clear P2
    replace r1 := r1.kept hk2
    replace hk := kept_trans hk hk2
    go_wp2_with fail
    refine (alive05_c _).mono ?_
    rintro e w3 ⟨rfl, hk3⟩
    replace r1 := r1.kept hk3
    replace r2 := r2.kept hk3
    replace hk := kept_trans hk hk3
    clear hk1 hk2 hk3
    by_cases h1 : e1 = 0
    · have hn40 : e2 ≠ 40 := fun h2 => HB2.out h2 h1
      have hq40 : (e2 == 40) = false := beq_eq_false_iff_ne.2 hn40
      have hr40 : (e2 != 40) = true := bne_iff_ne.2 hn40
      by_cases h2 : e2 = 0
      · have hb := HB1.out h1 h2
        subst hb
        subst h1 h2
        clear hn40 hq40 hr40
        have S := same_c A1 A2 k1 k2 v1 v1 w3 r1 r2
        rw [sameL_refl] at S
        go_wp2_with fail
        refine S.mono ?_
        rintro e w4 ⟨rfl, hk4⟩
        clear S
        go_wp2_with fail
        go_ret
        exact ⟨rfl, kept_trans hk hk4⟩
      · have hn2 : (e2 == 0) = false := beq_eq_false_iff_ne.2 h2
        subst h1
        go_wp2_with fail
        go_ret
        exact ⟨rfl, hk⟩
    · have hn1 : (e1 == 0) = false := beq_eq_false_iff_ne.2 h1
      by_cases h4 : e2 = 40
      · subst h4
        go_wp2_with fail
        go_ret
        exact ⟨by simp [h1], hk⟩
      · have hq40 : (e2 == 40) = false := beq_eq_false_iff_ne.2 h4
        go_wp2_with fail
        go_ret
        exact ⟨rfl, hk⟩
  · rw [show few5 ps.length ts.length = false by unfold few5; simp; omega] at FW
    clear h
    go_enter Try.func9, Try.ntmps9
    go_wp2_with fail
    refine (FW _).mono ?_
    rintro e w0 ⟨rfl, hk0⟩
    go_wp2_with fail
    refine (alive05_c _).mono ?_
    rintro e w1 ⟨rfl, hk1⟩
    go_wp2_with fail
    go_ret
    exact ⟨rfl, kept_trans hk0 hk1⟩
end Go.Proofs.Ythjedgniedpkfaa
