/-
  Layer 5's statements: the walks.
-/
import Derived.Test.YthjedgniedpkfaaLaw05b
import Derived.Laws.AppendOwnNone
import Derived.ArgAppend
import Derived.Deep.AppendLies
namespace Go.Proofs.Ythjedgniedpkfaa
open Go.RowKit BG
attribute [local go_sem ↓] Go.wp_at_zero Go.wp_at_succ
set_option linter.unusedVariables false

theorem ovr_iff {x y : Int} (hx : 0 ≤ x) : ovr x y = decide (18446744073709551615 < x * y) := by
  unfold ovr
  by_cases h0 : x = 0
  · subst h0; simp
  · have hp : 0 < x := by omega
    have : 18446744073709551615 / x < y ↔ 18446744073709551615 < x * y := by rw [Int.mul_comm]; exact Int.ediv_lt_iff_lt_mul hp
    simp [h0, this]
theorem grT_append (f g : Nat → Int) : ∀ n, (∀ j, j < n → f j = g j) → grT f n = grT g n := by
  intro n
  induction n with
  | zero => intro _; rfl
  | succ n ih =>
    intro h
    unfold grT
    rw [ih fun j hj => h j (by omega), h n (Nat.lt_succ_self n)]
theorem grT_mono (f : Nat → Int) {n m : Nat} (h : n ≤ m) : grT f n ≤ grT f m := grT_le (grT_nonneg f m) (f := fun j => if j < n then f j else 0) (m := grT f m) (fun j => by
    split
    · exact le_grT (by omega)
    · exact grT_nonneg f m) n |> fun h2 => by
  rwa [grT_append (fun j => if j < n then f j else 0) f n fun j hj => if_pos hj] at h2
theorem greatest_more (ts ms : List Int) : greatest ts ≤ greatest (ts ++ ms) := by
  unfold greatest
  rw [grT_append (nth ts) (nth (ts ++ ms)) ts.length fun j hj => (nth_append_l hj).symm]
  exact grT_mono _ (by simp)
theorem ovr_mono {x y y' : Int} (h : y ≤ y') (h2 : ovr x y' = false) : ovr x y = false := by
  unfold ovr at *
  rw [decide_eq_false_iff_not] at *
  intro hh
  exact h2 ⟨hh.1, by omega⟩
theorem more_law {ps ts ms : List Int} {f : Int} (hu : U64 ps) (hv : U64 ts) (hx : U64 ms) (h1 : 1 ≤ ps.length) (h2 : ps.length ≤ ts.length) (hs : szb ps.length f = true) (h : berrv ps (ts ++ ms) f = 0) :
    berrv ps ts f = 0 ∧ bval ps ts f = slidev (nth ps) (nth ts) ps.length ts.length ∧ (bval ps ts f).length = ts.length - ps.length + 1 ∧ (bval ps (ts ++ ms) f).length = ts.length - ps.length + 1 + ms.length ∧ ∀ j, j < ts.length - ps.length + 1 → nth (bval ps ts f) j = nth (bval ps (ts ++ ms) f) j := by
  have hl : (ts ++ ms).length = ts.length + ms.length := List.length_append
  have s1 : slb ps.length ts.length = true := decide_eq_true (by omega)
  have s2 : slb ps.length (ts ++ ms).length = true := decide_eq_true (by rw [hl]; omega)
  have e1 : berrv ps ts f = 0 := by
    unfold berrv berr at h ⊢
    rw [if_pos s2, if_pos hs] at h
    rw [if_pos s1, if_pos hs]
    cases h4 : ovr (greatest ps) (greatest (ts ++ ms))
    · rw [h4, if_neg (by decide)] at h
      cases h5 : ovr (greatest ps * greatest (ts ++ ms)) ps.length
      · rw [ovr_mono (greatest_more ts ms) h4, if_neg (by decide)]
        have g1 := (greatest_bd hu).1
        have g2 := (greatest_bd hv).1
        have g3 := greatest_more ts ms
        have n1 := ovr_no (Int.mul_nonneg g1 (by omega)) (by omega) h5
        have : greatest ps * greatest ts * (ps.length : Int) ≤ 18446744073709551615 := Int.le_trans (Int.mul_le_mul_of_nonneg_right (Int.mul_le_mul_of_nonneg_left g3 g1) (by omega)) n1
        rw [show ovr (greatest ps * greatest ts) ps.length = false by rw [ovr_iff (Int.mul_nonneg g1 g2)]; exact decide_eq_false (by omega), if_neg (by decide)]
      · rw [h5, if_pos rfl] at h; exact absurd h (by decide)
    · rw [h4, if_pos rfl] at h; exact absurd h (by decide)
  have b1 : bval ps ts f = slidev (nth ps) (nth ts) ps.length ts.length := (bval_good ⟨e1, s1⟩).1
  have b2 : bval ps (ts ++ ms) f = slidev (nth ps) (nth (ts ++ ms)) ps.length (ts ++ ms).length := (bval_good ⟨h, s2⟩).1
  refine ⟨e1, b1, by rw [b1]; exact mk_length _ _, ?_, ?_⟩
  · rw [b2]
    unfold slidev
    rw [mk_length, hl]
    omega
  · intro j hj
    rw [b1, b2]
    unfold slidev
    rw [nth_mk hj, nth_mk (by rw [hl]; omega)]
    congr 1
    unfold sl
    refine sumTo_congr fun i hi => ?_
    rw [nth_append_l (by omega)]
theorem fit_size {m n : Int} (h : fitv m n ≠ 0) : szb m (fitv m n) = true := by
  have := fitv_count h
  unfold countv at this
  split at this
  · rename_i hh; exact hh.2
  · exact absurd this (by decide)
theorem u64_app {xs ys : List Int} (hu : U64 xs) (hv : U64 ys) : U64 (xs ++ ys) := by
  refine u64_all fun z hz => ?_
  rw [List.mem_append] at hz
  rcases hz with hz | hz
  · obtain ⟨j, hj, rfl⟩ := List.mem_iff_getElem.1 hz
    have := hu j
    rwa [nth_lt hj] at this
  · obtain ⟨j, hj, rfl⟩ := List.mem_iff_getElem.1 hz
    have := hv j
    rwa [nth_lt hj] at this
theorem run_append_nothing {P : Program} (w : World) (t ty e : TypeId) (i : TypeInfo) (ht : P.underlying t = some (.slice e)) (hi : P.info? e = some i) (A : Option Addr) (n c : Nat) (hle : n ≤ c) (C : Option Addr) (c2 : Nat) :
    (Builtin.append_ #[t, t] ty #[.slice A n c, .slice C 0 c2]).run P w = .ok (.slice A n c) w := by
  have hl : ∀ ad, (loadCells ad 0).run P w = .ok #[] w := fun ad => by simp [loadCells, loadCellsFrom]
  cases A <;> cases C <;> simp [Builtin.append_, run_underlying ht, sizeOf, typeInfo, hi, Builtin.lenOf, Builtin.firstCells, hle, hl, storeCells]
theorem wpList_append_nothing {P : Program} {w : World} {ops : Array Oper} {rest : List Oper} {o : Oper} {a : Act} {Q : Exit → Act → World → Prop} (hgd : o.guard = none) (s x : Operand) (t : TypeId)
    (ho : o.op = .call { callee := .builtin .append, args := #[s, x], argTypes := #[t, t] })
    (e : TypeId) (i : TypeInfo) (ht : P.underlying t = some (.slice e)) (hi : P.info? e = some i) (A : Option Addr) (n c : Nat) (hle : n ≤ c) (C : Option Addr) (c2 : Nat)
    (hs : a.eval s = .slice A n c) (hx : a.eval x = .slice C 0 c2)
    (h : wpList P ops Q rest (a.put o.dst (.slice A n c)) w) : wpList P ops Q (o :: rest) a w := by
  refine wpList_plain hgd fun K hK => ?_
  have hrun := run_append_nothing (P := P) w t o.type e i ht hi A n c hle C c2
  unfold Oper.wp
  simp [execOp, ho, resolve, invoke, builtin, hs, hx, hrun, Result.andThen]
  exact hK _ _ h
set_option maxRecDepth 100000 in
set_option maxHeartbeats 8000000 in
theorem blockMore_w (A B C : Option Addr) (ca cb cc : Nat) (ps ts ms : List Int) (hu : U64 ps) (hv : U64 ts) (hx : U64 ms) (hcb : ts.length ≤ cb) (w : World) (hr : Rd .u64 w A ps) (hs : Rd .u64 w B ts) (ht : Rd .u64 w C ms) : Calls Try.prog 8 #[.slice A ps.length ca, .slice B ts.length cb, .slice C ms.length cc] w (Ret (.bool true) w) := by
  have hm := hr.1
  have hm2 := hs.1
  have hm3 := ht.1
  obtain ⟨i1, hif1, hy0, hy1, hy2⟩ := info_parts info_u64
  have FW := few5_c A B ca cb ps.length ts.length hm hm2
  by_cases h : ps.length ≤ 300 ∧ ts.length ≤ 2000
  · rw [show few5 ps.length ts.length = true by unfold few5; simp [h.1, h.2]] at FW
    by_cases hg : ms.length ≤ 500 ∧ 1 ≤ ps.length ∧ ps.length ≤ ts.length
    · obtain ⟨h3, h1, h2⟩ := hg
      have FI := fit_c ps.length ts.length
      have hf : fitv ps.length ts.length ≠ 0 := fun h => by have := (fitv_zero ps.length ts.length).1 h; omega
      have hsz := fit_size hf
      generalize fitv ps.length ts.length = f at *
      have P1 := fun w1 a b => correlate_c5 A B ca cb ps ts f hu hv (by omega) (by omega) hcb w1 a b
      have P2 := fun X c w1 a b d => correlate_c5 A X ca c ps (ts ++ ms) f hu (u64_app hv hx) (by omega) (by rw [List.length_append]; omega) d w1 a b
      have ML := more_law (ms := ms) (f := f) hu hv hx h1 h2 hsz
      have SL := fun w1 a b => slide_c A B ca cb ps ts (by omega) (by omega) h2 (by omega) w1 a b
      have hlm : (ts ++ ms).length = ts.length + ms.length := List.length_append
      rw [hlm] at P2
      generalize slidev (nth ps) (nth ts) ps.length ts.length = sv at *
      generalize bval ps ts f = v1 at *
      generalize bcnt ps ts f = n1 at *
      generalize berrv ps ts f = e1 at *
      generalize bval ps (ts ++ ms) f = v2 at *
      generalize bcnt ps (ts ++ ms) f = n2 at *
      generalize berrv ps (ts ++ ms) f = e2 at *
      have HML := Lib.hid ML
      have HLM := Lib.hid hlm
      obtain ⟨bd, rfl, _⟩ := hs.at_ (j := 0) (by omega)
      have l1 := h.1
      have l2 := h.2
      clear ML hlm hsz h
      generalize hM : ps.length = m at *
      have HM := Lib.hid hM
      clear hM
      generalize hN : ts.length = n at *
      have HN := Lib.hid hN
      clear hN
      generalize hK : ms.length = k at *
      have HK := Lib.hid hK
      clear hK
      have hb1 : ((m : Int) == 0) = false := beq_eq_false_iff_ne.2 (by omega)
      have hb2 : decide ((n : Int) < (m : Int)) = false := decide_eq_false (by omega)
      have hb3 : decide (500 < (k : Int)) = false := decide_eq_false (by omega)
      go_enter Try.func8, Try.ntmps8
      go_wp2_with fail
      refine (FW _).mono ?_
      rintro e w0 ⟨rfl, hk0⟩
      clear FW
      go_wp2_with fail
      refine (FI _).mono ?_
      rintro e w1 ⟨rfl, hk1⟩
      have hk := kept_trans hk0 hk1
      clear FI hk0 hk1
      have P1 := P1 w1 (hr.kept hk) (hs.kept hk)
      go_wp2_with fail
      refine P1.mono ?_
      rintro e w2 ⟨A1, c1, rfl, r1, hk2, _, _⟩
      replace hk := kept_trans hk hk2
      have rs := hs.kept hk
      have rm := ht.kept hk
      clear P1 hk2
      rcases Nat.eq_zero_or_pos k with h0 | h0
      · subst h0
        have hms : ms = [] := List.length_eq_zero_iff.1 HK.out
        go_wp2_with (at_builtin; refine wpList_append_nothing rfl _ _ 22 rfl 40 i1 Try.underlying22 hif1 (some bd) n n (Nat.le_refl _) C cc rfl rfl ?_)
        have rX : Rd .u64 w2 (some bd) (ts ++ ms) := by rw [hms, List.append_nil]; exact rs
        have P2 := P2 (some bd) n w2 (hr.kept hk) rX (by omega)
        rw [Nat.add_zero] at P2
        clear rX hms
        go_wp2_with fail
        refine P2.mono ?_
        rintro e w4 ⟨A2, c2, rfl, r2, hk4, _, _⟩
        clear P2 rs rm
        replace hk := kept_trans hk hk4
        replace r1 := r1.kept hk4
        clear hk4
        by_cases he2 : e2 = 0
        · obtain ⟨e0, q1, q2, q3, q4⟩ := HML.out he2
          subst he2 e0
          have H1 := Lib.hid q1
          have H2 := Lib.hid q2
          have H3 := Lib.hid q3
          have H4 := Lib.hid q4
          clear q1 q2 q3 q4 HML
          go_wp2_with fail
          refine (alive05_c _).mono ?_
          rintro e w5 ⟨rfl, hk5⟩
          replace hk := kept_trans hk hk5
          replace r1 := r1.kept hk5
          replace r2 := r2.kept hk5
          clear hk5
          obtain ⟨a2, rfl, _⟩ := r2.at_ (j := 0) (by rw [H3.out]; omega)
          have hc2 : n - m + 1 + 0 ≤ c2 := by rename_i u1 u2; have := H3.out; omega
          rw [H2.out, H3.out]
          have rP : Rd .u64 w5 (some a2) v1 := r2.pre (by rw [H2.out, H3.out]; omega) (fun j hj => by rw [H2.out] at hj; exact H4.out j hj)
          have S := same_c (some a2) A1 c2 c1 v1 v1 w5 rP r1
          rw [sameL_refl, H2.out] at S
          generalize hq : n - m + 1 = q at *
          have HQ := Lib.hid hq
          clear hq
          go_wp2_with fail
          refine S.mono ?_
          rintro e w6 ⟨rfl, hk6⟩
          clear S rP
          replace hk := kept_trans hk hk6
          replace r1 := r1.kept hk6
          have SL := SL w6 (hr.kept hk) (hs.kept hk)
          go_wp2_with fail
          refine SL.mono ?_
          rintro e w7 ⟨v7, rfl, o7, hk7⟩
          clear SL
          rw [← H1.out] at o7
          obtain ⟨A7, c7, rfl, _, _, r7⟩ := o7.rd
          rw [H2.out]
          have S := same_c A1 A7 c1 c7 v1 v1 w7 (r1.kept hk7) r7
          rw [sameL_refl, H2.out] at S
          clear o7
          go_wp2_with fail
          refine S.mono ?_
          rintro e w8 ⟨rfl, hk8⟩
          clear S
          go_wp2_with fail
          go_ret
          exact ⟨rfl, kept_trans hk (kept_trans hk7 hk8)⟩
        · have hn2 : (e2 != 0) = true := bne_iff_ne.2 he2
          go_wp2_with fail
          refine (alive05_c _).mono ?_
          rintro e w5 ⟨rfl, hk5⟩
          go_wp2_with fail
          go_ret
          exact ⟨rfl, kept_trans hk hk5⟩
      · obtain ⟨cd, rfl, _⟩ := ht.at_ (j := 0) (by have := HK.out; omega)
        go_wp2_with (at_builtin; refine wpList_append_grows _ rfl _ _ 22 rfl 40 i1 (.int .u64 0) 1 8 Try.underlying22 hif1 hy0 hy1 hy2 rfl (by decide) (some bd) n n (ts.map (Value.int .u64)) rfl (fun h => by cases h) (by rw [List.length_map, HN.out]; omega) (fun b e => by cases e; exact rd_cells rs) cd k cc (ms.map (Value.int .u64)) rfl (by rw [List.length_map, HK.out]; omega) (rd_cells rm) (cells_one _ _) (by omega) (by unfold maxLen; omega) (by omega) ?_)
        intro v3 w3 hown3 hgrow3
        have o3 : Own .u64 40 w2.heap.size w3 v3 (ts ++ ms) := by
          unfold Own
          rw [HLM.out, List.map_append]
          exact hown3
        have hk3 : Kept w2 w3 := (kept_refl w2).grown hgrow3 (Nat.le_refl _) (fun k h => by cases h)
        clear hown3 hgrow3
        obtain ⟨X3, c3, rfl, l3, _, r3⟩ := o3.rd
        rw [HLM.out] at l3 ⊢
        replace hk := kept_trans hk hk3
        replace r1 := r1.kept hk3
        have P2 := P2 X3 c3 w3 (hr.kept hk) r3 l3
        clear o3 r3 hk3
        go_wp2_with fail
        refine P2.mono ?_
        rintro e w4 ⟨A2, c2, rfl, r2, hk4, _, _⟩
        clear P2 rs rm
        replace hk := kept_trans hk hk4
        replace r1 := r1.kept hk4
        clear hk4
        by_cases he2 : e2 = 0
        · obtain ⟨e0, q1, q2, q3, q4⟩ := HML.out he2
          subst he2 e0
          have H1 := Lib.hid q1
          have H2 := Lib.hid q2
          have H3 := Lib.hid q3
          have H4 := Lib.hid q4
          clear q1 q2 q3 q4 HML
          go_wp2_with fail
          refine (alive05_c _).mono ?_
          rintro e w5 ⟨rfl, hk5⟩
          replace hk := kept_trans hk hk5
          replace r1 := r1.kept hk5
          replace r2 := r2.kept hk5
          clear hk5
          obtain ⟨a2, rfl, _⟩ := r2.at_ (j := 0) (by rw [H3.out]; omega)
          have hc2 : n - m + 1 + k ≤ c2 := by rename_i u1 u2; have := H3.out; omega
          rw [H2.out, H3.out]
          have rP : Rd .u64 w5 (some a2) v1 := r2.pre (by rw [H2.out, H3.out]; omega) (fun j hj => by rw [H2.out] at hj; exact H4.out j hj)
          have S := same_c (some a2) A1 c2 c1 v1 v1 w5 rP r1
          rw [sameL_refl, H2.out] at S
          generalize hq : n - m + 1 = q at *
          have HQ := Lib.hid hq
          clear hq
          go_wp2_with fail
          refine S.mono ?_
          rintro e w6 ⟨rfl, hk6⟩
          clear S rP
          replace hk := kept_trans hk hk6
          replace r1 := r1.kept hk6
          have SL := SL w6 (hr.kept hk) (hs.kept hk)
          go_wp2_with fail
          refine SL.mono ?_
          rintro e w7 ⟨v7, rfl, o7, hk7⟩
          clear SL
          rw [← H1.out] at o7
          obtain ⟨A7, c7, rfl, _, _, r7⟩ := o7.rd
          rw [H2.out]
          have S := same_c A1 A7 c1 c7 v1 v1 w7 (r1.kept hk7) r7
          rw [sameL_refl, H2.out] at S
          clear o7
          go_wp2_with fail
          refine S.mono ?_
          rintro e w8 ⟨rfl, hk8⟩
          clear S
          go_wp2_with fail
          go_ret
          exact ⟨rfl, kept_trans hk (kept_trans hk7 hk8)⟩
        · have hn2 : (e2 != 0) = true := bne_iff_ne.2 he2
          go_wp2_with fail
          refine (alive05_c _).mono ?_
          rintro e w5 ⟨rfl, hk5⟩
          go_wp2_with fail
          go_ret
          exact ⟨rfl, kept_trans hk hk5⟩
    · by_cases g1 : 500 < ms.length
      · have g1' : (500 : Int) < (ms.length : Int) := by omega
        clear hg h
        go_enter Try.func8, Try.ntmps8
        go_wp2_with fail
        refine (FW _).mono ?_
        rintro e w0 ⟨rfl, hk0⟩
        go_wp2_with fail
        refine (alive05_c _).mono ?_
        rintro e w1 ⟨rfl, hk1⟩
        go_wp2_with fail
        go_ret
        exact ⟨rfl, kept_trans hk0 hk1⟩
      · by_cases g2 : ps.length = 0
        · have g2' : ((ps.length : Int) == 0) = true := by rw [g2]; rfl
          have g1' : decide ((500 : Int) < (ms.length : Int)) = false := decide_eq_false (by omega)
          generalize ps.length = m at *
          clear hg h g2
          go_enter Try.func8, Try.ntmps8
          go_wp2_with fail
          refine (FW _).mono ?_
          rintro e w0 ⟨rfl, hk0⟩
          go_wp2_with fail
          refine (alive05_c _).mono ?_
          rintro e w1 ⟨rfl, hk1⟩
          go_wp2_with fail
          go_ret
          exact ⟨rfl, kept_trans hk0 hk1⟩
        · have g3' : ts.length < ps.length := by omega
          have g2' : ((ps.length : Int) == 0) = false := beq_eq_false_iff_ne.2 (by omega)
          have g1' : decide ((500 : Int) < (ms.length : Int)) = false := decide_eq_false (by omega)
          clear hg h g2
          go_enter Try.func8, Try.ntmps8
          go_wp2_with fail
          refine (FW _).mono ?_
          rintro e w0 ⟨rfl, hk0⟩
          go_wp2_with fail
          refine (alive05_c _).mono ?_
          rintro e w1 ⟨rfl, hk1⟩
          go_wp2_with fail
          go_ret
          exact ⟨rfl, kept_trans hk0 hk1⟩
  · rw [show few5 ps.length ts.length = false by unfold few5; simp; omega] at FW
    clear h
    go_enter Try.func8, Try.ntmps8
    go_wp2_with fail
    refine (FW _).mono ?_
    rintro e w0 ⟨rfl, hk0⟩
    go_wp2_with fail
    refine (alive05_c _).mono ?_
    rintro e w1 ⟨rfl, hk1⟩
    go_wp2_with fail
    go_ret
    exact ⟨rfl, kept_trans hk0 hk1⟩
end Go.Proofs.Ythjedgniedpkfaa
