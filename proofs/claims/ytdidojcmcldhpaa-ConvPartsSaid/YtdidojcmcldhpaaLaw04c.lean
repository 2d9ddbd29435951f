/-
  Layer 4's statements: the walks.
-/
import Derived.Test.YtdidojcmcldhpaaLaw04b
import Derived.Laws.AppendOwnNone
namespace Go.Proofs.Ytdidojcmcldhpaa
open Go.RowKit BG
attribute [local go_sem ↓] Go.wp_at_zero Go.wp_at_succ
set_option linter.unusedVariables false

set_option maxRecDepth 100000 in
set_option maxHeartbeats 4000000 in
theorem convParts_w (A B : Option Addr) (ca cb : Nat) (ps ts : List Int) (hu : U64 ps) (hv : U64 ts) (hnone : A = none → ca = 0) (w : World) (hr : Rd .u64 w A ps) (hs : Rd .u64 w B ts) : Calls Try.prog 9 #[.slice A ps.length ca, .slice B ts.length cb] w (Ret (.bool true) w) := by
  have hm := hr.1
  have hm2 := hs.1
  obtain ⟨i1, hif1, hy0, hy1, hy2⟩ := info_parts info_u64
  have FW := few_c A B ca cb ps.length ts.length hm hm2
  by_cases h : ps.length ≤ 300 ∧ ts.length ≤ 300
  · rw [show fewv ps.length ts.length = true by unfold fewv; simp [h.1, h.2]] at FW
    have C := fun w1 a b => correlate_c A B ca cb ps ts hu hv (by omega) (by omega) w1 a b
    have hbl := backv_length ps
    have SC := fun X c w1 a b => school_c B X cb c ts (backv ps) hv (u64_back hu) (by omega) (by rw [hbl]; omega) w1 a b
    rw [hbl, pval_swap (u64_back hu) hv, perr_swap (u64_back hu) hv] at SC
    have hw0 : ∀ w0 : World, (w0.alloc (.cells #[] 26)).ownsRow w0.heap.size 26 1 (.slice (some ⟨w0.heap.size, 0, none⟩) 0 0) 0 [] := fun w0 => World.ownsRow_lit w0 #[] 0 (Nat.le_refl _) (by decide) rfl
    cases A with
    | none =>
      obtain rfl : ca = 0 := hnone rfl
      obtain rfl : ps = [] := by
        cases ps with
        | nil => rfl
        | cons x xs => obtain ⟨ad, e, _⟩ := hr.2 (by simp); cases e
      obtain ⟨e1, e2⟩ := corrv_nil (ps := []) (ts := ts) (.inl rfl)
      rw [e1, e2] at C
      generalize pval (backv []) ts = pv at *
      generalize perr (backv []) ts = pe at *
      clear e1 e2
      go_enter Try.func9, Try.ntmps9
      go_wp2_with fail
      refine (FW _).mono ?_
      rintro e w0 ⟨rfl, hk0⟩
      go_wp2_with (at_builtin; refine wpList_append_own_none rfl _ _ 22 rfl w0.heap.size 26 i1 1 Try.underlying22 hif1 (.slice (some ⟨w0.heap.size, 0, none⟩) 0 0) 0 [] rfl (hw0 w0) rfl ?_)
      have hk1 := kept_trans hk0 (kept_alloc (kept_refl w0) (.cells #[] 26))
      generalize w0.alloc (.cells #[] 26) = w1 at *
      have C := C w1 (hr.kept hk1) (hs.kept hk1)
      go_wp2_with fail
      refine C.mono ?_
      rintro e w2 ⟨A2, c2, rfl, r2, hk2, _, _⟩
      clear C
      have hk := kept_trans hk1 hk2
      go_wp2_with fail
      refine wp_loop_rounds 1 ?_
      rw [rounds_succ]
      have SC := SC none 0 w2 (hs.kept hk) (Rd.nil _ _ _)
      go_wp2_with fail
      refine SC.mono ?_
      rintro e w3 ⟨A3, c3, rfl, r3, hk3, _, _⟩
      clear SC
      go_wp2_with fail
      refine (alive04_c _).mono ?_
      rintro e w4 ⟨rfl, hk4⟩
      go_wp2_with fail
      go_ret
      exact ⟨rfl, kept_trans hk (kept_trans hk3 hk4)⟩
    | some ad =>
      clear hnone
      have hbs : ∀ q, (mk (q + 1) fun j => nth ps (ps.length - 1 - j)) = (mk q fun j => nth ps (ps.length - 1 - j)) ++ [nth ps (ps.length - 1 - q)] := fun q => mk_succ _ _
      have hbm : (mk ps.length fun j => nth ps (ps.length - 1 - j)) = backv ps := rfl
      by_cases h0 : ps.length = 0
      · obtain ⟨e1, e2⟩ := corrv_nil (ts := ts) (.inl h0)
        rw [e1, e2] at C
        have H0 := Lib.hid h0
        clear e1 e2 h0
        generalize backv ps = bk at *
        generalize hla : ps.length = m at *
        have HM := Lib.hid hla
        clear hla
        generalize hlb : ts.length = n at *
        have HNN := Lib.hid hlb
        clear hlb
        go_enter Try.func9, Try.ntmps9
        go_wp2_with fail
        refine (FW _).mono ?_
        rintro e w0 ⟨rfl, hk0⟩
        clear FW
        go_wp2_with (at_builtin; refine wpList_append_own _ rfl _ _ 22 rfl w0.heap.size 26 i1 (.int .u64 0) 1 8 Try.underlying22 hif1 hy0 hy1 hy2 rfl (by decide) (.slice (some ⟨w0.heap.size, 0, none⟩) 0 0) 0 [] rfl (hw0 w0) ad m ca (ps.map (Value.int .u64)) rfl (by rw [List.length_map, HM.out]; omega) (rd_cells ((hr.kept hk0).kept (kept_alloc (kept_refl w0) _))) (cells_one _ _) (by unfold maxLen; omega) (by omega) (by simp) ?_)
        intro v w1 hown1 hgrow _
        try rw [List.nil_append] at hown1
        try rw [Nat.zero_add] at hown1
        have hown : Own .u64 26 w0.heap.size w1 v ps := by unfold Own; rw [HM.out]; exact hown1
        have hk1 := kept_trans hk0 (kept_grown (kept_alloc (kept_refl w0) (.cells #[] 26)) (hw0 w0) (Nat.le_refl _) hgrow)
        clear hown1 hgrow hk0 hw0
        obtain ⟨A1, c1, rfl, _, _, r1⟩ := hown.rd
        rw [HM.out]
        clear hown
        have C := C w1 (hr.kept hk1) (hs.kept hk1)
        go_wp2_with fail
        refine C.mono ?_
        rintro e w2 ⟨A2, c2, rfl, r2, hk2, _, _⟩
        clear C
        replace r1 := r1.kept hk2
        have hk := kept_trans hk1 hk2
        clear hk1 hk2
        go_wp2_with fail
        go_loopw [8, 28] (fun v iv wr => ∃ q : Nat, q ≤ m ∧ iv = .int .i64 q ∧ Own .u64 26 w2.heap.size wr v (mk q fun j => nth ps (m - 1 - j)) ∧ Kept w2 wr) (fun _ iv _ => m - (intOf iv).toNat)
        case atStart => exact ⟨0, Nat.zero_le _, rfl, Own.nil _ _ _ _, kept_refl _⟩
        case round =>
          obtain ⟨q, hq, rfl, hown, hkx⟩ := hrel
          by_cases hlt : q < m
          · obtain ⟨ad', e, c0⟩ := ((hr.kept hk).kept hkx).at_ (j := m - 1 - q) (by have := HM.out; omega)
            cases e
            have hd : (m : Int) - 1 - (q : Int) = ((m - 1 - q : Nat) : Int) := by omega
            have hdl : m - 1 - q < m := by omega
            have hown2 : World.ownsRow _ _ _ _ _ _ _ := hown
            rw [mk_length] at hown2
            have hbase := hkx.size
            generalize hx : nth ps (m - 1 - q) = x at *
            have HXX := Lib.hid hx
            clear hx
            generalize hdd : m - 1 - q = d at *
            have HDD := Lib.hid hdd
            clear hdd hown
            go_wp2_with (at_builtin; refine wpList_append_own _ rfl _ _ 22 rfl w2.heap.size 26 i1 (.int .u64 0) 1 8 Try.underlying22 hif1 hy0 hy1 hy2 rfl (by decide) _ _ _ rfl (hown2.alloc _) ⟨wr.heap.size, 0, none⟩ 1 1 [.int .u64 x] rfl rfl ?c1 ?c2 ?c3 ?c4 ?c5 ?_)
            case c1 =>
              intro q u hq
              match q, hq with
              | 0, hq => simp at hq; subst hq; simp [Addr.add]
            case c2 => intro u hu; simp at hu; subst hu; rfl
            case c3 => unfold maxLen; omega
            case c4 => omega
            case c5 => simp; omega
            · intro v' w5 hown' hgrow _
              have R : Own .u64 26 w2.heap.size w5 v' (mk (q + 1) fun j => nth ps (m - 1 - j)) := by
                refine Own.appended (f := fun j => nth ps (m - 1 - j)) ?_
                show World.ownsRow _ _ _ _ _ _ (_ ++ [Value.int .u64 (nth ps (m - 1 - q))])
                rw [HDD.out, HXX.out]
                exact hown'
              have K := kept_grown (kept_alloc hkx _) (hown2.alloc _) (Nat.le_refl _) hgrow
              clear hown' hgrow hown2
              go_wp2_with fail
              exact ⟨⟨q + 1, by omega, by go_num, R, K⟩, by simp [intOf]; omega⟩
          · obtain rfl : m = q := by omega
            rw [hbm] at hown
            obtain ⟨A4, c4, rfl, _, _, r4⟩ := hown.rd
            rw [hbl]
            clear hown
            replace r1 := r1.kept hkx
            replace r2 := r2.kept hkx
            replace hk := kept_trans hk hkx
            have SC := SC A4 c4 wr (hs.kept hk) r4
            clear hkx r4
            go_wp2_with fail
            refine SC.mono ?_
            rintro e w5 ⟨A5, c5, rfl, r5, hk5, hlc5, huc5⟩
            clear SC
            have hg0 : ((m : Int) == 0) = true := by rw [H0.out]; rfl
            go_wp2_with fail
            refine (alive04_c _).mono ?_
            rintro e w6 ⟨rfl, hk6⟩
            go_wp2_with fail
            go_ret
            exact ⟨rfl, kept_trans hk (kept_trans hk5 hk6)⟩
      · by_cases h1 : ts.length < ps.length
        · obtain ⟨e1, e2⟩ := corrv_nil (.inr h1)
          rw [e1, e2] at C
          clear e1 e2
          have hg0 := beq_zero _ h0
          generalize backv ps = bk at *
          generalize hla : ps.length = m at *
          have HM := Lib.hid hla
          clear hla
          generalize hlb : ts.length = n at *
          have HNN := Lib.hid hlb
          clear hlb
          go_enter Try.func9, Try.ntmps9
          go_wp2_with fail
          refine (FW _).mono ?_
          rintro e w0 ⟨rfl, hk0⟩
          clear FW
          go_wp2_with (at_builtin; refine wpList_append_own _ rfl _ _ 22 rfl w0.heap.size 26 i1 (.int .u64 0) 1 8 Try.underlying22 hif1 hy0 hy1 hy2 rfl (by decide) (.slice (some ⟨w0.heap.size, 0, none⟩) 0 0) 0 [] rfl (hw0 w0) ad m ca (ps.map (Value.int .u64)) rfl (by rw [List.length_map, HM.out]; omega) (rd_cells ((hr.kept hk0).kept (kept_alloc (kept_refl w0) _))) (cells_one _ _) (by unfold maxLen; omega) (by omega) (by simp) ?_)
          intro v w1 hown1 hgrow _
          try rw [List.nil_append] at hown1
          try rw [Nat.zero_add] at hown1
          have hown : Own .u64 26 w0.heap.size w1 v ps := by unfold Own; rw [HM.out]; exact hown1
          have hk1 := kept_trans hk0 (kept_grown (kept_alloc (kept_refl w0) (.cells #[] 26)) (hw0 w0) (Nat.le_refl _) hgrow)
          clear hown1 hgrow hk0 hw0
          obtain ⟨A1, c1, rfl, _, _, r1⟩ := hown.rd
          rw [HM.out]
          clear hown
          have C := C w1 (hr.kept hk1) (hs.kept hk1)
          go_wp2_with fail
          refine C.mono ?_
          rintro e w2 ⟨A2, c2, rfl, r2, hk2, _, _⟩
          clear C
          replace r1 := r1.kept hk2
          have hk := kept_trans hk1 hk2
          clear hk1 hk2
          go_wp2_with fail
          go_loopw [8, 28] (fun v iv wr => ∃ q : Nat, q ≤ m ∧ iv = .int .i64 q ∧ Own .u64 26 w2.heap.size wr v (mk q fun j => nth ps (m - 1 - j)) ∧ Kept w2 wr) (fun _ iv _ => m - (intOf iv).toNat)
          case atStart => exact ⟨0, Nat.zero_le _, rfl, Own.nil _ _ _ _, kept_refl _⟩
          case round =>
            obtain ⟨q, hq, rfl, hown, hkx⟩ := hrel
            by_cases hlt : q < m
            · obtain ⟨ad', e, c0⟩ := ((hr.kept hk).kept hkx).at_ (j := m - 1 - q) (by have := HM.out; omega)
              cases e
              have hd : (m : Int) - 1 - (q : Int) = ((m - 1 - q : Nat) : Int) := by omega
              have hdl : m - 1 - q < m := by omega
              have hown2 : World.ownsRow _ _ _ _ _ _ _ := hown
              rw [mk_length] at hown2
              have hbase := hkx.size
              generalize hx : nth ps (m - 1 - q) = x at *
              have HXX := Lib.hid hx
              clear hx
              generalize hdd : m - 1 - q = d at *
              have HDD := Lib.hid hdd
              clear hdd hown
              go_wp2_with (at_builtin; refine wpList_append_own _ rfl _ _ 22 rfl w2.heap.size 26 i1 (.int .u64 0) 1 8 Try.underlying22 hif1 hy0 hy1 hy2 rfl (by decide) _ _ _ rfl (hown2.alloc _) ⟨wr.heap.size, 0, none⟩ 1 1 [.int .u64 x] rfl rfl ?c1 ?c2 ?c3 ?c4 ?c5 ?_)
              case c1 =>
                intro q u hq
                match q, hq with
                | 0, hq => simp at hq; subst hq; simp [Addr.add]
              case c2 => intro u hu; simp at hu; subst hu; rfl
              case c3 => unfold maxLen; omega
              case c4 => omega
              case c5 => simp; omega
              · intro v' w5 hown' hgrow _
                have R : Own .u64 26 w2.heap.size w5 v' (mk (q + 1) fun j => nth ps (m - 1 - j)) := by
                  refine Own.appended (f := fun j => nth ps (m - 1 - j)) ?_
                  show World.ownsRow _ _ _ _ _ _ (_ ++ [Value.int .u64 (nth ps (m - 1 - q))])
                  rw [HDD.out, HXX.out]
                  exact hown'
                have K := kept_grown (kept_alloc hkx _) (hown2.alloc _) (Nat.le_refl _) hgrow
                clear hown' hgrow hown2
                go_wp2_with fail
                exact ⟨⟨q + 1, by omega, by go_num, R, K⟩, by simp [intOf]; omega⟩
            · obtain rfl : m = q := by omega
              rw [hbm] at hown
              obtain ⟨A4, c4, rfl, _, _, r4⟩ := hown.rd
              rw [hbl]
              clear hown
              replace r1 := r1.kept hkx
              replace r2 := r2.kept hkx
              replace hk := kept_trans hk hkx
              have SC := SC A4 c4 wr (hs.kept hk) r4
              clear hkx r4
              go_wp2_with fail
              refine SC.mono ?_
              rintro e w5 ⟨A5, c5, rfl, r5, hk5, hlc5, huc5⟩
              clear SC
              go_wp2_with fail
              refine (alive04_c _).mono ?_
              rintro e w6 ⟨rfl, hk6⟩
              go_wp2_with fail
              go_ret
              exact ⟨rfl, kept_trans hk (kept_trans hk5 hk6)⟩
        · have hg0 := beq_zero _ h0
          have hg1 : decide ((ts.length : Int) < (ps.length : Int)) = false := decide_eq_false (by omega)
          have hps := fun he => prod_slide h0 h1 he
          rw [perr_back h0 h1] at SC
          generalize corrv ps ts = cv at *
          generalize corrErr ps ts = ce at *
          generalize hpvv : pval (backv ps) ts = pv at *
          clear hpvv
          have HPS := Lib.hid hps
          clear hps
          generalize backv ps = bk at *
          generalize hla : ps.length = m at *
          have HM := Lib.hid hla
          clear hla
          generalize hlb : ts.length = n at *
          have HNN := Lib.hid hlb
          clear hlb
          go_enter Try.func9, Try.ntmps9
          go_wp2_with fail
          refine (FW _).mono ?_
          rintro e w0 ⟨rfl, hk0⟩
          clear FW
          go_wp2_with (at_builtin; refine wpList_append_own _ rfl _ _ 22 rfl w0.heap.size 26 i1 (.int .u64 0) 1 8 Try.underlying22 hif1 hy0 hy1 hy2 rfl (by decide) (.slice (some ⟨w0.heap.size, 0, none⟩) 0 0) 0 [] rfl (hw0 w0) ad m ca (ps.map (Value.int .u64)) rfl (by rw [List.length_map, HM.out]; omega) (rd_cells ((hr.kept hk0).kept (kept_alloc (kept_refl w0) _))) (cells_one _ _) (by unfold maxLen; omega) (by omega) (by simp) ?_)
          intro v w1 hown1 hgrow _
          try rw [List.nil_append] at hown1
          try rw [Nat.zero_add] at hown1
          have hown : Own .u64 26 w0.heap.size w1 v ps := by unfold Own; rw [HM.out]; exact hown1
          have hk1 := kept_trans hk0 (kept_grown (kept_alloc (kept_refl w0) (.cells #[] 26)) (hw0 w0) (Nat.le_refl _) hgrow)
          clear hown1 hgrow hk0 hw0
          obtain ⟨A1, c1, rfl, _, _, r1⟩ := hown.rd
          rw [HM.out]
          clear hown
          have C := C w1 (hr.kept hk1) (hs.kept hk1)
          go_wp2_with fail
          refine C.mono ?_
          rintro e w2 ⟨A2, c2, rfl, r2, hk2, _, _⟩
          clear C
          replace r1 := r1.kept hk2
          have hk := kept_trans hk1 hk2
          clear hk1 hk2
          go_wp2_with fail
          go_loopw [8, 28] (fun v iv wr => ∃ q : Nat, q ≤ m ∧ iv = .int .i64 q ∧ Own .u64 26 w2.heap.size wr v (mk q fun j => nth ps (m - 1 - j)) ∧ Kept w2 wr) (fun _ iv _ => m - (intOf iv).toNat)
          case atStart => exact ⟨0, Nat.zero_le _, rfl, Own.nil _ _ _ _, kept_refl _⟩
          case round =>
            obtain ⟨q, hq, rfl, hown, hkx⟩ := hrel
            by_cases hlt : q < m
            · obtain ⟨ad', e, c0⟩ := ((hr.kept hk).kept hkx).at_ (j := m - 1 - q) (by have := HM.out; omega)
              cases e
              have hd : (m : Int) - 1 - (q : Int) = ((m - 1 - q : Nat) : Int) := by omega
              have hdl : m - 1 - q < m := by omega
              have hown2 : World.ownsRow _ _ _ _ _ _ _ := hown
              rw [mk_length] at hown2
              have hbase := hkx.size
              generalize hx : nth ps (m - 1 - q) = x at *
              have HXX := Lib.hid hx
              clear hx
              generalize hdd : m - 1 - q = d at *
              have HDD := Lib.hid hdd
              clear hdd hown
              go_wp2_with (at_builtin; refine wpList_append_own _ rfl _ _ 22 rfl w2.heap.size 26 i1 (.int .u64 0) 1 8 Try.underlying22 hif1 hy0 hy1 hy2 rfl (by decide) _ _ _ rfl (hown2.alloc _) ⟨wr.heap.size, 0, none⟩ 1 1 [.int .u64 x] rfl rfl ?c1 ?c2 ?c3 ?c4 ?c5 ?_)
              case c1 =>
                intro q u hq
                match q, hq with
                | 0, hq => simp at hq; subst hq; simp [Addr.add]
              case c2 => intro u hu; simp at hu; subst hu; rfl
              case c3 => unfold maxLen; omega
              case c4 => omega
              case c5 => simp; omega
              · intro v' w5 hown' hgrow _
                have R : Own .u64 26 w2.heap.size w5 v' (mk (q + 1) fun j => nth ps (m - 1 - j)) := by
                  refine Own.appended (f := fun j => nth ps (m - 1 - j)) ?_
                  show World.ownsRow _ _ _ _ _ _ (_ ++ [Value.int .u64 (nth ps (m - 1 - q))])
                  rw [HDD.out, HXX.out]
                  exact hown'
                have K := kept_grown (kept_alloc hkx _) (hown2.alloc _) (Nat.le_refl _) hgrow
                clear hown' hgrow hown2
                go_wp2_with fail
                exact ⟨⟨q + 1, by omega, by go_num, R, K⟩, by simp [intOf]; omega⟩
            · obtain rfl : m = q := by omega
              rw [hbm] at hown
              obtain ⟨A4, c4, rfl, _, _, r4⟩ := hown.rd
              rw [hbl]
              clear hown
              replace r1 := r1.kept hkx
              replace r2 := r2.kept hkx
              replace hk := kept_trans hk hkx
              have SC := SC A4 c4 wr (hs.kept hk) r4
              clear hkx r4
              go_wp2_with fail
              refine SC.mono ?_
              rintro e w5 ⟨A5, c5, rfl, r5, hk5, hlc5, huc5⟩
              clear SC
              by_cases hce : ce = 0
              · obtain ⟨l1, l2, hat⟩ := HPS.out hce
                subst hce
                have HAT := Lib.hid hat
                rw [l1]
                have L1 := Lib.hid l1
                have L2 := Lib.hid l2
                obtain ⟨ar, rfl, _⟩ := r5.at_ (j := 0) (by omega)
                have rS := r5.sub (ys := cv) (m - 1) (by rw [l1, l2]; omega) (fun j hj => hat j (by rw [l2] at hj; exact hj))
                have hc5 : n ≤ c5 := by omega
                have hmm : (m : Int) - 1 = ((m - 1 : Nat) : Int) := by omega
                clear hat
                go_wp2_with fail
                refine (alive04_c _).mono ?_
                rintro e w6 ⟨rfl, hk6⟩
                have S := same_c A2 (some (ar.add (m - 1))) c2 (c5 - (m - 1)) cv cv w6 (r2.kept (kept_trans hk5 hk6)) (rS.kept hk6)
                rw [sameL_refl] at S
                have hq : n - (m - 1) = n - m + 1 := by omega
                rw [L2.out] at S
                clear l1 l2
                go_wp2_with fail
                refine S.mono ?_
                rintro e w7 ⟨rfl, hk7⟩
                clear S
                have S := same_c (some ad) A1 ca c1 ps ps w7 (((hr.kept hk).kept hk5).kept (kept_trans hk6 hk7)) (((r1.kept hk5).kept hk6).kept hk7)
                rw [sameL_refl, HM.out] at S
                go_wp2_with fail
                refine S.mono ?_
                rintro e w8 ⟨rfl, hk8⟩
                clear S
                go_wp2_with fail
                go_ret
                exact ⟨rfl, kept_trans hk (kept_trans hk5 (kept_trans hk6 (kept_trans hk7 hk8)))⟩
              · go_wp2_with fail
                refine (alive04_c _).mono ?_
                rintro e w6 ⟨rfl, hk6⟩
                have S := same_c (some ad) A1 ca c1 ps ps w6 (((hr.kept hk).kept hk5).kept hk6) ((r1.kept hk5).kept hk6)
                rw [sameL_refl, HM.out] at S
                go_wp2_with fail
                refine S.mono ?_
                rintro e w8 ⟨rfl, hk8⟩
                clear S
                go_wp2_with fail
                go_ret
                exact ⟨rfl, kept_trans hk (kept_trans hk5 (kept_trans hk6 hk8))⟩
  · rw [show fewv ps.length ts.length = false by unfold fewv; simp; omega] at FW
    clear h
    go_enter Try.func9, Try.ntmps9
    go_wp2_with fail
    refine (FW _).mono ?_
    rintro e w0 ⟨rfl, hk0⟩
    go_wp2_with fail
    refine (alive04_c _).mono ?_
    rintro e w1 ⟨rfl, hk1⟩
    go_wp2_with fail
    go_ret
    exact ⟨rfl, kept_trans hk0 hk1⟩
end Go.Proofs.Ytdidojcmcldhpaa
