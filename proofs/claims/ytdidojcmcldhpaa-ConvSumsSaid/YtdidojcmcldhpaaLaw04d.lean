/-
  Layer 4's statements: the walks.
-/
import Derived.Test.YtdidojcmcldhpaaLaw04b
import Derived.Laws.AppendOwnNone
namespace Go.Proofs.Ytdidojcmcldhpaa
open Go.RowKit BG
attribute [local go_sem ↓] Go.wp_at_zero Go.wp_at_succ
set_option linter.unusedVariables false

theorem cs_add (a b c : Nat → Int) (la lb t : Nat) : cs a (fun i => b i + c i) la lb t = cs a b la lb t + cs a c la lb t := by
  unfold cs
  rw [← sumTo_add]
  refine sumTo_congr fun j _ => ?_
  split
  · rw [Int.mul_add]
  · rfl
theorem pval_length {xs ys : List Int} (h : perr xs ys = 0) : (pval xs ys).length = if xs.length = 0 ∨ ys.length = 0 then 0 else xs.length + ys.length - 1 := by
  by_cases h0 : xs.length = 0 ∨ ys.length = 0
  · rw [(pval_nil h0).1, if_pos h0]; rfl
  · rw [if_neg h0, pval_good (by omega) (by omega) h]; exact mk_length _ _
theorem pval_bd (xs ys : List Int) (j : Nat) : 0 ≤ nth (pval xs ys) j ∧ nth (pval xs ys) j ≤ 18446744073709551615 := by
  have : U64 (pval xs ys) := by
    unfold pval
    split
    · exact u64_all (by simp)
    · refine u64_all fun z hz => ?_
      unfold prodv mk at hz
      rw [List.mem_map] at hz
      obtain ⟨t, _, rfl⟩ := hz
      omega
  exact this j
theorem sum_pval {xs ys zs : List Int} (he : zs.length = ys.length) : perr xs ys = 0 → perr xs zs = 0 → perr xs (mk ys.length fun j => nth ys j + nth zs j) = 0 → (pval xs ys).length = (pval xs (mk ys.length fun j => nth ys j + nth zs j)).length ∧ (pval xs zs).length = (pval xs (mk ys.length fun j => nth ys j + nth zs j)).length ∧ ∀ q, q < (pval xs (mk ys.length fun j => nth ys j + nth zs j)).length → nth (pval xs (mk ys.length fun j => nth ys j + nth zs j)) q = (nth (pval xs ys) q + nth (pval xs zs) q) % 18446744073709551616 := by
  intro h1 h2 h3
  have hl : (mk ys.length fun j => nth ys j + nth zs j).length = ys.length := mk_length _ _
  refine ⟨by rw [pval_length h1, pval_length h3, hl], by rw [pval_length h2, pval_length h3, hl, he], fun q hq => ?_⟩
  rw [pval_length h3, hl] at hq
  by_cases h0 : xs.length = 0 ∨ ys.length = 0
  · rw [if_pos h0] at hq; omega
  · rw [if_neg h0] at hq
    rw [pval_good (by omega) (by omega) h1, pval_good (by omega) (by rw [he]; omega) h2, pval_good (by omega) (by rw [hl]; omega) h3]
    unfold prodv
    rw [hl, he, nth_mk hq, nth_mk hq, nth_mk hq]
    rw [cs_congr (a := nth xs) (a' := nth xs) (b' := fun i => nth ys i + nth zs i) (fun _ _ => rfl) (fun i hi => nth_mk hi), cs_add, Int.add_emod]
set_option maxRecDepth 100000 in
set_option maxHeartbeats 4000000 in
theorem convSums_w (A B C : Option Addr) (ca cb cc : Nat) (xs ys zs : List Int) (hu : U64 xs) (hv : U64 ys) (hz : U64 zs) (w : World) (hr : Rd .u64 w A xs) (hs : Rd .u64 w B ys) (ht : Rd .u64 w C zs) : Calls Try.prog 8 #[.slice A xs.length ca, .slice B ys.length cb, .slice C zs.length cc] w (Ret (.bool true) w) := by
  have hm := hr.1
  have hm2 := hs.1
  have hm3 := ht.1
  obtain ⟨i1, hif1, hy0, hy1, hy2⟩ := info_parts info_u64
  have FW := few_c A B ca cb xs.length ys.length hm hm2
  have FV := few_c C none cc 0 zs.length 0 hm3 (by decide)
  by_cases h : xs.length ≤ 300 ∧ ys.length ≤ 300
  · rw [show fewv xs.length ys.length = true by unfold fewv; simp [h.1, h.2]] at FW
    by_cases h3 : zs.length ≤ 300
    · rw [show fewv zs.length 0 = true by unfold fewv; simp [h3]] at FV
      by_cases he : zs.length = ys.length
      · have F1 := fun w1 a b => fast_c A B ca cb xs ys hu hv (by omega) (by omega) w1 a b
        have F2 := fun w1 a b => fast_c A C ca cc xs zs hu hz (by omega) (by omega) w1 a b
        have hbeq : ((ys.length : Int) != (zs.length : Int)) = false := by rw [he]; simp
        rw [he] at F2 FV
        rw [he]
        have HE := Lib.hid he
        clear h3 he
        go_enter Try.func8, Try.ntmps8
        go_wp2_with fail
        refine (FW _).mono ?_
        rintro e w0 ⟨rfl, hk0⟩
        go_wp2_with fail
        refine (FV _).mono ?_
        rintro e w1 ⟨rfl, hk1⟩
        have hk := kept_trans hk0 hk1
        clear hk0 hk1 FW FV
        have hlen : ys.length ≤ 300 := h.2
        generalize hn : ys.length = n at *
        have HN := Lib.hid hn
        clear hn
        go_wp2_with fail
        go_loopw [7, 35] (fun v iv wr => ∃ q : Nat, q ≤ n ∧ iv = .int .i64 q ∧ Own .u64 26 w1.heap.size wr v (mk q fun j => nth ys j + nth zs j) ∧ Kept w1 wr ∧ Hid (∀ j, j < q → nth ys j + nth zs j ≤ 18446744073709551615)) (fun _ iv _ => n - (intOf iv).toNat)
        case atStart => exact ⟨0, Nat.zero_le _, rfl, Own.nil _ _ _ _, kept_refl _, fun j hj => absurd hj (Nat.not_lt_zero j)⟩
        case round =>
          obtain ⟨q, hq, rfl, hown, hkx, HQ⟩ := hrel
          by_cases hlt : q < n
          · obtain ⟨bd, rfl, c0⟩ := ((hs.kept hk).kept hkx).at_ (j := q) (by have := HN.out; omega)
            obtain ⟨cd, rfl, c1⟩ := ((ht.kept hk).kept hkx).at_ (j := q) (by have := HN.out; have := HE.out; omega)
            have by1 := hv q
            have bz1 := hz q
            by_cases hov : nth ys q + nth zs q ≤ 18446744073709551615
            · have HOV := Lib.hid hov
              have hown2 : World.ownsRow _ _ _ _ _ _ _ := hown
              rw [mk_length] at hown2
              have hbase := hkx.size
              have hf : decide (18446744073709551615 - nth ys q < nth zs q) = false := decide_eq_false (by omega)
              generalize hyy : nth ys q = y at *
              generalize hzz : nth zs q = z at *
              have HY := Lib.hid hyy
              have HZ := Lib.hid hzz
              clear hyy hzz
              go_wp2_with fail
              go_quiet (fail)
              replace hkx := kept_drewN hkx nq
              replace hown2 := rowKept hown2 (kept_drewN (kept_refl _) nq)
              replace c0 := kept_cell (kept_drewN (kept_refl _) nq) c0
              replace c1 := kept_cell (kept_drewN (kept_refl _) nq) c1
              clear hown hbase
              generalize wr.drewN nq = wq at *
              have hbase := hkx.size
              have wyz : IntKind.u64.wrap (y + z) = y + z := by rw [wrap_mod]; exact Int.emod_eq_of_lt (by omega) (by omega)
              have d0 := kept_cell (kept_drew (kept_refl wq)) c0
              have d1 := kept_cell (kept_drew (kept_refl wq)) c1
              go_wp2_with fail
              go_region_law (refine step_append_lies _ (by rfl) _ _ _ (by rfl) w1.heap.size 26 i1 _ 1 8 Try.underlying22 hif1 hy0 hy1 hy2 rfl (by omega) _ q _ (by rfl) ((World.ownsRow.alloc hown2 _).drew) ⟨wq.heap.size, 0, none⟩ 1 1 [.int .u64 (y + z)] (by rfl) (by rfl) (World.news_of_block (cs := #[.int .u64 (y + z)]) (t := 26) (fr := (0, 0)) (heap_alloc_new wq _)) (by simp [Value.oneCell']) (by omega) (by unfold maxLen; omega) (by omega) (by simp; omega) (wq.heap.size + 1) (by simp) ?_; intro g cap w6 hown' hgrow hat hlt')
              all_goals
                have R : Own .u64 26 w1.heap.size w6 (.slice (some ⟨g, 0, none⟩) (q + 1) cap) (mk (q + 1) fun j => nth ys j + nth zs j) := by
                  refine Own.appended (f := fun j => nth ys j + nth zs j) ?_
                  show World.ownsRow _ _ _ _ _ _ (_ ++ [Value.int .u64 (nth ys q + nth zs q)])
                  rw [HY.out, HZ.out]
                  exact hown'
                have K := kept_grown (kept_drew (kept_alloc hkx _)) ((World.ownsRow.alloc hown2 _).drew) (Nat.le_refl _) hgrow
                clear hown' hgrow hown2 hat hlt'
                go_wp2_with fail
                exact ⟨⟨q + 1, by omega, by go_num, R, K, fun j hj => by
                  rcases Nat.lt_or_ge j q with h | h
                  · exact HQ j h
                  · obtain rfl : j = q := by omega
                    rw [HY.out, HZ.out]; exact HOV.out⟩, by simp [intOf]; omega⟩
            · have hf : 18446744073709551615 - nth ys q < nth zs q := by omega
              clear hov
              go_wp2_with fail
              go_quiet (fail)
              go_wp2_with fail
              refine (alive04_c _).mono ?_
              rintro e w5 ⟨rfl, hk5⟩
              go_wp2_with fail
              go_ret
              exact ⟨rfl, kept_trans hk (kept_trans (kept_drewN hkx nq) hk5)⟩
          · obtain rfl : n = q := by omega
            have huS : U64 (mk n fun j => nth ys j + nth zs j) := by
              intro j
              by_cases hj : j < n
              · rw [nth_mk hj]
                have h1 := HQ j hj
                have h2 := hv j
                have h3 := hz j
                exact ⟨by omega, h1⟩
              · unfold nth; rw [List.getD_eq_getElem?_getD, List.getElem?_eq_none (by rw [mk_length]; omega)]; exact ⟨Int.le_refl 0, by decide⟩
            have hSl : (mk n fun j => nth ys j + nth zs j).length = n := mk_length _ _
            have F3 := fun X c w1 a b => fast_c A X ca c xs (mk n fun j => nth ys j + nth zs j) hu huS (by omega) (by rw [hSl]; omega) w1 a b
            have hsum := sum_pval (xs := xs) (ys := ys) (zs := zs) (HE.out.trans HN.out.symm)
            rw [HN.out] at hsum
            rw [hSl] at F3
            obtain ⟨AS, cS, rfl, _, _, rS⟩ := hown.rd
            rw [hSl]
            clear hown huS
            generalize mk n (fun j => nth ys j + nth zs j) = ss at *
            have hu1 := fun j => pval_bd xs ys j
            have hu2 := fun j => pval_bd xs zs j
            generalize pval xs ys = p1 at *
            generalize pval xs zs = p2 at *
            generalize pval xs ss = p3 at *
            generalize perr xs ys = e1 at *
            generalize perr xs zs = e2 at *
            generalize perr xs ss = e3 at *
            have HSUM := Lib.hid hsum
            clear hsum
            replace hk := kept_trans hk hkx
            have F1 := F1 wr (hr.kept hk) (hs.kept hk)
            clear hkx HQ
            go_wp2_with fail
            refine F1.mono ?_
            rintro e w2 ⟨A1, c1, rfl, r1, hk2, _, _⟩
            clear F1
            have F2 := F2 w2 ((hr.kept hk).kept hk2) ((ht.kept hk).kept hk2)
            go_wp2_with fail
            refine F2.mono ?_
            rintro e w3 ⟨A2, c2, rfl, r2, hk3, _, _⟩
            clear F2
            have hk23 := kept_trans hk2 hk3
            have F3 := F3 AS cS w3 ((hr.kept hk).kept hk23) (rS.kept hk23)
            go_wp2_with fail
            refine F3.mono ?_
            rintro e w4 ⟨A3, c3, rfl, r3, hk4, _, _⟩
            clear F3
            replace hk := kept_trans hk (kept_trans hk23 hk4)
            replace r1 := r1.kept (kept_trans hk3 hk4)
            replace r2 := r2.kept hk4
            clear hk2 hk3 hk23 hk4 rS
            by_cases q1 : e1 = 0
            · by_cases q2 : e2 = 0
              · by_cases q3 : e3 = 0
                · obtain ⟨l1, l2, hat⟩ := HSUM.out q1 q2 q3
                  subst q1 q2 q3
                  have hb1 : ((p1.length : Int) != (p3.length : Int)) = false := by rw [l1]; simp
                  have hb2 : ((p2.length : Int) != (p3.length : Int)) = false := by rw [l2]; simp
                  have HAT := Lib.hid hat
                  have L1 := Lib.hid l1
                  have L2 := Lib.hid l2
                  clear l1 l2 hat HSUM
                  go_wp2_with fail
                  go_loopw [105] (fun iv wx => ∃ q : Nat, q ≤ p3.length ∧ iv = .int .i64 q ∧ Kept w4 wx) (fun iv _ => p3.length - (intOf iv).toNat)
                  case atStart => exact ⟨0, Nat.zero_le _, rfl, kept_refl _⟩
                  case round =>
                    obtain ⟨q, hq, rfl, hkx⟩ := hrel
                    by_cases hlt : q < p3.length
                    · obtain ⟨a1, rfl, d1⟩ := (r1.kept hkx).at_ (j := q) (by have := L1.out; omega)
                      obtain ⟨a2, rfl, d2⟩ := (r2.kept hkx).at_ (j := q) (by have := L2.out; omega)
                      obtain ⟨a3, rfl, d3⟩ := (r3.kept hkx).at_ (j := q) hlt
                      have hat := HAT.out q hlt
                      have b1 := hu1 q
                      have b2 := hu2 q
                      have hq1 : q < p1.length := by have := L1.out; omega
                      have hq2 : q < p2.length := by have := L2.out; omega
                      have m1 : IntKind.u64.wrap (nth p1 q + nth p2 q) = nth p3 q := by rw [wrap_mod, hat]
                      generalize nth p1 q = x1 at *
                      generalize nth p2 q = x2 at *
                      generalize nth p3 q = x3 at *
                      clear hat
                      go_wp2_with fail
                      go_quiet (fail)
                      go_wp2_with fail
                      exact ⟨⟨q + 1, by omega, by go_num, kept_drewN hkx nq⟩, by simp [intOf]; omega⟩
                    · obtain hqn : q = p3.length := by omega
                      subst hqn
                      go_wp2_with fail
                      refine (alive04_c _).mono ?_
                      rintro e w5 ⟨rfl, hk5⟩
                      go_wp2_with fail
                      go_ret
                      exact ⟨rfl, kept_trans hk (kept_trans hkx hk5)⟩
                · subst q1 q2
                  go_wp2_with fail
                  refine (alive04_c _).mono ?_
                  rintro e w5 ⟨rfl, hk5⟩
                  go_wp2_with fail
                  go_ret
                  exact ⟨rfl, kept_trans hk hk5⟩
              · subst q1
                go_wp2_with fail
                refine (alive04_c _).mono ?_
                rintro e w5 ⟨rfl, hk5⟩
                go_wp2_with fail
                go_ret
                exact ⟨rfl, kept_trans hk hk5⟩
            · go_wp2_with fail
              refine (alive04_c _).mono ?_
              rintro e w5 ⟨rfl, hk5⟩
              go_wp2_with fail
              go_ret
              exact ⟨rfl, kept_trans hk hk5⟩
      · have hbeq : ((ys.length : Int) != (zs.length : Int)) = true := by rw [bne_iff_ne]; omega
        clear he
        go_enter Try.func8, Try.ntmps8
        go_wp2_with fail
        refine (FW _).mono ?_
        rintro e w0 ⟨rfl, hk0⟩
        go_wp2_with fail
        refine (FV _).mono ?_
        rintro e w1 ⟨rfl, hk1⟩
        go_wp2_with fail
        refine (alive04_c _).mono ?_
        rintro e w2 ⟨rfl, hk2⟩
        go_wp2_with fail
        go_ret
        exact ⟨rfl, kept_trans hk0 (kept_trans hk1 hk2)⟩
    · rw [show fewv zs.length 0 = false by unfold fewv; simp; omega] at FV
      clear h3
      go_enter Try.func8, Try.ntmps8
      go_wp2_with fail
      refine (FW _).mono ?_
      rintro e w0 ⟨rfl, hk0⟩
      go_wp2_with fail
      refine (FV _).mono ?_
      rintro e w1 ⟨rfl, hk1⟩
      go_wp2_with fail
      refine (alive04_c _).mono ?_
      rintro e w2 ⟨rfl, hk2⟩
      go_wp2_with fail
      go_ret
      exact ⟨rfl, kept_trans hk0 (kept_trans hk1 hk2)⟩
  · rw [show fewv xs.length ys.length = false by unfold fewv; simp; omega] at FW
    clear h
    go_enter Try.func8, Try.ntmps8
    go_wp2_with fail
    refine (FW _).mono ?_
    rintro e w0 ⟨rfl, hk0⟩
    go_wp2_with fail
    refine (alive04_c _).mono ?_
    rintro e w1 ⟨rfl, hk1⟩
    go_wp2_with fail
    go_ret
    exact ⟨rfl, kept_trans hk0 hk1⟩
end Go.Proofs.Ytdidojcmcldhpaa
