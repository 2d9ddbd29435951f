/-
  Layer 4 (conv): rows along rows.
-/
import Derived.Test.YthjedgniedpkfaaWConv7
namespace Go.Proofs.Ythjedgniedpkfaa
open Go.RowKit BG
attribute [local go_sem ↓] Go.wp_at_zero Go.wp_at_succ
set_option linter.unusedVariables false

def backTo (xs : List Int) (q p : Nat) : Int := if xs.length - 1 - p < q then nth xs (xs.length - 1 - p) else 0
theorem backTo_zero (xs : List Int) (n : Nat) : mk n (backTo xs 0) = mk n fun _ => 0 := mk_congr fun p _ => by unfold backTo; rw [if_neg (by omega)]
theorem backTo_all (xs : List Int) : mk xs.length (backTo xs xs.length) = backv xs := mk_congr fun p hp => by unfold backTo; rw [if_pos (by omega)]
theorem backTo_set {xs : List Int} {q : Nat} (hq : q < xs.length) : (mk xs.length (backTo xs q)).set (xs.length - 1 - q) (nth xs q) = mk xs.length (backTo xs (q + 1)) := by
  rw [mk_set _ (by omega)]
  refine mk_congr fun p hp => ?_
  unfold backTo
  by_cases h : p = xs.length - 1 - q
  · rw [if_pos h, if_pos (by omega), h, show xs.length - 1 - (xs.length - 1 - q) = q by omega]
  · rw [if_neg h]
    by_cases h2 : xs.length - 1 - p < q
    · rw [if_pos h2, if_pos (by omega)]
    · rw [if_neg h2, if_neg (by omega)]
set_option maxRecDepth 100000 in
set_option maxHeartbeats 4000000 in
theorem correlate_c (A B : Option Addr) (ca cb : Nat) (ps ts : List Int) (hu : U64 ps) (hv : U64 ts) (hlx : ps.length ≤ 10000000000000) (hly : ts.length ≤ 10000000000000) (w : World) (hr : Rd .u64 w A ps) (hs : Rd .u64 w B ts) : Calls Try.prog 22 #[.slice A ps.length ca, .slice B ts.length cb] w (Ans (corrv ps ts) (corrErr ps ts) w) := by
  have hm := hr.1
  have hm2 := hs.1
  obtain ⟨i1, hif1, hy0, hy1, hy2⟩ := info_parts info_u64
  by_cases h0 : ps.length = 0
  · obtain ⟨e1, e2⟩ := corrv_nil (ts := ts) (.inl h0)
    have E1 := Lib.hid e1
    rw [e2]
    obtain rfl : ps = [] := List.length_eq_zero_iff.1 h0
    clear e1 e2 h0
    go_enter Try.func22, Try.ntmps22
    go_wp2_with fail
    exact bodyPost_ret (v := .tuple #[.slice none 0 0, .int .i64 0]) (by simp [results, Try.results22, go_sem]) rfl (Ans.none E1.out (kept_refl _))
  have hb := beq_zero _ h0
  by_cases h1 : ts.length < ps.length
  · obtain ⟨e1, e2⟩ := corrv_nil (.inr h1)
    have E1 := Lib.hid e1
    rw [e2]
    clear e1 e2 h0
    go_enter Try.func22, Try.ntmps22
    go_wp2_with fail
    exact bodyPost_ret (v := .tuple #[.slice none 0 0, .int .i64 0]) (by simp [results, Try.results22, go_sem]) rfl (Ans.none E1.out (kept_refl _))
  have hg : decide ((ts.length : Int) < (ps.length : Int)) = false := decide_eq_false (by omega)
  have hpb := perr_back h0 h1
  have hps := fun he => prod_slide h0 h1 he
  have hbad := fun (he : corrErr ps ts ≠ 0) => corrv_bad he
  have hub := u64_back hu
  have hbl := backv_length ps
  have SC := fun A c w1 a b => school_c A B c cb (backv ps) ts hub hv (by rw [hbl]; omega) (by omega) w1 a b
  have FA := fun A c w1 a b => fast_c A B c cb (backv ps) ts hub hv (by rw [hbl]; omega) (by omega) w1 a b
  rw [hbl, hpb] at SC FA
  have hz := backTo_zero ps ps.length
  have hall := backTo_all ps
  have hset := fun q (hq : q < ps.length) => backTo_set hq
  have hbl2 : ∀ q, (mk ps.length (backTo ps q)).length = ps.length := fun q => mk_length _ _
  generalize hBK : backv ps = bk at *
  generalize hPV : pval bk ts = pv at *
  generalize hER : corrErr ps ts = er at *
  generalize hCV : corrv ps ts = cv at *
  clear hBK hPV hER hCV hpb
  have HPS := Lib.hid hps
  have HBAD := Lib.hid hbad
  clear hps hbad
  generalize hla : ps.length = m at *
  have HLA := Lib.hid hla
  clear hla
  generalize hlb : ts.length = n at *
  have HLB := Lib.hid hlb
  clear hlb
  have h0' : 0 < m := by omega
  have h1' : m ≤ n := by omega
  go_enter Try.func22, Try.ntmps22
  go_wp2_with (refine wpList_make_full _ rfl (.tmp 25) (.tmp 25) 22 rfl w.heap.size 40 i1 (.int .u64 0) 1 Try.underlying22 hif1 hy0 hy1 .i64 .i64 _ _ m rfl rfl (by simp) (by simp) ?b2 ?b3 ?b4 ?_)
  case b2 => rw [hy2]; omega
  case b3 => unfold maxLen; omega
  case b4 => exact Nat.le_refl _
  intro w4 hown4 hgrow
  have K4 : Kept w w4 := (kept_refl w).grown hgrow (Nat.le_refl _) (fun k h => by cases h)
  rw [toList_madeCells_one] at hown4
  have hown5 : w4.ownsRow w.heap.size 40 1 (.slice (some ⟨w.heap.size, 0, none⟩) m m) m ((mk m (backTo ps 0)).map (Value.int .u64)) := by
    rw [hz, mk_zero']; exact hown4
  clear hown4 hgrow hz
  generalize hg' : w.heap.size = g at *
  go_wp2_with fail
  go_loopw [29] (fun iv wr => ∃ q : Nat, q ≤ m ∧ iv = .int .i64 q ∧ wr.ownsRow g 40 1 (.slice (some ⟨g, 0, none⟩) m m) m ((mk m (backTo ps q)).map (Value.int .u64)) ∧ Kept w wr) (fun iv _ => m - (intOf iv).toNat)
  case atStart => exact ⟨0, Nat.zero_le _, rfl, hown5, K4⟩
  case round =>
    clear hown5 K4
    obtain ⟨q, hq, rfl, hown, hk⟩ := hrel
    by_cases hlt : q < m
    · obtain ⟨ad, rfl, c0⟩ := (hr.kept hk).at_ (j := q) (by have := HLA.out; omega)
      have hS := hset q hlt
      have hml := hbl2 q
      have d0 := World.ownsRow.cellAt hown (m - 1 - q) (by omega)
      rw [List.getElem?_map, List.getElem?_eq_getElem (by omega), Option.map_some] at d0
      have f0 := World.ownsRow.frozenAt hown (m - 1 - q)
      have S := World.ownsRow.stored hown (m - 1 - q) (.int .u64 (nth ps q))
      rw [← List.map_set, hS] at S
      have HSS := Lib.hid S
      have hd : (m : Int) - 1 - (q : Int) = ((m - 1 - q : Nat) : Int) := by omega
      have hdl : m - 1 - q < m := by omega
      clear hS S
      generalize (mk m (backTo ps q))[m - 1 - q]'(by omega) = old at *
      generalize nth ps q = x at *
      generalize m - 1 - q = d at *
      have ea : (⟨g, 0, none⟩ : Addr).add d = ⟨g, d, none⟩ := by unfold Addr.add; split <;> simp_all
      clear hset hbl2 hml
      go_wp2_with fail
      exact ⟨⟨q + 1, by omega, by go_num, HSS.out.1, kept_grown hk hown (by omega) HSS.out.2⟩, by simp [intOf]; omega⟩
    · obtain rfl : m = q := by omega
      rw [hall] at hown
      clear hset hbl2
      have rb := rowRd hown hbl
      clear hown hall
      have SC := SC _ m wr rb (hs.kept hk)
      have FA := FA _ m wr rb (hs.kept hk)
      by_cases he : er = 0
      · obtain ⟨hpl, hcl, hat⟩ := HPS.out he
        subst he
        have HPL := Lib.hid hpl
        have hmn : (m : Int) - 1 = ((m - 1 : Nat) : Int) := by omega
        unfold Ans at SC FA ⊢
        rw [hcl]
        rw [hpl] at SC FA
        by_cases hw : 256 < wrap64 ((m : Int) * (n : Int))
        · go_wp2_with fail
          refine FA.mono ?_
          rintro e w5 ⟨AR, cR, rfl, rR, hk5, lR, uR⟩
          clear SC FA
          obtain ⟨ar, rfl, _⟩ := rR.at_ (j := 0) (by have := HPL.out; omega)
          have rS := rR.sub (ys := cv) (m - 1) (by rw [hpl, hcl]; omega) (fun j hj => hat j (by rw [hcl] at hj; exact hj))
          have hbnd : m - 1 ≤ n := by omega
          have hbnd2 : n ≤ cR := by omega
          have hcl' : n - (m - 1) = cv.length := by rw [hcl]; omega
          have HCL := Lib.hid hcl'
          clear hcl' hat
          go_wp2_with fail
          exact bodyPost_ret (v := .tuple #[.slice (some (ar.add (m - 1))) (n - (m - 1)) (cR - (m - 1)), .int .i64 0]) (by simp [results, Try.results22, go_sem]) rfl ⟨_, _, by rw [HCL.out], rS, kept_trans hk hk5, by rw [← HCL.out]; omega, by omega⟩
        · go_wp2_with fail
          refine SC.mono ?_
          rintro e w5 ⟨AR, cR, rfl, rR, hk5, lR, uR⟩
          clear SC FA
          obtain ⟨ar, rfl, _⟩ := rR.at_ (j := 0) (by have := HPL.out; omega)
          have rS := rR.sub (ys := cv) (m - 1) (by rw [hpl, hcl]; omega) (fun j hj => hat j (by rw [hcl] at hj; exact hj))
          have hbnd : m - 1 ≤ n := by omega
          have hbnd2 : n ≤ cR := by omega
          have hcl' : n - (m - 1) = cv.length := by rw [hcl]; omega
          have HCL := Lib.hid hcl'
          clear hcl' hat
          go_wp2_with fail
          exact bodyPost_ret (v := .tuple #[.slice (some (ar.add (m - 1))) (n - (m - 1)) (cR - (m - 1)), .int .i64 0]) (by simp [results, Try.results22, go_sem]) rfl ⟨_, _, by rw [HCL.out], rS, kept_trans hk hk5, by rw [← HCL.out]; omega, by omega⟩
      · have E1 := Lib.hid (HBAD.out he)
        unfold Ans at SC FA ⊢
        rw [E1.out]
        by_cases hw : 256 < wrap64 ((m : Int) * (n : Int))
        · go_wp2_with fail
          refine FA.mono ?_
          rintro e w5 ⟨AR, cR, rfl, rR, hk5, lR, uR⟩
          clear SC FA
          go_wp2_with fail
          exact bodyPost_ret (v := .tuple #[.slice none 0 0, .int .i64 er]) (by simp [results, Try.results22, go_sem]) rfl (Ans.none E1.out (kept_trans hk hk5))
        · go_wp2_with fail
          refine SC.mono ?_
          rintro e w5 ⟨AR, cR, rfl, rR, hk5, lR, uR⟩
          clear SC FA
          go_wp2_with fail
          exact bodyPost_ret (v := .tuple #[.slice none 0 0, .int .i64 er]) (by simp [results, Try.results22, go_sem]) rfl (Ans.none E1.out (kept_trans hk hk5))
end Go.Proofs.Ythjedgniedpkfaa
