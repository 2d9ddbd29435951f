/-
  Layer 4 (conv): products by the document.
-/
import Derived.Test.YtdidojcmcldhpaaWConv3
namespace Go.Proofs.Ytdidojcmcldhpaa
open Go.RowKit BG
attribute [local go_sem ↓] Go.wp_at_zero Go.wp_at_succ run_min_at run_max_at
set_option linter.unusedVariables false

def prT (a b : Nat → Int) (lb i j : Nat) : Int := (sumTo j fun j' => if j' ≤ i ∧ i - j' < lb then a j' * b (i - j') else 0) % 18446744073709551616
theorem prT_bd (a b : Nat → Int) (lb i j : Nat) : 0 ≤ prT a b lb i j ∧ prT a b lb i j ≤ 18446744073709551615 := by unfold prT; omega
theorem prT_zero (a b : Nat → Int) (lb i : Nat) : prT a b lb i 0 = 0 := rfl
theorem prT_yes (a b : Nat → Int) {lb i j : Nat} (h : j ≤ i ∧ i - j < lb) : (prT a b lb i j + a j * b (i - j) % 18446744073709551616) % 18446744073709551616 = prT a b lb i (j + 1) := by
  have e : (sumTo (j + 1) fun j' => if j' ≤ i ∧ i - j' < lb then a j' * b (i - j') else 0) = (sumTo j fun j' => if j' ≤ i ∧ i - j' < lb then a j' * b (i - j') else 0) + a j * b (i - j) := by
    show _ + (if j ≤ i ∧ i - j < lb then a j * b (i - j) else 0) = _
    rw [if_pos h]
  unfold prT
  rw [e, ← Int.add_emod]
theorem prT_no (a b : Nat → Int) {lb i j : Nat} (h : ¬ (j ≤ i ∧ i - j < lb)) : prT a b lb i (j + 1) = prT a b lb i j := by
  have e : (sumTo (j + 1) fun j' => if j' ≤ i ∧ i - j' < lb then a j' * b (i - j') else 0) = sumTo j fun j' => if j' ≤ i ∧ i - j' < lb then a j' * b (i - j') else 0 := by
    show _ + (if j ≤ i ∧ i - j < lb then a j * b (i - j) else 0) = _
    rw [if_neg h, Int.add_zero]
  unfold prT
  rw [e]
theorem prT_all (a b : Nat → Int) (la lb i : Nat) : prT a b lb i la = cs a b la lb i % 18446744073709551616 := rfl
set_option maxRecDepth 100000 in
set_option maxHeartbeats 4000000 in
theorem product_c (A B : Option Addr) (ca cb : Nat) (xs ys : List Int) (hu : U64 xs) (hv : U64 ys) (hlx : xs.length ≤ 100000000000000) (hly : ys.length ≤ 100000000000000) (w : World) (hr : Rd .u64 w A xs) (hs : Rd .u64 w B ys) : Calls Try.prog 17 #[.slice A xs.length ca, .slice B ys.length cb] w (Ans (pval xs ys) (perr xs ys) w) := by
  have hm := hr.1
  have hm2 := hs.1
  obtain ⟨i1, hif1, hy0, hy1, hy2⟩ := info_parts info_u64
  by_cases h0 : xs.length = 0
  · obtain ⟨e1, e2⟩ := pval_nil (ys := ys) (.inl h0)
    have E1 := Lib.hid e1
    rw [e2]
    obtain rfl : xs = [] := List.length_eq_zero_iff.1 h0
    clear e1 e2 h0
    go_enter Try.func17, Try.ntmps17
    go_wp2_with fail
    exact bodyPost_ret (v := .tuple #[.slice none 0 0, .int .i64 0]) (by simp [results, Try.results17, go_sem]) rfl (Ans.none E1.out (kept_refl _))
  by_cases h1 : ys.length = 0
  · obtain ⟨e1, e2⟩ := pval_nil (xs := xs) (.inr h1)
    have E1 := Lib.hid e1
    rw [e2]
    have hb := beq_zero _ h0
    obtain rfl : ys = [] := List.length_eq_zero_iff.1 h1
    clear e1 e2 h0 h1
    go_enter Try.func17, Try.ntmps17
    go_wp2_with fail
    exact bodyPost_ret (v := .tuple #[.slice none 0 0, .int .i64 0]) (by simp [results, Try.results17, go_sem]) rfl (Ans.none E1.out (kept_refl _))
  have hb0 := beq_zero _ h0
  have hb1 := beq_zero _ h1
  have C := rcheck_c4 A B ca cb xs ys hu hv hlx hly w hr hs
  rw [← pval_err h0 h1] at C
  by_cases he : ¬ perr xs ys = 0
  · have E1 := Lib.hid (pval_bad he)
    generalize perr xs ys = er at *
    clear h0 h1
    go_enter Try.func17, Try.ntmps17
    go_wp2_with fail
    refine C.mono ?_
    rintro e w1 ⟨rfl, hk1⟩
    go_wp2_with fail
    exact bodyPost_ret (v := .tuple #[.slice none 0 0, .int .i64 er]) (by simp [results, Try.results17, go_sem]) rfl (Ans.none E1.out hk1)
  replace he := Decidable.not_not.1 he
  have hcz : cerr xs.length ys.length (greatest xs) (greatest ys) = 0 := by rw [← pval_err h0 h1]; exact he
  have hbd := (cerr_zero (greatest_bd hu).1 (greatest_bd hv).1 hcz).1
  have hval := pval_good h0 h1 he
  rw [he] at C
  rw [he, hval]
  have hz := prT_zero (nth xs) (nth ys) ys.length
  have hyes := fun i j (h : j ≤ i ∧ i - j < ys.length) => prT_yes (nth xs) (nth ys) h
  have hno := fun i j (h : ¬ (j ≤ i ∧ i - j < ys.length)) => prT_no (nth xs) (nth ys) h
  have hab := fun i j => prT_bd (nth xs) (nth ys) ys.length i j
  have hpv : prodv (nth xs) (nth ys) xs.length ys.length = mk (xs.length + ys.length - 1) fun i => prT (nth xs) (nth ys) ys.length i xs.length := rfl
  have hpl : (prodv (nth xs) (nth ys) xs.length ys.length).length = xs.length + ys.length - 1 := mk_length _ _
  have hN : (xs.length : Int) + (ys.length : Int) - 1 = ((xs.length + ys.length - 1 : Nat) : Int) := by omega
  have hNp : xs.length + ys.length - 1 ≤ 4096 := by omega
  have hln : xs.length ≤ 4097 ∧ ys.length ≤ 4097 := by omega
  generalize hF : prT (nth xs) (nth ys) ys.length = F at *
  clear hF hval hcz he hbd
  generalize hNN : xs.length + ys.length - 1 = N at *
  generalize prodv (nth xs) (nth ys) xs.length ys.length = pv at *
  generalize hla : xs.length = la at *
  generalize hlb : ys.length = lb at *
  have HLA := Lib.hid hla
  have HLB := Lib.hid hlb
  have HPV := Lib.hid hpv
  clear hla hlb hNN hpv
  unfold Ans
  rw [hpl]
  clear hpl
  go_enter Try.func17, Try.ntmps17
  go_wp2_with fail
  refine C.mono ?_
  rintro e w1 ⟨rfl, hk1⟩
  clear C
  go_wp2_with fail
  go_loopw [7, 8] (fun v iv wr => ∃ i : Nat, i ≤ N ∧ iv = .int .i64 i ∧ Own .u64 26 w1.heap.size wr v (mk i fun i => F i la) ∧ Kept w1 wr) (fun _ iv _ => N - (intOf iv).toNat)
  case atStart => exact ⟨0, Nat.zero_le _, rfl, Own.nil _ _ _ _, kept_refl _⟩
  case round =>
    obtain ⟨i, hi, rfl, hown, hk⟩ := hrel
    by_cases hlt : i < N
    · go_wp2_with fail
      go_loopw [9, 10] (fun xv jv wx => ∃ j : Nat, j ≤ la ∧ jv = .int .i64 j ∧ xv = .int .u64 (F i j) ∧ Kept wr wx) (fun _ jv _ => la - (intOf jv).toNat)
      case atStart => exact ⟨0, Nat.zero_le _, rfl, by rw [hz], kept_refl _⟩
      case round =>
        obtain ⟨j, hj, rfl, rfl, hkx⟩ := hrel
        by_cases hltj : j < la
        · by_cases hji : j ≤ i
          · have hd : (i : Int) - (j : Int) = ((i - j : Nat) : Int) := by omega
            by_cases hdl : i - j < lb
            · have hT := hyes i j ⟨hji, hdl⟩
              obtain ⟨ad, rfl, c0⟩ := ((hr.kept hk1).kept (kept_trans hk hkx)).at_ (j := j) (by have := HLA.out; omega)
              obtain ⟨bd, rfl, c1⟩ := ((hs.kept hk1).kept (kept_trans hk hkx)).at_ (j := i - j) (by have := HLB.out; omega)
              have bo := hab i j
              have bn := hab i (j + 1)
              generalize i - j = d at *
              generalize nth xs j = x at *
              generalize nth ys d = y at *
              have p0 : 0 ≤ x * y % 18446744073709551616 ∧ x * y % 18446744073709551616 ≤ 18446744073709551615 := by omega
              have m1 : IntKind.u64.wrap (x * y) = x * y % 18446744073709551616 := wrap_mod _
              generalize hp : x * y % 18446744073709551616 = p at *
              have m2 : IntKind.u64.wrap (F i j + p) = F i (j + 1) := by rw [wrap_mod]; exact hT
              generalize hFo : F i j = o at *
              generalize hFn : F i (j + 1) = o2 at *
              have HFN := Lib.hid hFn
              clear hyes hno hab hFo hFn hz hT hji
              go_wp2_with fail
              go_quiet (fail)
              go_wp2_with fail
              exact ⟨⟨j + 1, by omega, by go_num, by rw [HFN.out], kept_drewN hkx nq⟩, by simp [intOf]; omega⟩
            · have hT := hno i j (fun h => hdl h.2)
              have HT := Lib.hid hT
              have hdd : ¬ (i - j) < lb := hdl
              generalize i - j = d at *
              generalize hFo : F i j = o at *
              have HFO := Lib.hid hFo
              clear hyes hno hab hT hdl hji hFo hz
              go_wp2_with fail
              exact ⟨⟨j + 1, by omega, by go_num, by rw [HT.out], hkx⟩, by simp [intOf]; omega⟩
          · have hT := hno i j (fun h => hji h.1)
            have HT := Lib.hid hT
            have hneg : ¬ 0 ≤ (i : Int) - (j : Int) := by omega
            have hneg2 : decide (0 ≤ (i : Int) - (j : Int)) = false := decide_eq_false hneg
            generalize hFo : F i j = o at *
            clear hyes hno hab hT hFo hz
            go_wp2_with fail
            exact ⟨⟨j + 1, by omega, by go_num, by rw [HT.out], hkx⟩, by simp [intOf]; omega⟩
        · obtain rfl : la = j := by omega
          have hown2 : World.ownsRow _ _ _ _ _ _ _ := hown.kept hkx
          rw [mk_length] at hown2
          have hkk := kept_trans hk hkx
          have hbase := hkk.size
          clear hyes hno hab hown hkx hk
          go_wp2_with (at_builtin; refine wpList_append_own _ rfl _ _ 22 rfl w1.heap.size 26 i1 (.int .u64 0) 1 8 Try.underlying22 hif1 hy0 hy1 hy2 rfl (by decide) _ _ _ rfl (hown2.alloc _) ⟨wr.heap.size, 0, none⟩ 1 1 [.int .u64 (F i la)] rfl rfl ?c1 ?c2 ?c3 ?c4 ?c5 ?_)
          case c1 =>
            intro q u hq
            match q, hq with
            | 0, hq => simp at hq; subst hq; simp [Addr.add]
          case c2 => intro u hu; simp at hu; subst hu; rfl
          case c3 => unfold maxLen; omega
          case c4 => omega
          case c5 => simp; omega
          · intro v' w5 hown' hgrow _
            have R : Own .u64 26 w1.heap.size w5 v' (mk (i + 1) fun i => F i la) := Own.appended (f := fun i => F i la) hown'
            have K := kept_grown (kept_alloc hkk _) (hown2.alloc _) (Nat.le_refl _) hgrow
            clear hown' hgrow hown2
            go_wp2_with fail
            exact ⟨⟨i + 1, by omega, by go_num, R, K⟩, by simp [intOf]; omega⟩
    · obtain rfl : N = i := by omega
      clear hyes hno hab hz
      obtain ⟨AR, cR, rfl, lR, uR, rR⟩ := hown.rd
      rw [mk_length]
      go_wp2_with fail
      exact bodyPost_ret (v := .tuple #[.slice AR N cR, .int .i64 0]) (by simp [results, Try.results17, go_sem]) rfl ⟨_, _, rfl, by rw [HPV.out]; exact rR, kept_trans hk1 hk, (by simpa [mk_length] using lR), uR⟩
end Go.Proofs.Ytdidojcmcldhpaa
