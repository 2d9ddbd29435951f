/-
  Texts of one claim, joined: WNaive, WNaive2, TBase, WGrid1, WGrid2, WGrid3, WGrid5.
-/
import Derived.Maps.OwnOps
import Derived.Maps.Own
import Derived.Deep.AppendLies
import Derived.MapKept
import Derived.Laws.BytesString
import Derived.Test.YtdejablhpljdfaaGreatC06
import Derived.Test.YtdejablhpljdfaaGreatC05
namespace Go.Proofs.YtdejablhpljdfaaGreat
open Go.RowKit BG
attribute [local go_sem ↓] Go.wp_at_zero Go.wp_at_succ
set_option linter.unusedVariables false
theorem info_i64c : (Tryz.prog.info? 3).map (fun i => (i.zero, i.size, i.bytes)) = some (some (.int .i64 0), 1, 8) := by kernel_rfl
def misses (xs : List Int) (s : ByteArray) (i j : Nat) : Bool := !hasv (cls xs j) (byteAt s (i + j))
def missv (xs : List Int) (n : Nat) (s : ByteArray) (i : Nat) : Nat := (List.range n).countP (misses xs s i)
def atOk (xs : List Int) (n : Nat) (K : Int) (s : ByteArray) (i : Nat) : Bool := rightv xs n K && decide (i + n ≤ s.size)
def atN (xs : List Int) (n : Nat) (K : Int) (s : ByteArray) (i : Nat) : Nat := if atOk xs n K s i = true then missv xs n s i else 0
theorem missv_le (xs : List Int) (n : Nat) (s : ByteArray) (i : Nat) : missv xs n s i ≤ n := by
  have := List.countP_le_length (p := misses xs s i) (l := List.range n)
  rwa [List.length_range] at this
set_option maxRecDepth 100000 in
set_option maxHeartbeats 4000000 in
theorem rat_c (A : Option Addr) (cap n : Nat) (xs : List Int) (K : Int) (s : ByteArray) (i : Nat) (hu : U64 xs) (hl : xs.length = 4 * n) (hi : i ≤ 1000000) (hsz : s.size ≤ 1000000) (hn : n ≤ 1000000) (w : World) (hr : Rd .u64 w A xs) : Calls Tryz.prog 46 #[leafV A n cap K, .string s, .int .i64 (i : Nat)] w (Ret (.tuple #[.int .i64 (atN xs n K s i : Nat), .bool (atOk xs n K s i)]) w) := by
  have hm := hr.1
  have hb := blk_new w (.cells #[.slice A n cap, .int .i64 K] 61)
  have ka := kept_alloc (kept_refl w) (.cells #[.slice A n cap, .int .i64 K] 61)
  have c0 : (w.alloc (.cells #[.slice A n cap, .int .i64 K] 61)).cell? ⟨w.heap.size, 0, none⟩ = some (.slice A n cap) := blk_cell hb 0
  have c1 : (w.alloc (.cells #[.slice A n cap, .int .i64 K] 61)).cell? ⟨w.heap.size, 1, none⟩ = some (.int .i64 K) := blk_cell hb 1
  have R := rright_c A cap n xs K hu hl _ (hr.kept ka)
  unfold atN atOk
  cases hrv : rightv xs n K
  · rw [hrv] at R
    simp only [Bool.false_and, Bool.false_eq_true, if_false]
    clear hrv
    go_enter Tryz.func46, Tryz.ntmps46
    go_wp2_with fail
    refine R.mono ?_
    rintro e w1 ⟨rfl, hk1⟩
    clear R c0 c1 hb
    go_wp2_with fail
    go_ret2
    exact ⟨rfl, kept_trans ka hk1⟩
  · rw [hrv] at R
    clear hrv
    simp only [Bool.true_and]
    by_cases hin : i + n ≤ s.size
    · rw [decide_eq_true hin, if_pos rfl]
      have hg : decide ((s.size : Int) - (n : Int) < (i : Int)) = false := decide_eq_false (by omega)
      have hg1 : ¬ ((s.size : Int) - (n : Int) < (i : Int)) := by omega
      have H := fun j b hb w1 => rhas_c (cls xs j) (cls_ok hu j) b hb w1
      have hcs := fun j => count_succ (misses xs s i) j
      have hcl := fun j => List.countP_le_length (p := misses xs s i) (l := List.range j)
      have hmv : missv xs n s i = (List.range n).countP (misses xs s i) := rfl
      have hmi : ∀ j, misses xs s i j = !hasv (cls xs j) (byteAt s (i + j)) := fun _ => rfl
      have HCS := Lib.hid hcs
      have HCL := Lib.hid hcl
      have HMV := Lib.hid hmv
      have HMI := Lib.hid hmi
      clear hcs hcl hmv hmi
      generalize missv xs n s i = mv at *
      generalize misses xs s i = ms at *
      go_enter Tryz.func46, Tryz.ntmps46
      go_wp2_with fail
      refine R.mono ?_
      rintro e w1 ⟨rfl, hk1⟩
      replace hb := blk_kept hk1 hb
      replace ka := kept_trans ka hk1
      clear R c0 c1 hk1
      have c0 : w1.cell? ⟨w.heap.size, 0, none⟩ = some (.slice A n cap) := blk_cell hb 0
      go_wp2_with fail
      go_loopw [8, 9] (fun v iv wr => ∃ j : Nat, j ≤ n ∧ iv = .int .i64 j ∧ v = .int .i64 (((List.range j).countP ms : Nat) : Int) ∧ wr.heap[w.heap.size]? = some (.cells #[.slice A n cap, .int .i64 K] 61 (0, 0)) ∧ Kept w wr) (fun _ iv _ => n - (intOf iv).toNat)
      case atStart => exact ⟨0, Nat.zero_le _, rfl, rfl, hb, ka⟩
      case round =>
        clear hb ka c0
        obtain ⟨j, hj, rfl, rfl, hb, hkw⟩ := hrel
        have c0 : wr.cell? ⟨w.heap.size, 0, none⟩ = some (.slice A n cap) := blk_cell hb 0
        have hcs := HCS.out j
        have hcl := HCL.out j
        rw [List.length_range] at hcl
        by_cases hlt : j < n
        · obtain ⟨ad, hA, d0, d1, d2, d3⟩ := (hr.kept hkw).cl hl hlt
          have hij : i + j < s.size := by omega
          have hbt := byteAt_eq hij
          have H := H j (byteAt s (i + j)) (byteAt_lt s _)
          have hmi := HMI.out j
          have HMJ := Lib.hid hmi
          clear hmi
          have HB := Lib.hid hcs
          subst hA
          clear hcs HCS HCL HMV HMI
          generalize hasv (cls xs j) (byteAt s (i + j)) = y at *
          generalize byteAt s (i + j) = bb at *
          generalize cls xs j = x at *
          generalize (List.range j).countP ms = q at *
          obtain ⟨x0, x1, x2, x3⟩ := x
          dsimp only [Cl.v] at d0 d1 d2 d3 H
          have hx1 : 0 ≤ (i : Int) + (j : Int) := by omega
          have hx2 : (i : Int) + (j : Int) < (s.size : Int) := by omega
          have hx3 : ((i : Int) + (j : Int)).toNat = i + j := by omega
          go_wp2_with fail
          have ks_0 := fun s => kw_cell s c0
          have ls_0 := fun s => kw_cell s d0
          have ls_1 := fun s => kw_cell s d1
          have ls_2 := fun s => kw_cell s d2
          have ls_3 := fun s => kw_cell s d3
          refine wp_region_kept (by kernel_rfl) (by kernel_rfl) ?_
          repeat (first | go_big_quiet_skip | (go_big_quiet_want; go_big_quiet_op; first | go_big_quiet_on | (apply Exists.intro; refine ⟨fun s => ?_, ?_⟩; (first | (go_at_call 77; exact call_kept (H _))); go_big_quiet_on)))
          refine wpQuiet_nil ?_
          rintro w7 ⟨⟨_, hk7⟩, rfl⟩
          replace hb := blk_kept hk7 hb
          replace hkw := kept_trans hkw hk7
          clear ks_0 ls_0 ls_1 ls_2 ls_3 c0 d0 d1 d2 d3 H hbt hx1 hx2 hx3
          cases y
          · rw [HMJ.out, Bool.not_false, if_pos rfl] at HB
            go_wp2_with fail
            exact ⟨⟨j + 1, by omega, by go_num, by rw [HB.out]; go_num, hb, hkw⟩, by simp [intOf]; omega⟩
          · rw [HMJ.out, Bool.not_true, if_neg (by decide)] at HB
            go_wp2_with fail
            exact ⟨⟨j + 1, by omega, by go_num, by rw [HB.out, Nat.add_zero], hb, hkw⟩, by simp [intOf]; omega⟩
        · obtain rfl : j = n := by omega
          have hmv := HMV.out
          subst hmv
          clear hcs hcl HCS HCL HMI H hb
          go_wp2_with fail
          go_ret2
          exact ⟨rfl, hkw⟩
    · rw [decide_eq_false hin, if_neg (by decide)]
      have hg : decide ((s.size : Int) - (n : Int) < (i : Int)) = true := decide_eq_true (by omega)
      have hg1 : (s.size : Int) - (n : Int) < (i : Int) := by omega
      go_enter Tryz.func46, Tryz.ntmps46
      go_wp2_with fail
      refine R.mono ?_
      rintro e w1 ⟨rfl, hk1⟩
      have e0 : w1.cell? ⟨w.heap.size, 0, none⟩ = some (.slice A n cap) := kept_cell hk1 c0
      clear R c0 c1 hb
      go_wp2_with fail
      go_ret2
      exact ⟨rfl, kept_trans ka hk1⟩
end Go.Proofs.YtdejablhpljdfaaGreat
namespace Go.Proofs.YtdejablhpljdfaaGreat
open Go.RowKit BG
attribute [local go_sem ↓] Go.wp_at_zero Go.wp_at_succ
set_option linter.unusedVariables false
theorem own_snoc {k : IntKind} {e : TypeId} {base : Nat} {w : World} {v : Value} {xs : List Int} {x : Int} (h : w.ownsRow base e 1 v (xs.length + 1) (xs.map (Value.int k) ++ [Value.int k x])) : Own k e base w v (xs ++ [x]) := by
  unfold Own
  rw [List.length_append, List.map_append]
  exact h
def missF (xs : List Int) (n : Nat) (s : ByteArray) (i : Nat) : Int := (missv xs n s i : Nat)
def outT (xs : List Int) (n : Nat) (K : Int) (s : ByteArray) (i : Nat) : List Int := if rightv xs n K = true then mk (min i (s.size + 1 - n)) (missF xs n s) else []
def countsv (xs : List Int) (n : Nat) (K : Int) (s : ByteArray) : List Int := if rightv xs n K = true then mk (s.size + 1 - n) (missF xs n s) else []
theorem outT_zero (xs : List Int) (n : Nat) (K : Int) (s : ByteArray) : outT xs n K s 0 = [] := by
  unfold outT; split
  · rw [Nat.zero_min]; rfl
  · rfl
theorem outT_yes {xs : List Int} {n : Nat} {K : Int} {s : ByteArray} {i : Nat} (h : atOk xs n K s i = true) : outT xs n K s (i + 1) = outT xs n K s i ++ [missF xs n s i] ∧ (atN xs n K s i : Int) = missF xs n s i := by
  have h2 := h
  unfold atOk at h
  rw [Bool.and_eq_true, decide_eq_true_eq] at h
  refine ⟨?_, by unfold atN missF; rw [if_pos h2]⟩
  unfold outT
  rw [if_pos h.1, if_pos h.1, show min (i + 1) (s.size + 1 - n) = i + 1 by omega, show min i (s.size + 1 - n) = i by omega, mk_succ]
theorem outT_no {xs : List Int} {n : Nat} {K : Int} {s : ByteArray} {i : Nat} (h : atOk xs n K s i = false) : outT xs n K s (i + 1) = outT xs n K s i := by
  unfold atOk at h
  unfold outT
  by_cases hr : rightv xs n K = true
  · rw [hr, Bool.true_and, decide_eq_false_iff_not] at h
    rw [if_pos hr, if_pos hr, show min (i + 1) (s.size + 1 - n) = s.size + 1 - n by omega, show min i (s.size + 1 - n) = s.size + 1 - n by omega]
  · rw [if_neg hr, if_neg hr]
theorem outT_all (xs : List Int) (n : Nat) (K : Int) (s : ByteArray) : outT xs n K s (s.size + 1) = countsv xs n K s := by
  unfold outT countsv
  rw [show min (s.size + 1) (s.size + 1 - n) = s.size + 1 - n by omega]
theorem outT_len (xs : List Int) (n : Nat) (K : Int) (s : ByteArray) (i : Nat) : (outT xs n K s i).length ≤ i := by
  unfold outT; split
  · rw [mk_length]; omega
  · exact Nat.zero_le _
def hitsT (ys : List Int) (k : Int) (q : Nat) : List Int := ((List.range q).filter fun i => decide (nth ys i ≤ k)).map fun i : Nat => (i : Int)
def hitsv (ys : List Int) (k : Int) : List Int := hitsT ys k ys.length
theorem hitsT_yes {ys : List Int} {k : Int} {q : Nat} (h : nth ys q ≤ k) : hitsT ys k (q + 1) = hitsT ys k q ++ [(q : Int)] := by
  unfold hitsT
  rw [List.range_succ, List.filter_append, List.map_append]
  simp [h]
theorem hitsT_no {ys : List Int} {k : Int} {q : Nat} (h : ¬ nth ys q ≤ k) : hitsT ys k (q + 1) = hitsT ys k q := by
  unfold hitsT
  rw [List.range_succ, List.filter_append, List.map_append]
  simp [h]
theorem hitsT_len (ys : List Int) (k : Int) (q : Nat) : (hitsT ys k q).length ≤ q := by
  unfold hitsT
  rw [List.length_map]
  have := List.length_filter_le (fun i => decide (nth ys i ≤ k)) (List.range q)
  rwa [List.length_range] at this
set_option maxRecDepth 100000 in
set_option maxHeartbeats 4000000 in
theorem rcounts_c (A : Option Addr) (cap n : Nat) (xs : List Int) (K : Int) (s : ByteArray) (hu : U64 xs) (hl : xs.length = 4 * n) (hsz : s.size ≤ 900000) (hn : n ≤ 1000000) (w : World) (hr : Rd .u64 w A xs) : Calls Tryz.prog 22 #[leafV A n cap K, .string s] w fun e w' => ∃ v, e = .returned v ∧ (Own .i64 3 w.heap.size w' v (countsv xs n K s) ∧ Kept w w') := by
  obtain ⟨i1, hif1, hy0, hy1, hy2⟩ := info_parts info_i64c
  have hm := hr.1
  have hb := blk_new w (.cells #[.slice A n cap, .int .i64 K] 61)
  have ka := kept_alloc (kept_refl w) (.cells #[.slice A n cap, .int .i64 K] 61)
  have R := fun i hi w1 h => rat_c A cap n xs K s i hu hl hi (by omega) hn w1 h
  have hyes := fun i => outT_yes (xs := xs) (n := n) (K := K) (s := s) (i := i)
  have hno := fun i => outT_no (xs := xs) (n := n) (K := K) (s := s) (i := i)
  have hall := outT_all xs n K s
  have hlen := outT_len xs n K s
  have h0 := outT_zero xs n K s
  have HYES := Lib.hid hyes
  have HNO := Lib.hid hno
  have HALL := Lib.hid hall
  have H0 := Lib.hid h0
  clear hyes hno hall h0
  generalize countsv xs n K s = cv at *
  generalize outT xs n K s = ou at *
  go_enter Tryz.func22, Tryz.ntmps22
  go_wp2_with fail
  go_loopw [5, 6] (fun v iv wr => ∃ i : Nat, i ≤ s.size + 1 ∧ iv = .int .i64 i ∧ wr.heap[w.heap.size]? = some (.cells #[.slice A n cap, .int .i64 K] 61 (0, 0)) ∧ Own .i64 3 (w.heap.size + 1) wr v (ou i) ∧ Kept w wr ∧ w.heap.size + 1 ≤ wr.heap.size) (fun _ iv _ => s.size + 1 - (intOf iv).toNat)
  case atStart => exact ⟨0, Nat.zero_le _, rfl, hb, by rw [H0.out]; exact Own.nil _ _ _ _, ka, by simp⟩
  case round =>
    clear hb ka
    obtain ⟨i, hi, rfl, hb, hown, hkw, hbase⟩ := hrel
    have c0 : wr.cell? ⟨w.heap.size, 0, none⟩ = some (.slice A n cap) := blk_cell hb 0
    have c1 : wr.cell? ⟨w.heap.size, 1, none⟩ = some (.int .i64 K) := blk_cell hb 1
    by_cases hlt : i ≤ s.size
    · have R := R i (by omega) wr (hr.kept hkw)
      have hyes := HYES.out i
      have hno := HNO.out i
      have hle := hlen i
      have HY := Lib.hid hyes
      have HN := Lib.hid hno
      clear hyes hno HYES HNO HALL H0 hlen
      generalize atN xs n K s i = an at *
      generalize missF xs n s i = mf at *
      cases hok : atOk xs n K s i
      · rw [hok] at R
        have hn1 := HN.out hok
        have HN1 := Lib.hid hn1
        clear hn1 HY HN hok
        go_wp2_with fail
        refine R.mono ?_
        rintro e w1 ⟨rfl, hk1⟩
        replace hb := blk_kept hk1 hb
        replace hown := hown.kept hk1
        replace hkw := kept_trans hkw hk1
        replace hbase := Nat.le_trans hbase hk1.size
        clear R c0 c1 hk1
        go_wp2_with fail
        exact ⟨⟨i + 1, by omega, by go_num, hb, by rw [HN1.out]; exact hown, hkw, hbase⟩, by simp [intOf]; omega⟩
      · rw [hok] at R
        obtain ⟨hn1, hn2⟩ := HY.out hok
        rw [hn2] at R
        have HN1 := Lib.hid hn1
        clear hn1 hn2 HY HN hok
        go_wp2_with fail
        refine R.mono ?_
        rintro e w1 ⟨rfl, hk1⟩
        replace hb := blk_kept hk1 hb
        replace hown := hown.kept hk1
        replace hkw := kept_trans hkw hk1
        replace hbase := Nat.le_trans hbase hk1.size
        clear R c0 c1 hk1
        have hown2 : World.ownsRow _ _ _ _ _ _ _ := hown
        go_wp2_with (at_builtin; refine wpList_append_own _ rfl _ _ 24 rfl (w.heap.size + 1) 3 i1 (.int .i64 0) 1 8 Tryz.underlying24 hif1 hy0 hy1 hy2 rfl (by decide) _ _ _ rfl (hown2.alloc _) ⟨w1.heap.size, 0, none⟩ 1 1 [.int .i64 mf] rfl rfl ?c1 ?c2 ?c3 ?c4 ?c5 ?_)
        case c1 =>
          intro q u hq
          match q, hq with
          | 0, hq => simp at hq; subst hq; simp [Addr.add]
        case c2 => intro u hu; simp at hu; subst hu; rfl
        case c3 => unfold maxLen; omega
        case c4 => omega
        case c5 => simp; omega
        · intro v' w5 hown' hgrow _
          have o5 := own_snoc hown'
          rw [← HN1.out] at o5
          have K5 := kept_grown (kept_alloc hkw _) (hown2.alloc _) (Nat.le_succ _) hgrow
          have hb5 := (hgrow.block w.heap.size (by simp; omega) (own_farN hown2 (Nat.lt_succ_self _))).trans (blk_alloc hb _)
          have hs5 := Nat.le_trans (show w.heap.size + 1 ≤ (w1.alloc (.cells #[.int .i64 mf] 3)).heap.size by simp; omega) hgrow.size
          clear hown' hgrow hown2 hown
          go_wp2_with fail
          exact ⟨⟨i + 1, by omega, by go_num, hb5, o5, K5, hs5⟩, by simp [intOf]; omega⟩
    · obtain rfl : i = s.size + 1 := by omega
      rw [HALL.out] at hown
      clear R HYES HNO HALL H0 hlen hb c0 c1
      go_wp2_with fail
      go_ret
      exact ⟨_, rfl, hown.less (Nat.le_succ _), hkw⟩
end Go.Proofs.YtdejablhpljdfaaGreat
set_option linter.unusedVariables false
namespace Go.Proofs.YtdejablhpljdfaaGreat
open Go.RowKit BG
theorem grown_blk {w w' : World} {row : Option Nat} (hg : w.grownBy w' row) {g : Nat} {o : Obj} (h : w.heap[g]? = some o) (hne : some g ≠ row) : w'.heap[g]? = some o := (hg.block g (blk_lt h) hne).trans h
theorem kept_grow {w0 w w1 : World} {row : Option Nat} (hk : Kept w0 w) (hg : w.grownBy w1 row) (hr : ∀ k, row = some k → w0.heap.size ≤ k) : Kept w0 w1 := hk.grown hg hk.size hr
theorem ownsRow_less {w : World} {base base' n size : Nat} {e : TypeId} {v : Value} {xs : List Value} (h : w.ownsRow base e size v n xs) (hb : base' ≤ base) : w.ownsRow base' e size v n xs := by
  obtain ⟨h1, h2⟩ := h
  refine ⟨h1, ?_⟩
  rcases h2 with h2 | ⟨g, cap, cur, hv, hg, r⟩
  · exact .inl h2
  · exact .inr ⟨g, cap, cur, hv, Nat.le_trans hb hg, r⟩
theorem app_one {k : IntKind} {t e : TypeId} {by_ : Nat} {i : TypeInfo} (hund : Tryz.prog.underlying t = some (.slice e)) (hi : Tryz.prog.info? e = some i) (hz : i.zero = some (.int k 0)) (hsz : i.size = 1) (hby : i.bytes = by_) (hb8 : by_ ≤ 8)
    {ops : Array Oper} {rest : List Oper} {o : Oper} {a : Act} {Q : Exit → Act → World → Prop} {wr w0 : World} {T : TypeId} {s x : Operand} {base : Nat} {v : Value} {l : List Int} {z : Int} (hg : o.guard = none)
    (ho : o.op = .call { callee := .builtin .append, args := #[s, x], argTypes := #[t, t] }) (hs : a.eval s = v) {H : Nat} (hx : a.eval x = .slice (some ⟨H, 0, none⟩) 1 1) (hH : wr.heap.size = H) (hown : Own k e base wr v l) (hlen : l.length ≤ 1000000000000)
    (hbw : base ≤ wr.heap.size) (hk : Kept w0 wr) (hb : w0.heap.size ≤ base)
    (h : ∀ v' w1, Own k e base w1 v' (l ++ [z]) → wr.grownBy w1 v.ownBlock → Kept w0 w1 → wpList Tryz.prog ops Q rest (a.put o.dst v') w1) : wpList Tryz.prog ops Q (o :: rest) a (wr.alloc (.cells #[.int k z] T)) := by
  subst hH
  have hown2 : World.ownsRow _ _ _ _ _ _ _ := hown
  refine wpList_append_own _ hg s x t ho base e i (.int k 0) 1 by_ hund hi hz hsz hby rfl (by decide) v l.length _ hs (hown2.alloc _) ⟨wr.heap.size, 0, none⟩ 1 1 [.int k z] hx rfl ?_ ?_ ?_ ?_ ?_ ?_
  · intro q u hq
    match q, hq with
    | 0, hq => simp at hq; subst hq; simp [Addr.add]
  · intro u hu; simp at hu; subst hu; rfl
  · unfold maxLen; omega
  · have := Nat.mul_le_mul (show l.length + 1 ≤ 1000000000001 by omega) hb8; omega
  · simp; omega
  · intro v' w1 hown' hgrow _
    have o5 := own_snoc hown'
    have K5 := kept_grown (kept_alloc hk _) (hown2.alloc _) hb hgrow
    refine h v' w1 o5 ⟨hgrow.os, hgrow.tape, hgrow.output, ?_, fun j hj hne => ?_⟩ K5
    · have := hgrow.size; simp at this; omega
    · rw [hgrow.block j (by simp; omega) hne]; exact Below.heap_alloc wr _ j hj
theorem app_cls {ops : Array Oper} {rest : List Oper} {o : Oper} {a : Act} {Q : Exit → Act → World → Prop} {wr w0 : World} {s x : Operand} {base : Nat} {v : Value} {n : Nat} {l : List Int} {c : Cl} (hg : o.guard = none)
    (ho : o.op = .call { callee := .builtin .append, args := #[s, x], argTypes := #[59, 59] }) (hs : a.eval s = v) {H : Nat} (hx : a.eval x = .slice (some ⟨H, 0, none⟩) 1 1) (hH : wr.heap.size = H) (hown : wr.ownsRow base 110 4 v n (l.map (Value.int .u64))) (hlen : n ≤ 1000000000000)
    (hbw : base ≤ wr.heap.size) (hk : Kept w0 wr) (hb : w0.heap.size ≤ base)
    (h : ∀ v' w1, w1.ownsRow base 110 4 v' (n + 1) ((l ++ clL c).map (Value.int .u64)) → wr.grownBy w1 v.ownBlock → Kept w0 w1 → wpList Tryz.prog ops Q rest (a.put o.dst v') w1) : wpList Tryz.prog ops Q (o :: rest) a (wr.alloc c.cells) := by
  subst hH
  obtain ⟨i1, hif1, hy0, hy1, hy2⟩ := info_parts info_class
  refine wpList_append_own _ hg s x 59 ho base 110 i1 _ 4 32 Tryz.underlying59 hif1 hy0 hy1 hy2 rfl (by decide) v n _ hs (hown.alloc _) ⟨wr.heap.size, 0, none⟩ 1 1 [.int .u64 c.a, .int .u64 c.b, .int .u64 c.c, .int .u64 c.d] hx rfl ?_ ?_ ?_ ?_ ?_ ?_
  · exact World.news_of_block (cs := #[.int .u64 c.a, .int .u64 c.b, .int .u64 c.c, .int .u64 c.d]) (t := 110) (fr := (0, 0)) (heap_alloc_new wr _)
  · simp [Value.oneCell']
  · unfold maxLen; omega
  · omega
  · simp; omega
  · intro v' w1 hown' hgrow _
    have K5 := kept_grown (kept_alloc hk _) (hown.alloc _) hb hgrow
    refine h v' w1 (by rw [List.map_append]; exact hown') ⟨hgrow.os, hgrow.tape, hgrow.output, ?_, fun j hj hne => ?_⟩ K5
    · have := hgrow.size; simp at this; omega
    · rw [hgrow.block j (by simp; omega) hne]; exact Below.heap_alloc wr _ j hj
theorem info_u8 : (Tryz.prog.info? 5).map (fun i => (i.zero, i.size, i.bytes)) = some (some (.int .u8 0), 1, 1) := by kernel_rfl
theorem wpList_str {w : World} {ops : Array Oper} {rest : List Oper} {o : Oper} {a : Act} {Q : Exit → Act → World → Prop} {x : Operand} {A : Addr} {cap n : Nat} (l : List UInt8) (hgd : o.guard = none)
    (ho : o.op = .convert 133 9 x) (hx : a.eval x = .slice (some A) n cap) (hn : l.length = n)
    (hc : ∀ j (hj : j < l.length), w.cell? (A.add j) = some (.int .u8 (l[j].toNat : Int))) (h : wpList Tryz.prog ops Q rest (a.put o.dst (.string ⟨l.toArray⟩)) w) : wpList Tryz.prog ops Q (o :: rest) a w := by
  subst hn
  refine wpList_plain hgd fun K hK => ?_
  have hrun := run_convert_bytes_back (P := Tryz.prog) w 133 9 5 A cap l Tryz.underlying133 Tryz.underlying5 Tryz.underlying9 hc
  unfold Oper.wp
  simp only [execOp, ho, hx, Sem.run_bind, hrun, Result.andThen_ok, Sem.run_pure]
  exact hK _ _ h
def ClsMap (w : World) (g : Nat) (keys : List Cl) : Prop := ∃ es clk, w.heap[g]? = some (.map es clk) ∧ es.toList.map (fun e => (e.key, e.val)) = keys.map fun x => (x.v, Value.bool true)
theorem ClsMap.lt {w : World} {g : Nat} {keys : List Cl} (h : ClsMap w g keys) : g < w.heap.size := by obtain ⟨es, clk, h, _⟩ := h; exact blk_lt h
theorem ClsMap.kept {w w1 : World} {g : Nat} {keys : List Cl} (h : ClsMap w g keys) (hk : Kept w w1) : ClsMap w1 g keys := by obtain ⟨es, clk, h, r⟩ := h; exact ⟨es, clk, blk_kept hk h, r⟩
theorem ClsMap.grown {w w1 : World} {g : Nat} {keys : List Cl} {row : Option Nat} (h : ClsMap w g keys) (hg : w.grownBy w1 row) (hne : some g ≠ row) : ClsMap w1 g keys := by obtain ⟨es, clk, h, r⟩ := h; exact ⟨es, clk, grown_blk hg h hne, r⟩
theorem ClsMap.new (w : World) : ClsMap (w.alloc (.map #[] 0)) w.heap.size [] := ⟨#[], 0, blk_new w _, rfl⟩
theorem findAsking_cls (x : Cl) (w : World) : ∀ (es : List MapEntry) (keys : List Cl) (i : Nat), es.map (fun e => (e.key, e.val)) = keys.map (fun x => (x.v, Value.bool true)) →
    ∃ r, (Instr.findAsking 110 x.v es i).run Tryz.prog w = .ok r w ∧ (r = none ∧ x ∉ keys ∨ ∃ j, r = some (j, .bool true) ∧ x ∈ keys)
  | [], [], i, _ => ⟨none, rfl, .inl ⟨rfl, by simp⟩⟩
  | [], _ :: _, _, h => by simp at h
  | _ :: _, [], _, h => by simp at h
  | e :: es, k :: keys, i, h => by
    simp only [List.map_cons, List.cons.injEq, Prod.mk.injEq] at h
    obtain ⟨⟨h1, h2⟩, h3⟩ := h
    have E := eqCl x k w
    unfold Instr.findAsking
    rw [h1, h2]
    by_cases hx : x = k
    · rw [decide_eq_true hx] at E
      refine ⟨some (i, .bool true), ?_, .inr ⟨i, rfl, by simp [hx]⟩⟩
      simp only [Sem.run_bind, Op.equal, show Op.maxDepth = 10000 from rfl, E, Result.andThen_ok, if_true, Sem.run_pure]
    · rw [decide_eq_false hx] at E
      obtain ⟨r, hr, hor⟩ := findAsking_cls x w es keys (i + 1) h3
      refine ⟨r, ?_, ?_⟩
      · simp only [Sem.run_bind, Op.equal, show Op.maxDepth = 10000 from rfl, E, Result.andThen_ok, Bool.false_eq_true, if_false]
        exact hr
      · rcases hor with ⟨a, b⟩ | ⟨j, a, b⟩
        · exact .inl ⟨a, by simp [hx, b]⟩
        · exact .inr ⟨j, a, by simp [b]⟩
theorem checkKey_int (b : Bool) (d : Nat) (t : TypeId) (k : IntKind) (ht : Tryz.prog.underlying t = some (.int k)) (z : Int) (w : World) : (Instr.checkKey b (d + 1) t (.int k z)).run Tryz.prog w = .ok () w := by
  simp [Instr.checkKey, run_underlying ht]
theorem checkKey_arr (b : Bool) (d : Nat) (x : Cl) (w : World) : (Instr.checkKey b (d + 2) 110 x.v).run Tryz.prog w = .ok () w := by
  have p : ∀ i, i < 4 → ∃ z, (part 108 #[Value.int .u64 x.a, .int .u64 x.b, .int .u64 x.c, .int .u64 x.d] (i * 1)).run Tryz.prog w = .ok (.int .u64 z) w := fun i hi => by
    match i, hi with
    | 0, _ => exact ⟨x.a, by simp [part, isAgg, run_underlying Tryz.underlying108]⟩
    | 1, _ => exact ⟨x.b, by simp [part, isAgg, run_underlying Tryz.underlying108]⟩
    | 2, _ => exact ⟨x.c, by simp [part, isAgg, run_underlying Tryz.underlying108]⟩
    | 3, _ => exact ⟨x.d, by simp [part, isAgg, run_underlying Tryz.underlying108]⟩
  have hs : (sizeOf 108).run Tryz.prog w = .ok 1 w := by kernel_rfl
  have hc := fun z => checkKey_int b d 108 .u64 Tryz.underlying108 z w
  rw [show d + 2 = (d + 1) + 1 from rfl, Instr.checkKey]
  simp only [Sem.run_bind, run_underlying Tryz.underlying110, Result.andThen_ok, Std.Legacy.Range.forIn_eq_forIn_range', Std.Legacy.Range.size, Nat.sub_zero, Nat.add_sub_cancel, Nat.div_one]
  have hl : ∀ i ∈ List.range' 0 4 1, i < 4 := fun i hi => by simpa using (List.mem_range'_1.1 hi).2
  generalize List.range' 0 4 1 = l at hl ⊢
  induction l with
  | nil => simp
  | cons i l ih =>
    obtain ⟨z, hz⟩ := p i (hl i (by simp))
    simp only [List.forIn_cons, Sem.run_bind, hs, hz, Result.andThen_ok, hc, Sem.run_pure]
    exact ih fun j hj => hl j (by simp [hj])
theorem checkKey_cls (b : Bool) (x : Cl) (w : World) : (Instr.checkKey b 10000 110 x.v).run Tryz.prog w = .ok () w := checkKey_arr b 9998 x w
theorem findKey_cls {w : World} {keys : List Cl} (x : Cl) {es : List MapEntry} (h : es.map (fun e => (e.key, e.val)) = keys.map fun x => (x.v, Value.bool true)) :
    ∃ r, (Instr.findKey 110 x.v es).run Tryz.prog w = .ok r w ∧ (r = none ∧ x ∉ keys ∨ ∃ j, r = some (j, .bool true) ∧ x ∈ keys) := by
  unfold Instr.findKey
  simp only [Sem.run_bind, run_underlying Tryz.underlying110, Result.andThen_ok]
  cases es with
  | nil =>
    cases keys with
    | nil => exact ⟨none, rfl, .inl ⟨rfl, by simp⟩⟩
    | cons k keys => simp at h
  | cons e es => simpa [Instr.findNow, Instr.sameNow] using findAsking_cls x w (e :: es) keys 0 h
theorem lookup_cls {w : World} {g : Nat} {keys : List Cl} (h : ClsMap w g keys) (x : Cl) : (Instr.lookup 265 (.map (some g)) x.v false).run Tryz.prog w = .ok (.bool (decide (x ∈ keys))) w := by
  obtain ⟨es, clk, hb, he⟩ := h
  obtain ⟨r, hr, hor⟩ := findKey_cls (w := w) x he
  have hz : (zeroValue 4).run Tryz.prog w = .ok (.bool false) w := by kernel_rfl
  unfold Instr.lookup
  simp only [Sem.run_bind, run_underlying Tryz.underlying265, Result.andThen_ok, MapKept.run_getObj_map hb, checkKey_cls, hr, Sem.run_pure]
  rcases hor with ⟨rfl, hx⟩ | ⟨j, rfl, hx⟩
  · simp [hz, hx]
  · simp [hx]
theorem update_cls {w : World} {g : Nat} {keys : List Cl} (h : ClsMap w g keys) {x : Cl} (hx : x ∉ keys) : ∃ w1, (Instr.mapUpdate 265 (.map (some g)) x.v (.bool true)).run Tryz.prog w = .ok () w1 ∧ ClsMap w1 g (keys ++ [x]) ∧ w.grownBy w1 (some g) := by
  obtain ⟨es, clk, hb, he⟩ := h
  obtain ⟨r, hr, hor⟩ := findKey_cls (w := w) x he
  rcases hor with ⟨rfl, _⟩ | ⟨_, _, hx'⟩
  · refine ⟨ChangeMaps.setBlock w g (.map (es.push { key := x.v, val := .bool true, born := clk }) (clk + 1)), ?_, ⟨es.push { key := x.v, val := .bool true, born := clk }, clk + 1, ?_, by simp [he]⟩, ?_⟩
    · unfold Instr.mapUpdate
      simp only [Sem.run_bind, run_underlying Tryz.underlying265, Result.andThen_ok, MapKept.run_getObj_map hb, checkKey_cls, hr]
      exact MapKept.run_setObj_map _ hb
    · exact ChangeMaps.heap_setBlock_same hb _
    · exact ⟨rfl, rfl, rfl, by simp [ChangeMaps.setBlock], fun i _ hi => ChangeMaps.heap_setBlock_other hb _ (fun e => hi (by rw [e]))⟩
  · exact absurd hx' hx
theorem wpList_lookup_cls {ops : Array Oper} {rest : List Oper} {o : Oper} {a : Act} {Q : Exit → Act → World → Prop} {w : World} {g : Nat} {keys : List Cl} {m x : Operand} (c : Cl) (hg : o.guard = none) (ho : o.op = Op.lookup 265 m x false)
    {b : Bool} (hm : a.eval m = .map (some g)) (hx : a.eval x = c.v) (h : ClsMap w g keys) (hb : decide (c ∈ keys) = b) (hK : wpList Tryz.prog ops Q rest (a.put o.dst (.bool b)) w) : wpList Tryz.prog ops Q (o :: rest) a w := by
  subst hb
  refine wpList_plain hg fun K hK' => ?_
  unfold Oper.wp
  simp [execOp, ho, hm, hx, lookup_cls h, Result.andThen]
  exact hK' _ _ hK
theorem wpList_update_cls {ops : Array Oper} {rest : List Oper} {o : Oper} {a : Act} {Q : Exit → Act → World → Prop} {w : World} {g : Nat} {keys : List Cl} {m x v : Operand} (c : Cl) (hg : o.guard = none) (ho : o.op = Op.mapUpdate 265 m x v ∨ o.op = Op.insert 265 m x v)
    (hm : a.eval m = .map (some g)) (hx : a.eval x = c.v) (hv : a.eval v = .bool true) (h : ClsMap w g keys) (hnew : c ∉ keys) (hK : ∀ w1, ClsMap w1 g (keys ++ [c]) → w.grownBy w1 (some g) → wpList Tryz.prog ops Q rest (a.put o.dst undef) w1) : wpList Tryz.prog ops Q (o :: rest) a w := by
  refine wpList_plain hg fun K hK' => ?_
  obtain ⟨w1, hr, h1, h2⟩ := update_cls h hnew
  unfold Oper.wp
  rcases ho with ho | ho <;> simp [execOp, ho, hm, hx, hv, hr, Result.andThen] <;> exact hK' _ _ (hK w1 h1 h2)
end Go.Proofs.YtdejablhpljdfaaGreat
namespace Go.Proofs.YtdejablhpljdfaaGreat
open Go.RowKit BG
attribute [local go_sem ↓] Go.wp_at_zero Go.wp_at_succ
set_option linter.unusedVariables false
def rowsb (w : Int) (n : Nat) : Bool := decide (1 ≤ w ∧ w ≤ 64 ∧ n % w.toNat = 0 ∧ n ≤ 64 * w.toNat)
abbrev fieldV (W : Int) (s : ByteArray) : Value := .agg #[.int .i64 W, .string s]
abbrev maskV (W : Int) (A : Option Addr) (n cap : Nat) : Value := .agg #[.int .i64 W, .slice A n cap]
theorem rowsb_no {w : Int} {n : Nat} (h : ¬ (1 ≤ w ∧ w ≤ 64 ∧ n % w.toNat = 0 ∧ n ≤ 64 * w.toNat)) : rowsb w n = false := decide_eq_false h
theorem div_le64 {n W : Nat} (h0 : 0 < W) (h : n % W = 0) : n / W ≤ 64 ↔ n ≤ 64 * W := by
  have h1 := Nat.div_add_mod n W
  rw [h, Nat.add_zero] at h1
  constructor
  · intro h2
    have := Nat.mul_le_mul_left W h2
    rw [h1, Nat.mul_comm] at this
    exact this
  · intro h2
    rw [← h1, Nat.mul_comm 64 W] at h2
    exact Nat.le_of_mul_le_mul_left h2 h0
set_option maxHeartbeats 4000000 in
theorem gridrows_c (w : Int) (n : Nat) (hn : n ≤ 9223372036854775807) (w0 : World) : Calls Tryz.prog 96 #[.int .i64 w, .int .i64 (n : Int)] w0 (Ret (.bool (rowsb w n)) w0) := by
  by_cases h1 : 1 ≤ w
  · obtain ⟨W, rfl⟩ : ∃ W : Nat, w = (W : Int) := ⟨w.toNat, by omega⟩
    have d1 : decide (1 ≤ (W : Int)) = true := decide_eq_true h1
    by_cases h2 : (W : Int) ≤ 64
    · have d2 : decide ((W : Int) ≤ 64) = true := decide_eq_true h2
      have hz : ((W : Int) == 0) = false := by rw [beq_eq_false_iff_ne]; omega
      have hr : ((n : Int) : Int).tmod (W : Int) = ((n % W : Nat) : Int) := by rw [Int.tmod_eq_emod_of_nonneg (by omega), Int.natCast_emod]
      have hq : ((n : Int) : Int).tdiv (W : Int) = ((n / W : Nat) : Int) := by rw [Int.tdiv_eq_ediv_of_nonneg (by omega), Int.natCast_ediv]
      have hq2 : wrap64 (((n : Int) : Int) / (W : Int)) = ((n / W : Nat) : Int) := by
        have : n / W ≤ n := Nat.div_le_self _ _
        have h0 : (0 : Int) ≤ ((n / W : Nat) : Int) := Int.natCast_nonneg _
        rw [← Int.natCast_ediv]
        generalize n / W = z at *
        unfold wrap64
        omega
      by_cases h3 : n % W = 0
      · have d3 : (((n % W : Nat) : Int) == 0) = true := by rw [h3]; rfl
        have h4' := div_le64 (n := n) (W := W) (by omega) h3
        by_cases h4 : n ≤ 64 * W
        · have d4 : decide (((n : Int) : Int) ≤ 64 * (W : Int)) = true := decide_eq_true (by omega)
          have d5 : decide (((n / W : Nat) : Int) ≤ 64) = true := decide_eq_true (by have := h4'.2 h4; omega)
          have hv : rowsb (W : Int) n = true := decide_eq_true ⟨h1, h2, h3, h4⟩
          rw [hv]
          go_enter Tryz.func96, Tryz.ntmps96
          go_wp2_with fail
          go_ret
          exact ⟨by simp, kept_refl _⟩
        · have d4 : decide (((n : Int) : Int) ≤ 64 * (W : Int)) = false := decide_eq_false (by omega)
          have d5 : decide (((n / W : Nat) : Int) ≤ 64) = false := decide_eq_false (fun h => h4 (h4'.1 (by omega)))
          rw [rowsb_no (w := (W : Int)) (n := n) fun h => h4 h.2.2.2]
          go_enter Tryz.func96, Tryz.ntmps96
          go_wp2_with fail
          go_ret
          exact ⟨by simp, kept_refl _⟩
      · have d3 : (((n % W : Nat) : Int) == 0) = false := by rw [beq_eq_false_iff_ne]; omega
        rw [rowsb_no (w := (W : Int)) (n := n) fun h => h3 h.2.2.1]
        go_enter Tryz.func96, Tryz.ntmps96
        go_wp2_with fail
        go_ret
        exact ⟨by simp, kept_refl _⟩
    · have d2 : decide ((W : Int) ≤ 64) = false := decide_eq_false h2
      rw [rowsb_no fun h => h2 h.2.1]
      go_enter Tryz.func96, Tryz.ntmps96
      go_wp2_with fail
      go_ret
      exact ⟨by simp, kept_refl _⟩
  · have d1 : decide (1 ≤ w) = false := decide_eq_false h1
    rw [rowsb_no fun h => h1 h.1]
    go_enter Tryz.func96, Tryz.ntmps96
    go_wp2_with fail
    go_ret
    exact ⟨by simp, kept_refl _⟩
theorem fieldright_c (w : Int) (s : ByteArray) (hn : s.size ≤ 9223372036854775807) (w0 : World) : Calls Tryz.prog 52 #[fieldV w s] w0 (Ret (.bool (rowsb w s.size)) w0) := by
  have ka := kept_alloc (kept_refl w0) (.cells #[.int .i64 w, .string s] 71)
  have R := fun w0 => gridrows_c w s.size hn w0
  generalize rowsb w s.size = b at *
  go_enter Tryz.func52, Tryz.ntmps52
  go_wp2_with fail
  refine (R _).mono ?_
  rintro e w1 ⟨rfl, hk1⟩
  go_wp2_with fail
  go_ret
  exact ⟨rfl, kept_trans ka hk1⟩
end Go.Proofs.YtdejablhpljdfaaGreat
namespace Go.Proofs.YtdejablhpljdfaaGreat
open Go.RowKit BG
attribute [local go_sem ↓] Go.wp_at_zero Go.wp_at_succ
set_option linter.unusedVariables false
def mayb (W : Int) (xs : List Int) (n : Nat) : Bool := rowsb W n && decide (0 < n) && !contv xs n zerov
set_option maxHeartbeats 2000000 in
theorem may_c (W : Int) (A : Option Addr) (cap n : Nat) (xs : List Int) (hu : U64 xs) (hl : xs.length = 4 * n) (w : World) (hr : Rd .u64 w A xs) : Calls Tryz.prog 53 #[maskV W A n cap] w (Ret (.bool (mayb W xs n)) w) := by
  have hm := hr.1
  have ka := kept_alloc (kept_refl w) (.cells #[.int .i64 W, .slice A n cap] 73)
  have hb := blk_new w (.cells #[.int .i64 W, .slice A n cap] 73)
  have R := fun w1 => gridrows_c W n (by omega) w1
  have C := fun w1 h => contains_c A cap n xs zerov hl w1 h
  unfold mayb
  generalize rowsb W n = rb at *
  generalize contv xs n zerov = cv at *
  unfold zerov at C
  dsimp only [Cl.v] at C
  go_enter Tryz.func53, Tryz.ntmps53
  go_wp2_with fail
  refine (R _).mono ?_
  rintro e w1 ⟨rfl, hk1⟩
  replace hb := blk_kept hk1 hb
  have hk := kept_trans ka hk1
  have c1 : w1.cell? ⟨w.heap.size, 1, none⟩ = some (.slice A n cap) := blk_cell hb 1
  clear R ka hk1
  cases rb
  · go_wp2_with fail
    go_ret
    exact ⟨by first | (simp; done) | simp [hn] | (simp; omega), hk⟩
  · by_cases hn : 0 < n
    · have hd : decide (0 < (n : Int)) = true := decide_eq_true (by omega)
      rw [decide_eq_true hn]
      go_wp2_with fail
      refine (C _ (hr.kept hk)).mono ?_
      rintro e w2 ⟨rfl, hk2⟩
      clear C c1
      go_wp2_with fail
      go_ret
      exact ⟨by simp [hn], kept_trans hk hk2⟩
    · have hd : decide (0 < (n : Int)) = false := decide_eq_false (by omega)
      rw [decide_eq_false hn]
      clear C
      go_wp2_with fail
      go_ret
      exact ⟨by first | (simp; done) | simp [hn] | (simp; omega), hk⟩
end Go.Proofs.YtdejablhpljdfaaGreat
namespace Go.Proofs.YtdejablhpljdfaaGreat
open Go.RowKit BG
attribute [local go_sem ↓] Go.wp_at_zero Go.wp_at_succ
set_option linter.unusedVariables false
def markOf (s : ByteArray) (x : Cl) (i : Nat) : Int := if hasv x (byteAt s i) = true then 1 else 0
def marksT (s : ByteArray) (x : Cl) (n q : Nat) : List Int := mk n fun i => if i < q then markOf s x i else 0
def marksv (s : ByteArray) (x : Cl) : List Int := mk s.size (markOf s x)
theorem marksT_zero (s : ByteArray) (x : Cl) (n : Nat) : marksT s x n 0 = mk n fun _ => 0 := mk_congr fun t _ => if_neg (Nat.not_lt_zero t)
theorem marksT_all (s : ByteArray) (x : Cl) : marksT s x s.size s.size = marksv s x := mk_congr fun t h => if_pos h
theorem marksT_len (s : ByteArray) (x : Cl) (n q : Nat) : (marksT s x n q).length = n := mk_length _ _
theorem marksT_yes {s : ByteArray} {x : Cl} {n q : Nat} (h : q < n) (hy : hasv x (byteAt s q) = true) : (marksT s x n q).set q 1 = marksT s x n (q + 1) := by
  unfold marksT
  rw [mk_set _ h]
  refine mk_congr fun t _ => ?_
  by_cases h1 : t = q
  · rw [if_pos h1, if_pos (by omega), h1]; unfold markOf; rw [if_pos hy]
  · rw [if_neg h1]
    by_cases h2 : t < q
    · rw [if_pos h2, if_pos (by omega)]
    · rw [if_neg h2, if_neg (by omega)]
theorem marksT_no {s : ByteArray} {x : Cl} {n q : Nat} (hy : ¬ hasv x (byteAt s q) = true) : marksT s x n (q + 1) = marksT s x n q := by
  unfold marksT
  refine mk_congr fun t _ => ?_
  by_cases h1 : t = q
  · rw [if_pos (by omega), if_neg (by omega), h1]; unfold markOf; rw [if_neg hy]
  · by_cases h2 : t < q
    · rw [if_pos h2, if_pos (by omega)]
    · rw [if_neg h2, if_neg (by omega)]
set_option maxHeartbeats 2000000 in
theorem marks1_c (s : ByteArray) (x : Cl) (hx : x.ok) (i gc gt : Nat) (hi : i < s.size) (hs : s.size ≤ 9223372036854775807) (w : World) (hc : w.heap[gc]? = some x.cells) (ht : w.cell? ⟨gt, 0, none⟩ = some (.string s)) : Calls Tryz.prog 108 #[.int .i64 (i : Int), .pointer (some ⟨gc, 0, none⟩), .pointer (some ⟨gt, 0, none⟩)] w (Ret (.bool (hasv x (byteAt s i))) w) := by
  have H := has_c x hx (byteAt s i) (byteAt_lt s i)
  have hbt := byteAt_eq hi
  have hb := cl_cells hc
  have hx1 : 0 ≤ (i : Int) := by omega
  have hx2 : (i : Int) < (s.size : Int) := by omega
  have hx3 : (i : Int).toNat = i := by omega
  generalize hasv x (byteAt s i) = y at *
  generalize byteAt s i = bb at *
  obtain ⟨x0, x1, x2, x3⟩ := x
  dsimp only [Cl.v, Cl.cells] at hb H
  obtain ⟨c0, c1, c2, c3⟩ := hb
  go_enter Tryz.func108, Tryz.ntmps108
  go_wp2_with fail
  have ks_0 := fun s => kw_cell s c0
  have ks_1 := fun s => kw_cell s c1
  have ks_2 := fun s => kw_cell s c2
  have ks_3 := fun s => kw_cell s c3
  have ks_4 := fun s => kw_cell s ht
  refine wp_region_kept (by kernel_rfl) (by kernel_rfl) ?_
  repeat (first | go_big_quiet_skip | (go_big_quiet_want; go_big_quiet_op; first | go_big_quiet_on | (apply Exists.intro; refine ⟨fun s => ?_, ?_⟩; (first | (go_at_call 93; exact call_kept (H _))); go_big_quiet_on)))
  refine wpQuiet_nil ?_
  rintro w7 ⟨⟨_, hk7⟩, rfl⟩
  clear ks_0 ks_1 ks_2 ks_3 ks_4 c0 c1 c2 c3 H
  go_wp2_with fail
  go_ret
  exact ⟨rfl, hk7⟩
set_option maxRecDepth 100000 in
set_option maxHeartbeats 8000000 in
theorem marksrow_c (s : ByteArray) (x : Cl) (hx : x.ok) (gc gt : Nat) (hs : s.size ≤ 1000000) (w : World) (hc : w.heap[gc]? = some x.cells) (ht : w.heap[gt]? = some (.cells #[.string s] 9 (0, 0))) : Calls Tryz.prog 107 #[.int .i64 (s.size : Nat), .func (.func 108) #[] #[.pointer (some ⟨gc, 0, none⟩), .pointer (some ⟨gt, 0, none⟩)]] w fun e w' => ∃ v, e = .returned v ∧ (Own .u64 108 w.heap.size w' v (marksv s x) ∧ Kept w w') := by
  obtain ⟨i1, hif1, hy0, hy1, hy2⟩ := info_parts info_u64n
  have M := fun i hi w1 a b => marks1_c s x hx i gc gt hi (by omega) w1 a b
  have hyes := fun q hq => marksT_yes (s := s) (x := x) (n := s.size) (q := q) hq
  have hno := fun q => marksT_no (s := s) (x := x) (n := s.size) (q := q)
  have hz := marksT_zero s x s.size
  have hall := marksT_all s x
  have hlen := marksT_len s x s.size
  have HYES := Lib.hid hyes
  have HNO := Lib.hid hno
  have HZ := Lib.hid hz
  have HALL := Lib.hid hall
  have HLEN := Lib.hid hlen
  clear hyes hno hz hall hlen
  generalize marksv s x = mv at *
  generalize marksT s x s.size = mt at *
  generalize hn : s.size = n at *
  have HN := Lib.hid hn
  clear hn
  go_enter Tryz.func107, Tryz.ntmps107
  go_wp2_with (refine wpList_make_full _ rfl (.tmp 7) (.tmp 7) 123 rfl w.heap.size 108 i1 (.int .u64 0) 1 Tryz.underlying123 hif1 hy0 hy1 .i64 .i64 _ _ n rfl rfl (by simp) (by simp) ?b2 ?b3 ?b4 ?_)
  case b2 => rw [hy2]; omega
  case b3 => unfold maxLen; omega
  case b4 => exact Nat.le_refl _
  intro w4 hown4 hgrow
  have K4 : Kept w w4 := (kept_refl w).grown hgrow (Nat.le_refl _) (fun k h => by cases h)
  rw [toList_madeCells_one] at hown4
  have hown5 : w4.ownsRow w.heap.size 108 1 (.slice (some ⟨w.heap.size, 0, none⟩) n n) n ((mt 0).map (Value.int .u64)) := by
    rw [HZ.out, mk_zero']; exact hown4
  clear hown4 hgrow HZ
  have hbz : Hid (w.heap.size ≤ w.heap.size) := Lib.hid (Nat.le_refl _)
  go_wp2_with fail
  go_loopw [11] (fun i wr => ∃ q : Nat, q ≤ n ∧ i = .int .i64 q ∧ wr.ownsRow w.heap.size 108 1 (.slice (some ⟨w.heap.size, 0, none⟩) n n) n ((mt q).map (Value.int .u64)) ∧ Kept w wr) (fun i _ => n - (intOf i).toNat)
  case atStart => exact ⟨0, Nat.zero_le _, rfl, hown5, K4⟩
  case round =>
    clear hown5 K4
    obtain ⟨q, hq, rfl, hown, hk⟩ := hrel
    by_cases hlt : q < n
    · have M := M q hlt wr (blk_kept hk hc) (blk_cell (blk_kept hk ht) 0)
      have hy := HYES.out q hlt
      have hno := HNO.out q
      have HY := Lib.hid hy
      have HO := Lib.hid hno
      clear hy hno HYES HNO HALL
      generalize hasv x (byteAt s q) = y at *
      cases y
      · have HO2 := Lib.hid (HO.out (by decide))
        clear HO HY
        go_wp2_with fail
        refine M.mono ?_
        rintro e w1 ⟨rfl, hk1⟩
        have hown1 := rowKept hown hk1
        clear M hown
        go_wp2_with fail
        exact ⟨⟨q + 1, by omega, by go_num, by rw [HO2.out]; exact hown1, kept_trans hk hk1⟩, by simp [intOf]; omega⟩
      · have HY2 := Lib.hid (HY.out rfl)
        clear HO HY
        go_wp2_with fail
        refine M.mono ?_
        rintro e w1 ⟨rfl, hk1⟩
        have hown1 := rowKept hown hk1
        have hkA := kept_trans hk hk1
        clear M hown hk hk1
        have d0 := World.ownsRow.cellAt hown1 q (by omega)
        rw [List.getElem?_map, List.getElem?_eq_getElem (by rw [HLEN.out]; omega), Option.map_some] at d0
        have f0 := World.ownsRow.frozenAt hown1 q
        have S := World.ownsRow.stored hown1 q (.int .u64 1)
        rw [← List.map_set, HY2.out] at S
        generalize (mt q)[q]'(by rw [HLEN.out]; omega) = old at *
        have ea : (⟨w.heap.size, 0, none⟩ : Addr).add q = ⟨w.heap.size, q, none⟩ := by unfold Addr.add; split <;> simp_all
        go_wp2_with fail
        exact ⟨⟨q + 1, by omega, by go_num, S.1, kept_grown hkA hown1 hbz.out S.2⟩, by simp [intOf]; omega⟩
    · obtain rfl : q = n := by omega
      rw [HALL.out] at hown
      clear M HYES HNO
      go_wp2_with fail
      go_ret
      exact ⟨_, rfl, by unfold Own; rw [show mv.length = q by rw [← HALL.out, HLEN.out]]; exact hown, hk⟩
theorem marks_c (s : ByteArray) (x : Cl) (hx : x.ok) (hs : s.size ≤ 1000000) (w : World) : Calls Tryz.prog 58 #[.string s, x.v] w fun e w' => ∃ v, e = .returned v ∧ (Own .u64 108 w.heap.size w' v (marksv s x) ∧ Kept w w') := by
  have ka := kept_alloc (kept_alloc (kept_refl w) (.cells #[.string s] 9)) x.cells
  have hc := blk_new1 w (.cells #[.string s] 9) x.cells
  have ht := blk_alloc (blk_new w (.cells #[.string s] 9)) x.cells
  have R := marksrow_c s x hx (w.heap.size + 1) w.heap.size hs _ hc ht
  generalize marksv s x = mv at *
  obtain ⟨x0, x1, x2, x3⟩ := x
  dsimp only [Cl.v, Cl.cells] at *
  go_enter Tryz.func58, Tryz.ntmps58
  go_wp2_with fail
  refine R.mono ?_
  rintro e w1 ⟨v1, rfl, own1, hk1⟩
  have o1 := own1.less ka.size
  clear R hc ht own1
  go_wp2_with fail
  go_ret
  exact ⟨_, rfl, o1, kept_trans ka hk1⟩
end Go.Proofs.YtdejablhpljdfaaGreat
namespace Go.Proofs.YtdejablhpljdfaaGreat
open Go.RowKit BG
attribute [local go_sem ↓] Go.wp_at_zero Go.wp_at_succ
set_option linter.unusedVariables false
def atP (F V x y i : Nat) : Nat := (y + i / V) * F + x + i % V
theorem tdiv_nat (j V : Nat) : (j : Int).tdiv (V : Int) = ((j / V : Nat) : Int) := by rw [Int.tdiv_eq_ediv_of_nonneg (by omega), Int.natCast_ediv]
theorem tmod_nat (j V : Nat) : (j : Int).tmod (V : Int) = ((j % V : Nat) : Int) := by rw [Int.tmod_eq_emod_of_nonneg (by omega), Int.natCast_emod]
theorem wrap_nat {n : Nat} (h : n ≤ 9223372036854775807) : wrap64 (n : Int) = (n : Int) := by unfold wrap64; omega
theorem wdiv_nat (j V : Nat) (h : j ≤ 9223372036854775807) : wrap64 ((j : Int) / (V : Int)) = ((j / V : Nat) : Int) := by
  rw [← Int.natCast_ediv]
  exact wrap_nat (Nat.le_trans (Nat.div_le_self _ _) h)
def standsv (xs : List Int) (n : Nat) (s : ByteArray) (F V x y : Nat) : Bool := (List.range n).all fun i => hasv (cls xs i) (byteAt s (atP F V x y i))
end Go.Proofs.YtdejablhpljdfaaGreat
