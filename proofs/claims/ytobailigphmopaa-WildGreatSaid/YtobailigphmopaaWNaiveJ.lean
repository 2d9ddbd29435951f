/-
  Layer 8 (naive), the document's: how many elements a leaf misses; where it is found.
-/
import Derived.Test.YtobailigphmopaaWLeafJ
namespace Go.Proofs.Ytobailigphmopaa
open Go.RowKit BG
attribute [local go_sem ↓] Go.wp_at_zero Go.wp_at_succ
set_option linter.unusedVariables false

theorem info_i64c : (Try.prog.info? 3).map (fun i => (i.zero, i.size, i.bytes)) = some (some (.int .i64 0), 1, 8) := by kernel_rfl
/-- Does a leaf miss element j at place i? -/
def misses (xs : List Int) (s : ByteArray) (i j : Nat) : Bool := !hasv (cls xs j) (byteAt s (i + j))
def missv (xs : List Int) (n : Nat) (s : ByteArray) (i : Nat) : Nat := (List.range n).countP (misses xs s i)
def atOk (xs : List Int) (n : Nat) (K : Int) (s : ByteArray) (i : Nat) : Bool := rightv xs n K && decide (i + n ≤ s.size)
def atN (xs : List Int) (n : Nat) (K : Int) (s : ByteArray) (i : Nat) : Nat := if atOk xs n K s i = true then missv xs n s i else 0
theorem missv_le (xs : List Int) (n : Nat) (s : ByteArray) (i : Nat) : missv xs n s i ≤ n := by
  have := List.countP_le_length (p := misses xs s i) (l := List.range n)
  rwa [List.length_range] at this
set_option maxRecDepth 100000 in
set_option maxHeartbeats 4000000 in
theorem rat_c (A : Option Addr) (cap n : Nat) (xs : List Int) (K : Int) (s : ByteArray) (i : Nat) (hu : U64 xs) (hl : xs.length = 4 * n) (hi : i ≤ 1000000) (hsz : s.size ≤ 1000000) (hn : n ≤ 1000000) (w : World) (hr : Rd .u64 w A xs) : Calls Try.prog 42 #[leafV A n cap K, .string s, .int .i64 (i : Nat)] w (Ret (.tuple #[.int .i64 (atN xs n K s i : Nat), .bool (atOk xs n K s i)]) w) := by
  have hm := hr.1
  have hb := blk_new w (.cells #[.slice A n cap, .int .i64 K] 27)
  have ka := kept_alloc (kept_refl w) (.cells #[.slice A n cap, .int .i64 K] 27)
  have c0 : (w.alloc (.cells #[.slice A n cap, .int .i64 K] 27)).cell? ⟨w.heap.size, 0, none⟩ = some (.slice A n cap) := blk_cell hb 0
  have c1 : (w.alloc (.cells #[.slice A n cap, .int .i64 K] 27)).cell? ⟨w.heap.size, 1, none⟩ = some (.int .i64 K) := blk_cell hb 1
  have R := rright_c A cap n xs K hu hl _ (hr.kept ka)
  unfold atN atOk
  cases hrv : rightv xs n K
  · rw [hrv] at R
    simp only [Bool.false_and, Bool.false_eq_true, if_false]
    clear hrv
    go_enter Try.func42, Try.ntmps42
    go_wp2_with fail
    refine R.mono ?_
    rintro e w1 ⟨rfl, hk1⟩
    clear R c0 c1 hb
    go_wp2_with fail
    go_ret2
    exact ⟨rfl, kept_trans ka hk1⟩
  · rw [hrv] at R
    clear hrv
    simp only [Bool.true_and]
    by_cases hin : i + n ≤ s.size
    · rw [decide_eq_true hin, if_pos rfl]
      have hg : decide ((s.size : Int) - (n : Int) < (i : Int)) = false := decide_eq_false (by omega)
      have hg1 : ¬ ((s.size : Int) - (n : Int) < (i : Int)) := by omega
      have H := fun j b hb w1 => rhas_c (cls xs j) (cls_ok hu j) b hb w1
      have hcs := fun j => count_succ (misses xs s i) j
      have hcl := fun j => List.countP_le_length (p := misses xs s i) (l := List.range j)
      have hmv : missv xs n s i = (List.range n).countP (misses xs s i) := rfl
      have hmi : ∀ j, misses xs s i j = !hasv (cls xs j) (byteAt s (i + j)) := fun _ => rfl
      have HCS := Lib.hid hcs
      have HCL := Lib.hid hcl
      have HMV := Lib.hid hmv
      have HMI := Lib.hid hmi
      clear hcs hcl hmv hmi
      generalize missv xs n s i = mv at *
      generalize misses xs s i = ms at *
      go_enter Try.func42, Try.ntmps42
      go_wp2_with fail
      refine R.mono ?_
      rintro e w1 ⟨rfl, hk1⟩
      replace hb := blk_kept hk1 hb
      replace ka := kept_trans ka hk1
      clear R c0 c1 hk1
      have c0 : w1.cell? ⟨w.heap.size, 0, none⟩ = some (.slice A n cap) := blk_cell hb 0
      go_wp2_with fail
      go_loopw [8, 9] (fun v iv wr => ∃ j : Nat, j ≤ n ∧ iv = .int .i64 j ∧ v = .int .i64 (((List.range j).countP ms : Nat) : Int) ∧ wr.heap[w.heap.size]? = some (.cells #[.slice A n cap, .int .i64 K] 27 (0, 0)) ∧ Kept w wr) (fun _ iv _ => n - (intOf iv).toNat)
      case atStart => exact ⟨0, Nat.zero_le _, rfl, rfl, hb, ka⟩
      case round =>
        clear hb ka c0
        obtain ⟨j, hj, rfl, rfl, hb, hkw⟩ := hrel
        have c0 : wr.cell? ⟨w.heap.size, 0, none⟩ = some (.slice A n cap) := blk_cell hb 0
        have hcs := HCS.out j
        have hcl := HCL.out j
        rw [List.length_range] at hcl
        by_cases hlt : j < n
        · obtain ⟨ad, hA, d0, d1, d2, d3⟩ := (hr.kept hkw).cl hl hlt
          have hij : i + j < s.size := by omega
          have hbt := byteAt_eq hij
          have H := H j (byteAt s (i + j)) (byteAt_lt s _)
          have hmi := HMI.out j
          have HMJ := Lib.hid hmi
          clear hmi
          have HB := Lib.hid hcs
          subst hA
          clear hcs HCS HCL HMV HMI
          generalize hasv (cls xs j) (byteAt s (i + j)) = y at *
          generalize byteAt s (i + j) = bb at *
          generalize cls xs j = x at *
          generalize (List.range j).countP ms = q at *
          obtain ⟨x0, x1, x2, x3⟩ := x
          dsimp only [Cl.v] at d0 d1 d2 d3 H
          have hx1 : 0 ≤ (i : Int) + (j : Int) := by omega
          have hx2 : (i : Int) + (j : Int) < (s.size : Int) := by omega
          have hx3 : ((i : Int) + (j : Int)).toNat = i + j := by omega
          go_wp2_with fail
          have ks_0 := fun s => kw_cell s c0
          have ls_0 := fun s => kw_cell s d0
          have ls_1 := fun s => kw_cell s d1
          have ls_2 := fun s => kw_cell s d2
          have ls_3 := fun s => kw_cell s d3
          refine wp_region_kept (by kernel_rfl) (by kernel_rfl) ?_
          repeat (first | go_big_quiet_skip | (go_big_quiet_want; go_big_quiet_op; first | go_big_quiet_on | (apply Exists.intro; refine ⟨fun s => ?_, ?_⟩; (first | (go_at_call 47; exact call_kept (H _))); go_big_quiet_on)))
          refine wpQuiet_nil ?_
          rintro w7 ⟨⟨_, hk7⟩, rfl⟩
          replace hb := blk_kept hk7 hb
          replace hkw := kept_trans hkw hk7
          clear ks_0 ls_0 ls_1 ls_2 ls_3 c0 d0 d1 d2 d3 H hbt hx1 hx2 hx3
          cases y
          · rw [HMJ.out, Bool.not_false, if_pos rfl] at HB
            go_wp2_with fail
            exact ⟨⟨j + 1, by omega, by go_num, by rw [HB.out]; go_num, hb, hkw⟩, by simp [intOf]; omega⟩
          · rw [HMJ.out, Bool.not_true, if_neg (by decide)] at HB
            go_wp2_with fail
            exact ⟨⟨j + 1, by omega, by go_num, by rw [HB.out, Nat.add_zero], hb, hkw⟩, by simp [intOf]; omega⟩
        · obtain rfl : j = n := by omega
          have hmv := HMV.out
          subst hmv
          clear hcs hcl HCS HCL HMI H hb
          go_wp2_with fail
          go_ret2
          exact ⟨rfl, hkw⟩
    · rw [decide_eq_false hin, if_neg (by decide)]
      have hg : decide ((s.size : Int) - (n : Int) < (i : Int)) = true := decide_eq_true (by omega)
      have hg1 : (s.size : Int) - (n : Int) < (i : Int) := by omega
      go_enter Try.func42, Try.ntmps42
      go_wp2_with fail
      refine R.mono ?_
      rintro e w1 ⟨rfl, hk1⟩
      have e0 : w1.cell? ⟨w.heap.size, 0, none⟩ = some (.slice A n cap) := kept_cell hk1 c0
      clear R c0 c1 hb
      go_wp2_with fail
      go_ret2
      exact ⟨rfl, kept_trans ka hk1⟩
end Go.Proofs.Ytobailigphmopaa
/-
  Layer 8 (naive), the document's: how many elements a leaf misses, place by place; where it is found.
-/
namespace Go.Proofs.Ytobailigphmopaa
open Go.RowKit BG
attribute [local go_sem ↓] Go.wp_at_zero Go.wp_at_succ
set_option linter.unusedVariables false

theorem own_snoc {k : IntKind} {e : TypeId} {base : Nat} {w : World} {v : Value} {xs : List Int} {x : Int} (h : w.ownsRow base e 1 v (xs.length + 1) (xs.map (Value.int k) ++ [Value.int k x])) : Own k e base w v (xs ++ [x]) := by
  unfold Own
  rw [List.length_append, List.map_append]
  exact h
/-- A call that tells one value and lays blocks alone, as one step of a region that draws its order. -/
theorem step_callG {P : Program} {w : World} {ops : Array Oper} {o : Oper} {a : Act} {K : Act → World → Prop} {Q : Exit → Act → World → Prop} {E : Prop} (hgd : o.guard = none) (f : FuncId) (xs : Array Operand) (ts : Array TypeId)
    (ho : o.op = .call { callee := .value (.func f), args := xs, argTypes := ts }) (args : Array Value) (hx : xs.map a.eval = args) (eg : ∀ args w, (callFunc f args).run P w = .ok (.enter f args) w) (R : Value → World → Prop) (C : Calls P f args w fun e w' => ∃ v, e = .returned v ∧ R v w') (h : ∀ v w', R v w' → K (a.put o.dst v) w') :
    if Region.wanted o (yielded ops a.tmps) = true then Oper.wp P o a w K Q else E := by
  have hw : Region.wanted o (yielded ops a.tmps) = true := by simp [Region.wanted, hgd]
  rw [if_pos hw]
  unfold Oper.wp execOp
  simp only [ho, resolve, hx]
  simp [go_sem, eg, Oper.upon]
  refine C.mono ?_
  rintro e w' ⟨v, rfl, hk⟩
  exact h v w' hk
theorem step_callG2 {P : Program} {w : World} {ops : Array Oper} {o : Oper} {a : Act} {K : Act → World → Prop} {Q : Exit → Act → World → Prop} {E : Prop} (hgd : o.guard = none) (f : FuncId) (x y : Operand) (ts : Array TypeId)
    (ho : o.op = .call { callee := .value (.func f), args := #[x, y], argTypes := ts }) (u u' : Value) (hx : a.eval x = u) (hy : a.eval y = u') (eg : ∀ args w, (callFunc f args).run P w = .ok (.enter f args) w) (R : Value → World → Prop) (C : Calls P f #[u, u'] w fun e w' => ∃ v, e = .returned v ∧ R v w') (h : ∀ v w', R v w' → K (a.put o.dst v) w') :
    if Region.wanted o (yielded ops a.tmps) = true then Oper.wp P o a w K Q else E :=
  step_callG hgd f #[x, y] ts ho #[u, u'] (by simp [hx, hy]) eg R C h
def missF (xs : List Int) (n : Nat) (s : ByteArray) (i : Nat) : Int := (missv xs n s i : Nat)
/-- What the places have been told so far. -/
def outT (xs : List Int) (n : Nat) (K : Int) (s : ByteArray) (i : Nat) : List Int := if rightv xs n K = true then mk (min i (s.size + 1 - n)) (missF xs n s) else []
def countsv (xs : List Int) (n : Nat) (K : Int) (s : ByteArray) : List Int := if rightv xs n K = true then mk (s.size + 1 - n) (missF xs n s) else []
theorem outT_zero (xs : List Int) (n : Nat) (K : Int) (s : ByteArray) : outT xs n K s 0 = [] := by
  unfold outT; split
  · rw [Nat.zero_min]; rfl
  · rfl
theorem outT_yes {xs : List Int} {n : Nat} {K : Int} {s : ByteArray} {i : Nat} (h : atOk xs n K s i = true) : outT xs n K s (i + 1) = outT xs n K s i ++ [missF xs n s i] ∧ (atN xs n K s i : Int) = missF xs n s i := by
  have h2 := h
  unfold atOk at h
  rw [Bool.and_eq_true, decide_eq_true_eq] at h
  refine ⟨?_, by unfold atN missF; rw [if_pos h2]⟩
  unfold outT
  rw [if_pos h.1, if_pos h.1, show min (i + 1) (s.size + 1 - n) = i + 1 by omega, show min i (s.size + 1 - n) = i by omega, mk_succ]
theorem outT_no {xs : List Int} {n : Nat} {K : Int} {s : ByteArray} {i : Nat} (h : atOk xs n K s i = false) : outT xs n K s (i + 1) = outT xs n K s i := by
  unfold atOk at h
  unfold outT
  by_cases hr : rightv xs n K = true
  · rw [hr, Bool.true_and, decide_eq_false_iff_not] at h
    rw [if_pos hr, if_pos hr, show min (i + 1) (s.size + 1 - n) = s.size + 1 - n by omega, show min i (s.size + 1 - n) = s.size + 1 - n by omega]
  · rw [if_neg hr, if_neg hr]
theorem outT_all (xs : List Int) (n : Nat) (K : Int) (s : ByteArray) : outT xs n K s (s.size + 1) = countsv xs n K s := by
  unfold outT countsv
  rw [show min (s.size + 1) (s.size + 1 - n) = s.size + 1 - n by omega]
theorem outT_len (xs : List Int) (n : Nat) (K : Int) (s : ByteArray) (i : Nat) : (outT xs n K s i).length ≤ i := by
  unfold outT; split
  · rw [mk_length]; omega
  · exact Nat.zero_le _
def hitsT (ys : List Int) (k : Int) (q : Nat) : List Int := ((List.range q).filter fun i => decide (nth ys i ≤ k)).map fun i : Nat => (i : Int)
def hitsv (ys : List Int) (k : Int) : List Int := hitsT ys k ys.length
theorem hitsT_yes {ys : List Int} {k : Int} {q : Nat} (h : nth ys q ≤ k) : hitsT ys k (q + 1) = hitsT ys k q ++ [(q : Int)] := by
  unfold hitsT
  rw [List.range_succ, List.filter_append, List.map_append]
  simp [h]
theorem hitsT_no {ys : List Int} {k : Int} {q : Nat} (h : ¬ nth ys q ≤ k) : hitsT ys k (q + 1) = hitsT ys k q := by
  unfold hitsT
  rw [List.range_succ, List.filter_append, List.map_append]
  simp [h]
theorem hitsT_len (ys : List Int) (k : Int) (q : Nat) : (hitsT ys k q).length ≤ q := by
  unfold hitsT
  rw [List.length_map]
  have := List.length_filter_le (fun i => decide (nth ys i ≤ k)) (List.range q)
  rwa [List.length_range] at this
set_option maxRecDepth 100000 in
set_option maxHeartbeats 4000000 in
theorem rcounts_c (A : Option Addr) (cap n : Nat) (xs : List Int) (K : Int) (s : ByteArray) (hu : U64 xs) (hl : xs.length = 4 * n) (hsz : s.size ≤ 900000) (hn : n ≤ 1000000) (w : World) (hr : Rd .u64 w A xs) : Calls Try.prog 22 #[leafV A n cap K, .string s] w fun e w' => ∃ v, e = .returned v ∧ (Own .i64 3 w.heap.size w' v (countsv xs n K s) ∧ Kept w w') := by
  obtain ⟨i1, hif1, hy0, hy1, hy2⟩ := info_parts info_i64c
  have hm := hr.1
  have hb := blk_new w (.cells #[.slice A n cap, .int .i64 K] 27)
  have ka := kept_alloc (kept_refl w) (.cells #[.slice A n cap, .int .i64 K] 27)
  have R := fun i hi w1 h => rat_c A cap n xs K s i hu hl hi (by omega) hn w1 h
  have hyes := fun i => outT_yes (xs := xs) (n := n) (K := K) (s := s) (i := i)
  have hno := fun i => outT_no (xs := xs) (n := n) (K := K) (s := s) (i := i)
  have hall := outT_all xs n K s
  have hlen := outT_len xs n K s
  have h0 := outT_zero xs n K s
  have HYES := Lib.hid hyes
  have HNO := Lib.hid hno
  have HALL := Lib.hid hall
  have H0 := Lib.hid h0
  clear hyes hno hall h0
  generalize countsv xs n K s = cv at *
  generalize outT xs n K s = ou at *
  go_enter Try.func22, Try.ntmps22
  go_wp2_with fail
  go_loopw [5, 6] (fun v iv wr => ∃ i : Nat, i ≤ s.size + 1 ∧ iv = .int .i64 i ∧ wr.heap[w.heap.size]? = some (.cells #[.slice A n cap, .int .i64 K] 27 (0, 0)) ∧ Own .i64 3 (w.heap.size + 1) wr v (ou i) ∧ Kept w wr ∧ w.heap.size + 1 ≤ wr.heap.size) (fun _ iv _ => s.size + 1 - (intOf iv).toNat)
  case atStart => exact ⟨0, Nat.zero_le _, rfl, hb, by rw [H0.out]; exact Own.nil _ _ _ _, ka, by simp⟩
  case round =>
    clear hb ka
    obtain ⟨i, hi, rfl, hb, hown, hkw, hbase⟩ := hrel
    have c0 : wr.cell? ⟨w.heap.size, 0, none⟩ = some (.slice A n cap) := blk_cell hb 0
    have c1 : wr.cell? ⟨w.heap.size, 1, none⟩ = some (.int .i64 K) := blk_cell hb 1
    by_cases hlt : i ≤ s.size
    · have R := R i (by omega) wr (hr.kept hkw)
      have hyes := HYES.out i
      have hno := HNO.out i
      have hle := hlen i
      have HY := Lib.hid hyes
      have HN := Lib.hid hno
      clear hyes hno HYES HNO HALL H0 hlen
      generalize atN xs n K s i = an at *
      generalize missF xs n s i = mf at *
      cases hok : atOk xs n K s i
      · rw [hok] at R
        have hn1 := HN.out hok
        have HN1 := Lib.hid hn1
        clear hn1 HY HN hok
        go_wp2_with fail
        refine R.mono ?_
        rintro e w1 ⟨rfl, hk1⟩
        replace hb := blk_kept hk1 hb
        replace hown := hown.kept hk1
        replace hkw := kept_trans hkw hk1
        replace hbase := Nat.le_trans hbase hk1.size
        clear R c0 c1 hk1
        go_wp2_with fail
        exact ⟨⟨i + 1, by omega, by go_num, hb, by rw [HN1.out]; exact hown, hkw, hbase⟩, by simp [intOf]; omega⟩
      · rw [hok] at R
        obtain ⟨hn1, hn2⟩ := HY.out hok
        rw [hn2] at R
        have HN1 := Lib.hid hn1
        clear hn1 hn2 HY HN hok
        go_wp2_with fail
        refine R.mono ?_
        rintro e w1 ⟨rfl, hk1⟩
        replace hb := blk_kept hk1 hb
        replace hown := hown.kept hk1
        replace hkw := kept_trans hkw hk1
        replace hbase := Nat.le_trans hbase hk1.size
        clear R c0 c1 hk1
        have hown2 : World.ownsRow _ _ _ _ _ _ _ := hown
        go_wp2_with (at_builtin; refine wpList_append_own _ rfl _ _ 39 rfl (w.heap.size + 1) 3 i1 (.int .i64 0) 1 8 Try.underlying39 hif1 hy0 hy1 hy2 rfl (by decide) _ _ _ rfl (hown2.alloc _) ⟨w1.heap.size, 0, none⟩ 1 1 [.int .i64 mf] rfl rfl ?c1 ?c2 ?c3 ?c4 ?c5 ?_)
        case c1 =>
          intro q u hq
          match q, hq with
          | 0, hq => simp at hq; subst hq; simp [Addr.add]
        case c2 => intro u hu; simp at hu; subst hu; rfl
        case c3 => unfold maxLen; omega
        case c4 => omega
        case c5 => simp; omega
        · intro v' w5 hown' hgrow _
          have o5 := own_snoc hown'
          rw [← HN1.out] at o5
          have K5 := kept_grown (kept_alloc hkw _) (hown2.alloc _) (Nat.le_succ _) hgrow
          have hb5 := (hgrow.block w.heap.size (by simp; omega) (own_farN hown2 (Nat.lt_succ_self _))).trans (blk_alloc hb _)
          have hs5 := Nat.le_trans (show w.heap.size + 1 ≤ (w1.alloc (.cells #[.int .i64 mf] 3)).heap.size by simp; omega) hgrow.size
          clear hown' hgrow hown2 hown
          go_wp2_with fail
          exact ⟨⟨i + 1, by omega, by go_num, hb5, o5, K5, hs5⟩, by simp [intOf]; omega⟩
    · obtain rfl : i = s.size + 1 := by omega
      rw [HALL.out] at hown
      clear R HYES HNO HALL H0 hlen hb c0 c1
      go_wp2_with fail
      go_ret
      exact ⟨_, rfl, hown.less (Nat.le_succ _), hkw⟩
set_option maxRecDepth 100000 in
set_option maxHeartbeats 4000000 in
theorem rhits_c (A : Option Addr) (cap : Nat) (ys : List Int) (k : Int) (hlen : ys.length ≤ 1000000) (w : World) (hr : Rd .i64 w A ys) : Calls Try.prog 41 #[.slice A ys.length cap, .int .i64 k] w fun e w' => ∃ v, e = .returned v ∧ (Own .i64 3 w.heap.size w' v (hitsv ys k) ∧ Kept w w') := by
  obtain ⟨i1, hif1, hy0, hy1, hy2⟩ := info_parts info_i64c
  have hyes := fun q => hitsT_yes (ys := ys) (k := k) (q := q)
  have hno := fun q => hitsT_no (ys := ys) (k := k) (q := q)
  have hle := hitsT_len ys k
  have hall : hitsv ys k = hitsT ys k ys.length := rfl
  have h0 : hitsT ys k 0 = [] := rfl
  have HYES := Lib.hid hyes
  have HNO := Lib.hid hno
  have HALL := Lib.hid hall
  have H0 := Lib.hid h0
  clear hyes hno hall h0
  generalize hitsv ys k = hv at *
  generalize hitsT ys k = ht at *
  generalize hn : ys.length = n at *
  have HN := Lib.hid hn
  clear hn
  go_enter Try.func41, Try.ntmps41
  go_wp2_with fail
  go_loopw [5, 6] (fun v iv wr => ∃ i : Nat, i ≤ n ∧ iv = .int .i64 i ∧ Own .i64 3 w.heap.size wr v (ht i) ∧ Kept w wr) (fun _ iv _ => n - (intOf iv).toNat)
  case atStart => exact ⟨0, Nat.zero_le _, rfl, by rw [H0.out]; exact Own.nil _ _ _ _, kept_refl _⟩
  case round =>
    obtain ⟨i, hi, rfl, hown, hkw⟩ := hrel
    by_cases hlt : i < n
    · obtain ⟨ad, rfl, c0⟩ := (hr.kept hkw).at_ (j := i) (by rw [HN.out]; exact hlt)
      have hyes := HYES.out i
      have hno := HNO.out i
      have hle := hle i
      have hbase := hkw.size
      have HY := Lib.hid hyes
      have HO := Lib.hid hno
      clear hyes hno HYES HNO HALL H0
      generalize nth ys i = y at *
      by_cases hy : y ≤ k
      · have HN1 := Lib.hid (HY.out hy)
        have hyd : decide (y ≤ k) = true := decide_eq_true hy
        have hown2 : World.ownsRow _ _ _ _ _ _ _ := hown
        clear HY HO
        go_wp2_with (at_builtin; refine wpList_append_own _ rfl _ _ 39 rfl w.heap.size 3 i1 (.int .i64 0) 1 8 Try.underlying39 hif1 hy0 hy1 hy2 rfl (by decide) _ _ _ rfl (hown2.alloc _) ⟨wr.heap.size, 0, none⟩ 1 1 [.int .i64 (i : Nat)] rfl rfl ?c1 ?c2 ?c3 ?c4 ?c5 ?_)
        case c1 =>
          intro q u hq
          match q, hq with
          | 0, hq => simp at hq; subst hq; simp [Addr.add]
        case c2 => intro u hu; simp at hu; subst hu; rfl
        case c3 => unfold maxLen; omega
        case c4 => omega
        case c5 => simp; omega
        · intro v' w5 hown' hgrow _
          have o5 := own_snoc hown'
          rw [← HN1.out] at o5
          have K5 := kept_grown (kept_alloc hkw _) (hown2.alloc _) (Nat.le_refl _) hgrow
          clear hown' hgrow hown2 hown c0
          go_wp2_with fail
          exact ⟨⟨i + 1, by omega, by go_num, o5, K5⟩, by simp [intOf]; omega⟩
      · have hyd : decide (y ≤ k) = false := decide_eq_false hy
        have HN1 := Lib.hid (HO.out (by omega))
        clear HY HO
        go_wp2_with fail
        exact ⟨⟨i + 1, by omega, by go_num, by rw [HN1.out]; exact hown, hkw⟩, by simp [intOf]; omega⟩
    · obtain rfl : i = n := by omega
      rw [← HALL.out] at hown
      clear HYES HNO HALL H0 hle
      go_wp2_with fail
      go_ret
      exact ⟨_, rfl, hown, hkw⟩
set_option maxRecDepth 100000 in
set_option maxHeartbeats 4000000 in
theorem rfind8_c (A : Option Addr) (cap n : Nat) (xs : List Int) (K : Int) (s : ByteArray) (hu : U64 xs) (hl : xs.length = 4 * n) (hsz : s.size ≤ 900000) (hn : n ≤ 1000000) (w : World) (hr : Rd .u64 w A xs) : Calls Try.prog 21 #[leafV A n cap K, .string s] w fun e w' => ∃ v, e = .returned v ∧ (Own .i64 3 w.heap.size w' v (hitsv (countsv xs n K s) K) ∧ Kept w w') := by
  have ka := kept_drew (kept_alloc (kept_refl w) (.cells #[.slice A n cap, .int .i64 K] 27))
  have hb : (w.alloc (.cells #[.slice A n cap, .int .i64 K] 27)).drew.heap[w.heap.size]? = some (.cells #[.slice A n cap, .int .i64 K] 27 (0, 0)) := blk_new w (.cells #[.slice A n cap, .int .i64 K] 27)
  have c0 : (w.alloc (.cells #[.slice A n cap, .int .i64 K] 27)).drew.cell? ⟨w.heap.size, 0, none⟩ = some (.slice A n cap) := blk_cell hb 0
  have c1 : (w.alloc (.cells #[.slice A n cap, .int .i64 K] 27)).drew.cell? ⟨w.heap.size, 1, none⟩ = some (.int .i64 K) := blk_cell hb 1
  have C := rcounts_c A cap n xs K s hu hl hsz hn _ (hr.kept ka)
  have hlc : (countsv xs n K s).length ≤ 1000000 := by
    unfold countsv; split
    · rw [mk_length]; omega
    · exact Nat.zero_le _
  have HH := fun B c w1 h => rhits_c B c (countsv xs n K s) K hlc w1 h
  generalize countsv xs n K s = cv at *
  generalize hitsv cv K = hv at *
  go_enter Try.func21, Try.ntmps21
  go_wp2_with fail
  go_region_law (first | (refine step_callG2 (by rfl) 22 _ _ _ (by rfl) _ _ (by rfl) (by rfl) (enters_of Try.func22 (by kernel_rfl) rfl) _ C ?_; intro v1 w1 hR1; obtain ⟨B1, cB1, hv1, _, _, rd1⟩ := hR1.1.rd; subst hv1; have hk1 := kept_trans ka hR1.2; have d1 : w1.cell? ⟨w.heap.size, 1, none⟩ = some (.int .i64 K) := kept_cell hR1.2 c1) | (refine step_callG2 (by rfl) 41 _ _ _ (by rfl) _ _ (by rfl) (by rfl) (enters_of Try.func41 (by kernel_rfl) rfl) _ (HH _ _ _ rd1) ?_; intro v2 w2 hR2; have hk2 := kept_trans hk1 hR2.2))
  all_goals (
    have o2 := hR2.1.less hk1.size
    clear C HH c0 c1 d1 hR1 hR2 rd1 hb
    go_wp2_with fail
    go_ret
    exact ⟨_, rfl, o2, hk2⟩)
end Go.Proofs.Ytobailigphmopaa
