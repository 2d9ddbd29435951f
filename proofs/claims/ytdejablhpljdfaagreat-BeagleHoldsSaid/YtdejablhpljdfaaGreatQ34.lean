/-
  Texts of one claim, joined: RowN, THolds, RBeagleHolds.
-/
import Derived.Deep.Strs
import Derived.Deep.Slices
import Derived.SizedLaws
import Derived.Lib.SmallJoins
import Derived.Test.YtdejablhpljdfaaGreatRows
import Derived.WalkKit
import Derived.ProofKit
import Derived.OpenShut
import Derived.ChangeOld
import Derived.Below
import Derived.Carry
import Derived.Test.YtdejablhpljdfaaGreatQ33
import Derived.Test.YtdejablhpljdfaaGreatQ26
import Derived.Test.YtdejablhpljdfaaGreatQ32
set_option linter.unusedVariables false
namespace Go.Proofs.YtdejablhpljdfaaGreat
open Go.ChangeShapes Go.WideShapes Go.ChangeAt Go.RowKit
section
variable {H : Type} {enc : TypeId × Value → H} {P : Program} {w : World} {base : Nat} {held : Bool} {t e f : TypeId} {k : IntKind}
abbrev Small (P : Program) (t : TypeId) (d : DataW H) : Prop := ∀ n ∈ d.weights P t, n ≤ reachBytes
theorem small_each {ts : List TypeId} {ds : List (DataW H)} (h : ∀ n ∈ DataW.weightsEach P ts ds, n ≤ reachBytes) {j : Nat} {t : TypeId} {d : DataW H} (ht : ts[j]? = some t) (hd : ds[j]? = some d) : Small P t d := fun n hn => h n (DataW.weights_mem_each ht hd n hn)
theorem small_all {ts : List TypeId} {ds : List (DataW H)} (h : (DataW.weightsEach P ts ds).all (· ≤ reachBytes) = true) {j : Nat} {t : TypeId} {d : DataW H} (ht : ts[j]? = some t) (hd : ds[j]? = some d) : Small P t d := small_each (fun n hn => by simpa using List.all_eq_true.1 h n hn) ht hd
theorem weights_mem_all : ∀ {ds : List (DataW H)} {d : DataW H}, d ∈ ds → ∀ n ∈ d.weights P e, n ∈ DataW.weightsAll P e ds
  | d0 :: ds, d, hd, n, hn => by
    simp only [DataW.weightsAll, List.mem_append]
    rcases List.mem_cons.1 hd with rfl | h
    · exact .inl hn
    · exact .inr (weights_mem_all h n hn)
theorem small_struct {fs : Array Field} {ps : List (DataW H)} (ht : P.underlying t = some (.struct fs)) (h : Small P t (.agg ps)) {j : Nat} {f : Field} {d : DataW H} (hf : fs[j]? = some f) (hd : ps[j]? = some d) : Small P f.type d := by
  have h' : ∀ n ∈ DataW.weightsEach P (fs.toList.map (·.type)) ps, n ≤ reachBytes := by
    intro n hn
    refine h n ?_
    simp only [DataW.weights, ht]
    exact hn
  refine small_each h' ?_ hd
  simp [hf]
theorem small_slice {es ss : List (DataW H)} (ht : P.underlying t = some (.slice e)) (h : Small P t (.slice es ss)) : (es.length + ss.length) * P.bytesOf e ≤ reachBytes ∧ ∀ d ∈ es, Small P e d := by
  constructor
  · exact h _ (by simp [DataW.weights, ht])
  · intro d hd n hn
    exact h n (by simp only [DataW.weights, ht]; exact List.mem_cons_of_mem _ (List.mem_append_left _ (weights_mem_all hd n hn)))
theorem ints_small {fuel : Nat} {cs : List Value} {x : DataW H × List MemPlace} (ht : P.underlying t = some (.slice e)) (he : P.underlying e = some (.int k)) (hce : P.cellsOf e = 1)
    (hf : DataW.trod enc P w base (fun _ => true) held fuel t cs = some x) (hs : Small P t x.1) :
    ∃ (A : Option Addr) (cap : Nat) (xs : List Int), cs = [.slice A xs.length cap] ∧ xs.length * P.bytesOf e ≤ reachBytes ∧ Rd k w A xs ∧ (∀ z ∈ xs, (Lit.int k z).wf = true) ∧ (A = none → xs.length = 0 ∧ cap = 0) ∧ xs.length ≤ cap := by
  rcases open_ints ht he hce hf with ⟨hcs, hx⟩ | ⟨a, len, cap, zs, hcs, _, hl, hm, hz, hx, hc, hw⟩
  · exact ⟨none, 0, [], hcs, by simp, Rd.nil _ _ _, by simp, fun _ => ⟨rfl, rfl⟩, by simp⟩
  · simp only [if_true] at hz
    rw [hx] at hs
    obtain ⟨hb, -⟩ := small_slice ht hs
    have hL : (zs.take len).length = len := by rw [List.length_take]; omega
    refine ⟨some a, cap, zs.take len, by rw [hL]; exact hcs, ?_, ⟨by rw [hL]; unfold maxLen at hm; omega, fun _ => ⟨a, rfl, fun j hj => ?_⟩⟩, fun z hz' => hw z (List.mem_of_mem_take hz'), fun h => (by cases h), (by rw [hL]; exact hl)⟩
    · refine Nat.le_trans (Nat.mul_le_mul_right _ ?_) hb
      simp only [lits, List.length_map]
      omega
    · rw [hL] at hj
      rw [hc j (by omega), nth_take hj]
      rfl
theorem pts_small {c fuel : Nat} {cs : List Value} {x : DataW H × List MemPlace} (ht : P.underlying t = some (.slice e)) (he : P.underlying e = some (.array c f)) (hf : P.underlying f = some (.int k)) (hcf : P.cellsOf f = 1) (hce : P.cellsOf e = c) (hby : c ≤ P.bytesOf e) (hc0 : 0 < c)
    (hfu : DataW.trod enc P w base (fun _ => true) held fuel t cs = some x) (hs : Small P t x.1) :
    ∃ (A : Option Addr) (cap n : Nat) (xs : List Int), cs = [.slice A n cap] ∧ xs.length = c * n ∧ Rd k w A xs ∧ (∀ z ∈ xs, (Lit.int k z).wf = true) := by
  obtain ⟨A, cap, n, xs, h1, h2, h3, h4, h5⟩ := pts_cells ht he hf hcf hce hc0 hfu
  refine ⟨A, cap, n, xs, h1, h2, h4 ?_, h5⟩
  rcases Go.Deep.open_slice ht hfu with ⟨hcs, hx⟩ | ⟨a, len, cap', m, n', D, Pl, hcs, _, hl, hm, hmm, hx, hel⟩
  · rw [hcs] at h1
    have : n = 0 := by simp at h1; omega
    subst this
    simp
  · rw [hcs] at h1
    have : n = len := by simp at h1; omega
    subst this
    rw [hx] at hs
    obtain ⟨hb, -⟩ := small_slice ht hs
    simp only [List.length_map, List.length_range] at hb
    have hb' : n * P.bytesOf e ≤ reachBytes := Nat.le_trans (Nat.mul_le_mul_right _ (by omega)) hb
    have hlc : c * n ≤ reachBytes := by rw [Nat.mul_comm]; exact Nat.le_trans (Nat.mul_le_mul_left _ hby) hb'
    unfold reachBytes at hlc
    omega
theorem len6 {α : Type} {l : List α} (h : l.length = 6) : ∃ a b c d e f, l = [a, b, c, d, e, f] := by
  match l, h with
  | [a, b, c, d, e, f], _ => exact ⟨a, b, c, d, e, f, rfl⟩
theorem node_cells {u g : TypeId} {fuel : Nat} {f0 f1 f2 g0 g1 : Field} {cs : List Value} {x : DataW H × List MemPlace} (hs : P.underlying t = some (.struct #[f0, f1, f2])) (hct : P.cellsOf t = 4) (h0 : f0.offset = 0) (h1 : f1.offset = 1) (h2 : f2.offset = 2) (hc0 : P.cellsOf f0.type = 1) (hc1 : P.cellsOf f1.type = 1) (hc2 : P.cellsOf f2.type = 2)
    (hi0 : P.underlying f0.type = some (.int .i64)) (hi1 : P.underlying f1.type = some (.int .i64)) (hs2 : P.underlying f2.type = some (.struct #[g0, g1])) (hg0 : g0.offset = 0) (hg1 : g1.offset = 1) (hd0 : P.cellsOf g0.type = 1) (hd1 : P.cellsOf g1.type = 1)
    (hp : P.underlying g0.type = some (.slice u)) (hu : P.underlying u = some (.array 4 g)) (hg : P.underlying g = some (.int .u64)) (hcg : P.cellsOf g = 1) (hcu : P.cellsOf u = 4) (hby : 4 ≤ P.bytesOf u) (hk : P.underlying g1.type = some (.int .i64))
    (hfu : DataW.trod enc P w base (fun _ => true) held fuel t cs = some x) (hsm : Small P t x.1) :
    ∃ y : Nd, cs = [.int .i64 y.k, .int .i64 y.n, .slice y.A y.m y.cap, .int .i64 y.K] ∧ y.ok w := by
  obtain ⟨y0, y1, y2, m, hx, hlen, e0, e1, e2⟩ := Go.Deep.trod_struct3 hs hfu
  rw [hx] at hsm
  have s2 := small_struct hs hsm (j := 2) (f := f2) (d := y2.1) rfl rfl
  rw [hct] at hlen
  obtain ⟨a, b, c, d, rfl⟩ := len4 hlen
  rw [h0, hc0] at e0
  rw [h1, hc1] at e1
  rw [h2, hc2] at e2
  simp only [List.drop_zero, List.take_succ_cons, List.take_zero, List.drop_succ_cons] at e0 e1 e2
  obtain ⟨k0, q0, _, _⟩ := DataW.trod_int hi0 e0
  obtain ⟨k1, q1, _, _⟩ := DataW.trod_int hi1 e1
  obtain ⟨z0, z1, m', hz, _, r0, r1⟩ := trod_struct2 hs2 e2
  rw [hz] at s2
  have s3 := small_struct hs2 s2 (j := 0) (f := g0) (d := z0.1) rfl rfl
  rw [hg0, hd0] at r0
  rw [hg1, hd1] at r1
  simp only [List.drop_zero, List.take_succ_cons, List.take_zero, List.drop_succ_cons] at r0 r1
  obtain ⟨A, cap, n, xs, q2, hl, hr, hw⟩ := pts_small hp hu hg hcg hcu hby (by decide) r0 s3
  obtain ⟨K, q3, _, _⟩ := DataW.trod_int hk r1
  obtain rfl : a = .int .i64 k0 := by simpa using q0
  obtain rfl : b = .int .i64 k1 := by simpa using q1
  obtain rfl : c = .slice A n cap := by simpa using q2
  obtain rfl : d = .int .i64 K := by simpa using q3
  exact ⟨⟨k0, k1, A, n, cap, K, xs⟩, rfl, hl, u64_wf hw, hr⟩
theorem open_nodes {u g : TypeId} {f0 f1 f2 g0 g1 : Field} {v : Value} {d : DataW H} {p : List MemPlace} {r : Reach} {b0 : Nat} (ht : P.underlying t = some (.slice e)) (hs : P.underlying e = some (.struct #[f0, f1, f2])) (hct : P.cellsOf e = 4) (h0 : f0.offset = 0) (h1 : f1.offset = 1) (h2 : f2.offset = 2) (hc0 : P.cellsOf f0.type = 1) (hc1 : P.cellsOf f1.type = 1) (hc2 : P.cellsOf f2.type = 2)
    (hi0 : P.underlying f0.type = some (.int .i64)) (hi1 : P.underlying f1.type = some (.int .i64)) (hs2 : P.underlying f2.type = some (.struct #[g0, g1])) (hg0 : g0.offset = 0) (hg1 : g1.offset = 1) (hd0 : P.cellsOf g0.type = 1) (hd1 : P.cellsOf g1.type = 1)
    (hp : P.underlying g0.type = some (.slice u)) (hu : P.underlying u = some (.array 4 g)) (hg : P.underlying g = some (.int .u64)) (hcg : P.cellsOf g = 1) (hcu : P.cellsOf u = 4) (hby : 4 ≤ P.bytesOf u) (hk : P.underlying g1.type = some (.int .i64)) (hsm : Small P t d)
    (hok : Value.okWide P w r b0 t v) (h : DataW.Trod enc P w base (fun _ => true) held t v d p) :
    ∃ (A : Option Addr) (cap : Nat) (l : List Nd), v = .slice A l.length cap ∧ l.length ≤ cap ∧ cap ≤ 9223372036854775807 ∧ (A = none → l.length = 0 ∧ cap = 0) ∧ RdN w A l := by
  obtain ⟨A, len, cap, rfl⟩ := okWide_slice ht hok
  obtain ⟨fuel, hfu⟩ := h
  rcases Go.Deep.open_slice ht hfu with ⟨hcs, hx⟩ | ⟨a, len', cap', m, n, D, Pl, hcs, _, hl, hm, hmm, hx, hel⟩
  · have : A = none ∧ len = 0 ∧ cap = 0 := by simpa [Value.cells] using hcs
    obtain ⟨rfl, rfl, rfl⟩ := this
    exact ⟨none, 0, [], rfl, by simp, by simp, fun _ => ⟨rfl, rfl⟩, by simp, by simp, by simp⟩
  · have : A = some a ∧ len = len' ∧ cap = cap' := by simpa [Value.cells] using hcs
    obtain ⟨rfl, rfl, rfl⟩ := this
    simp only [if_true] at hmm
    have hd : d = .slice ((List.range len).map D) ((List.range (m - len)).map fun j => D (len + j)) := congrArg Prod.fst hx
    rw [hd] at hsm
    obtain ⟨-, hse⟩ := small_slice ht hsm
    have each : ∀ i, ∃ y : Nd, i < len → NdAt w (a.add (i * 4)) y ∧ y.ok w := by
      intro i
      by_cases hi : i < len
      · obtain ⟨cs', q1, q2⟩ := hel i (by omega)
        rw [hct] at q1
        obtain ⟨_, hlen, hc⟩ := World.cells?_some q1
        obtain ⟨y, rfl, hy⟩ := node_cells hs hct h0 h1 h2 hc0 hc1 hc2 hi0 hi1 hs2 hg0 hg1 hd0 hd1 hp hu hg hcg hcu hby hk q2 (hse _ (List.mem_map.2 ⟨i, List.mem_range.2 hi, rfl⟩))
        refine ⟨y, fun _ => ⟨⟨?_, ?_, ?_, ?_⟩, hy⟩⟩
        · have := hc 0 (by decide)
          rw [add_two] at this
          exact this
        · have := hc 1 (by decide)
          rw [add_two, ← add_more a _ (by decide)] at this
          exact this
        · have := hc 2 (by decide)
          rw [add_two, ← add_more a _ (by decide)] at this
          exact this
        · have := hc 3 (by decide)
          rw [add_two, ← add_more a _ (by decide)] at this
          exact this
      · exact ⟨⟨0, 0, none, 0, 0, 0, []⟩, fun h => absurd h hi⟩
    obtain ⟨F, hF⟩ := Classical.axiomOfChoice each
    have hL : ((List.range len).map F).length = len := by simp
    refine ⟨some a, cap, (List.range len).map F, by rw [hL], by rw [hL]; exact hl, by unfold maxLen at hm; omega, (fun h => by cases h), by rw [hL]; unfold maxLen at hm; omega, fun _ => ⟨a, rfl, fun j y hy => ?_⟩, fun y hy => ?_⟩
    · have hj : j < len := by
        rcases Nat.lt_or_ge j len with h' | h'
        · exact h'
        · rw [List.getElem?_eq_none (by rw [hL]; omega)] at hy; cases hy
      rw [List.getElem?_map, List.getElem?_range hj, Option.map_some] at hy
      cases hy
      exact (hF j hj).1
    · obtain ⟨i, hi, rfl⟩ := List.mem_map.1 hy
      exact (hF i (List.mem_range.1 hi)).2
abbrev playV (T : ByteArray) (A : Option Addr) (n cap : Nat) (fail F Z limit : Int) : Value := .agg #[.string T, .slice A n cap, .int .i64 fail, .int .i64 F, .int .i64 Z, .int .i64 limit]
theorem open_play {u : TypeId} {f0 f1 f2 f3 f4 g0 g1 : Field} {v : Value} {d : DataW H} {p : List MemPlace} {r : Reach} {b0 : Nat} (hs : P.underlying t = some (.struct #[f0, f1, f2, f3, f4])) (hct : P.cellsOf t = 6) (h0 : f0.offset = 0) (h1 : f1.offset = 1) (h2 : f2.offset = 2) (h3 : f3.offset = 3) (h4 : f4.offset = 5)
    (hc0 : P.cellsOf f0.type = 1) (hc1 : P.cellsOf f1.type = 1) (hc2 : P.cellsOf f2.type = 1) (hc3 : P.cellsOf f3.type = 2) (hc4 : P.cellsOf f4.type = 1)
    (hi0 : P.underlying f0.type = some .string) (hi1 : P.underlying f1.type = some (.slice u)) (hu : P.underlying u = some (.int .i64)) (hcu : P.cellsOf u = 1) (hby : P.bytesOf u = 8) (hi2 : P.underlying f2.type = some (.int .i64)) (hs3 : P.underlying f3.type = some (.struct #[g0, g1])) (hg0 : g0.offset = 0) (hg1 : g1.offset = 1) (hd0 : P.cellsOf g0.type = 1) (hd1 : P.cellsOf g1.type = 1)
    (hk0 : P.underlying g0.type = some (.int .i64)) (hk1 : P.underlying g1.type = some (.int .i64)) (hi4 : P.underlying f4.type = some (.int .i64)) (hsm : Small P t d)
    (hok : Value.okWide P w r b0 t v) (h : DataW.Trod enc P w base (fun _ => true) held t v d p) :
    ∃ (T : ByteArray) (A : Option Addr) (cap : Nat) (ys : List Int) (fail F Z limit : Int), v = playV T A ys.length cap fail F Z limit ∧ T.size ≤ 9223372036854775807 ∧ ys.length ≤ 17592186043904 ∧ (A = none → ys.length = 0 ∧ cap = 0) ∧ Rd .i64 w A ys ∧
      (∀ z ∈ ys, (Lit.int .i64 z).wf = true) ∧ (Lit.int .i64 fail).wf = true ∧ (Lit.int .i64 F).wf = true ∧ (Lit.int .i64 Z).wf = true ∧ (Lit.int .i64 limit).wf = true := by
  obtain ⟨cs, rfl, hsz⟩ := okWide_struct hs hok
  obtain ⟨fuel, hfu⟩ := h
  obtain ⟨xs, n, _, hx, hlen, hxl, hf⟩ := DataW.trod_struct hs hfu
  have hd : d = .agg (xs.map (·.1)) := congrArg Prod.fst hx
  rw [hd] at hsm
  have e0 := hf 0 f0 rfl
  have e1 := hf 1 f1 rfl
  have e2 := hf 2 f2 rfl
  have e3 := hf 3 f3 rfl
  have e4 := hf 4 f4 rfl
  rw [h0, hc0] at e0
  rw [h1, hc1] at e1
  rw [h2, hc2] at e2
  rw [h3, hc3] at e3
  rw [h4, hc4] at e4
  obtain ⟨x0, x1, x2, x3, x4, rfl⟩ : ∃ a b c d e, xs = [a, b, c, d, e] := by
    match xs, hxl with
    | [a, b, c, d, e], _ => exact ⟨a, b, c, d, e, rfl⟩
  have s1 := small_struct hs hsm (j := 1) (f := f1) (d := x1.1) rfl rfl
  obtain ⟨a, b, c, d, e, f, e6⟩ := len6 (l := cs.toList) (by simp; rw [hsz, hct])
  have hcs : cs = #[a, b, c, d, e, f] := by rw [← Array.toArray_toList (xs := cs), e6]
  subst hcs
  simp only [Value.cells, List.drop_zero, List.take_succ_cons, List.take_zero, List.drop_succ_cons, List.getElem?_cons_zero, List.getElem?_cons_succ] at e0 e1 e2 e3 e4
  obtain ⟨T, q0, _, hT⟩ := DataW.trod_string hi0 e0
  obtain ⟨A, cap, ys, q1, hb, hr, hw, hn, _⟩ := ints_small hi1 hu hcu e1 s1
  obtain ⟨fail, q2, _, w2⟩ := DataW.trod_int hi2 e2
  obtain ⟨z0, z1, m', _, _, r0, r1⟩ := trod_struct2 hs3 e3
  rw [hg0, hd0] at r0
  rw [hg1, hd1] at r1
  simp only [List.drop_zero, List.take_succ_cons, List.take_zero, List.drop_succ_cons] at r0 r1
  obtain ⟨F, q3, _, w3⟩ := DataW.trod_int hk0 r0
  obtain ⟨Z, q4, _, w4⟩ := DataW.trod_int hk1 r1
  obtain ⟨limit, q5, _, w5⟩ := DataW.trod_int hi4 e4
  obtain rfl : a = .string T := by simpa using q0
  obtain rfl : b = .slice A ys.length cap := by simpa using q1
  obtain rfl : c = .int .i64 fail := by simpa using q2
  obtain rfl : d = .int .i64 F := by simpa using q3
  obtain rfl : e = .int .i64 Z := by simpa using q4
  obtain rfl : f = .int .i64 limit := by simpa using q5
  rw [hby] at hb
  unfold reachBytes at hb
  exact ⟨T, A, cap, ys, fail, F, Z, limit, rfl, by unfold maxLen at hT; omega, by omega, hn, hr, hw, w2, w3, w4, w5⟩
end
end Go.Proofs.YtdejablhpljdfaaGreat
namespace Go.Proofs.YtdejablhpljdfaaGreat
open Go.RowKit BG
attribute [local go_sem ↓] Go.wp_at_zero Go.wp_at_succ run_max_at run_min_at
set_option linter.unusedVariables false
theorem ptr_nil1 (a : Addr) (w : World) : (binOp .eql 45 (.pointer (some a)) (.pointer none)).run Tryz.prog w = .ok (.bool false) w := by kernel_rfl
theorem ptr_nil2 (a : Addr) (w : World) : (binOp .eql 48 (.pointer (some a)) (.pointer none)).run Tryz.prog w = .ok (.bool false) w := by kernel_rfl
def goM : Value → Nat
  | .bool true => 1
  | _ => 0
set_option maxRecDepth 100000 in
set_option maxHeartbeats 32000000 in
theorem beagleHolds_w (A : Option Addr) (cap : Nat) (l : List Nd) (T : ByteArray) (PA : Option Addr) (pcap : Nat) (ys : List Int) (fail F Z limit : Int) (hcap : l.length ≤ cap) (hcap2 : cap ≤ 9223372036854775807) (hA : A = none → l.length = 0 ∧ cap = 0) (hT : T.size ≤ 9223372036854775807) (hy : ys.length ≤ 17592186043904) (hPA : PA = none → ys.length = 0 ∧ pcap = 0)
    (w : World) (hr : RdN w A l) (hp : Rd .i64 w PA ys) :
    Calls Tryz.prog 4 #[.slice A l.length cap, playV T PA ys.length pcap fail F Z limit] w (Ret (.bool true) w) := by
  have AL := alive_c
  have hpn1 := ptr_nil1
  have hpn2 := ptr_nil2
  have hb := blk_new w (.cells #[.string T, .slice PA ys.length pcap, .int .i64 fail, .int .i64 F, .int .i64 Z, .int .i64 limit] 44)
  have ka := kept_alloc (kept_refl w) (.cells #[.string T, .slice PA ys.length pcap, .int .i64 fail, .int .i64 F, .int .i64 Z, .int .i64 limit] 44)
  have q := blk_cell hb
  have q0 := q 0
  have q1 := q 1
  have q2 := q 2
  have q3 := q 3
  have q4 := q 4
  have q5 := q 5
  clear q
  have FN := fun w1 h => feednew_c T PA pcap ys fail hT hy w1 hPA h
  by_cases hE : snE l F Z limit = 0
  · have hEv : evE l F Z = 0 := by
      unfold snE at hE
      by_cases h : evE l F Z = 0
      · exact h
      · rw [if_pos h] at hE; exact absurd hE h
    have hF5 : 0 ≤ F ∧ F ≤ 5 := by
      unfold evE at hEv
      by_cases h : qrightv l = false ∨ F < 0 ∨ 5 < F
      · rw [if_pos h] at hEv; omega
      · constructor
        · rcases Int.lt_or_le F 0 with h' | h'
          · exact absurd (.inr (.inl h')) h
          · exact h'
        · rcases Int.lt_or_le 5 F with h' | h'
          · exact absurd (.inr (.inr h')) h
          · exact h'
    have hL : (longv l : Int) ≤ limit ∧ limit ≤ 10000 := by
      unfold snE at hE
      rw [if_neg (fun h => h hEv)] at hE
      by_cases h : limit < (longv l : Nat) ∨ 10000 < limit
      · rw [if_pos h] at hE; omega
      · constructor
        · rcases Int.lt_or_le limit (longv l : Nat) with h' | h'
          · exact absurd (.inl h') h
          · exact h'
        · rcases Int.lt_or_le 10000 limit with h' | h'
          · exact absurd (.inr h') h
          · exact h'
    have hqr : qrightv l = true := by
      unfold evE at hEv
      cases hb : qrightv l
      · rw [if_pos (.inl hb)] at hEv; omega
      · rfl
    obtain ⟨h64, -, -, -⟩ := anybad_ok hqr
    obtain ⟨Fn, rfl⟩ : ∃ n : Nat, F = (n : Nat) := ⟨F.toNat, by omega⟩
    obtain ⟨ln, rfl⟩ : ∃ n : Nat, limit = (n : Nat) := ⟨limit.toNat, by omega⟩
    have NW := fun w1 h => snew_yes A cap l Fn ln Z hcap hcap2 hEv (by omega) (by omega) hA w1 h
    have LO := fun w1 h => longest_c A cap l (by omega) (fun x hx => (hr.2.2 x hx).m_le) w1 h
    have hd1 : decide ((100 : Int) < (l.length : Int)) = false := decide_eq_false (by omega)
    have hd1n : decide (100 < l.length) = false := decide_eq_false (by omega)
    have h1g := qlong_pos hqr
    have HS := Lib.hid (⟨hL, h64, hqr, h1g⟩ : _ ∧ _ ∧ _ ∧ _)
    clear hE hEv hF5 hL hqr h1g
    generalize hlg : longv l = lg at *
    go_enter Tryz.func4, Tryz.ntmps4
    go_wp2_with fail
    refine (NW _ (hr.kept ka)).mono ?_
    rintro e w1 ⟨c, rfl, k1, hNP⟩
    have hwA : (w.alloc (.cells #[.string T, .slice PA ys.length pcap, .int .i64 fail, .int .i64 Fn, .int .i64 Z, .int .i64 ln] 44)).heap.size = w.heap.size + 1 := by simp
    have hrA := hr.kept ka
    have hpA := hp.kept ka
    have hbA := hb
    replace hb := blk_kept k1 hb
    clear q0 q1 q2 q3 q4 q5 NW
    generalize w.alloc (.cells #[.string T, .slice PA ys.length pcap, .int .i64 fail, .int .i64 Fn, .int .i64 Z, .int .i64 ln] 44) = wA at *
    have HK0 := Lib.hid (⟨ka, k1, hNP, hwA, hrA, hbA⟩ : _ ∧ _ ∧ _ ∧ _ ∧ _ ∧ _)
    replace ka := kept_trans ka k1
    clear hNP k1 hwA hrA hbA hpA
    have q := blk_cell hb
    have q0 := q 0
    have q1 := q 1
    have q2 := q 2
    clear q
    go_wp2_with fail
    refine (FN _ (hp.kept ka)).mono ?_
    rintro e w2 ⟨Bf, P, pc, rfl, hBf, hf, hPo, k2⟩
    replace hb := blk_kept k2 hb
    have ka2 := kept_trans ka k2
    clear q0 q1 q2 FN
    have q := blk_cell hb
    have q0 := q 0
    have q1 := q 1
    have q4 := q 4
    clear q
    by_cases h2 : T.size ≤ 200
    · have hd2 : decide ((200 : Int) < (T.size : Int)) = false := decide_eq_false (by omega)
      have hd2n : decide (200 < T.size) = false := decide_eq_false (by omega)
      by_cases h3 : ys.length ≤ 300
      · have hd3 : decide ((300 : Int) < (ys.length : Int)) = false := decide_eq_false (by omega)
        have hd3n : decide (300 < ys.length) = false := decide_eq_false (by omega)
        have hto := feedTo_le T fail
        have hfe : feedEnd T fail ≠ 0 := by unfold feedEnd; split <;> decide
        generalize feedTo T fail = to at *
        generalize feedEnd T fail = fe at *
        obtain ⟨kA, kA1, ⟨hok, hM, hcl, hcF, hcZ, hcl2, hclg, hcq, hcx, hS⟩, hwA, hrA, hbA⟩ := HK0.out
        obtain ⟨⟨hL1, hL2⟩, -, -, h1g⟩ := HS.out
        have hlgl : c.longest = lg := by rw [hclg, hlg]
        have hq64 : c.q ≤ 64 := by rw [hcq]; have := List.length_filter_le (fun x : Nd => decide (x.k = 1)) l; unfold leavesN; omega
        have hF := feedS_new hf hPo
        have hap := feed_apart hf hPo
        have hS2 := (hS.kept k2).raise (M := w2.heap.size) (fun k _ => ⟨rfl, rfl⟩)
        have A3 := apart3_of (w2 := w2) hok (by omega) hq64 hM hBf (blk_lt hf) hap.1 hap.2
        have kA2 := kept_trans kA1 k2
        have hX : ∀ g, (StrX { c with M := w2.heap.size } g ∨ g = Bf) → wA.heap.size ≤ g := fun g h => by
          rcases h with h | rfl
          · exact StrX.ge A3.ok (by have := kA2.size; exact this) h
          · have := kA1.size; omega
        have hsz2 : w2.heap.size ≤ w2.heap.size := Nat.le_refl _
        have hM2 : ({ c with M := w2.heap.size } : StrC).M = w2.heap.size := rfl
        have hc2l : ({ c with M := w2.heap.size } : StrC).limit = ln := hcl2
        have hc2g : ({ c with M := w2.heap.size } : StrC).longest = lg := hlgl
        have HC := Lib.hid (⟨A3, hX, hM2, hc2l, hc2g, hrA, hbA, hfe, h1g⟩ : _ ∧ _ ∧ _ ∧ _ ∧ _ ∧ _ ∧ _ ∧ _ ∧ _)
        have hcS : ({ c with M := w2.heap.size } : StrC).S = c.S := rfl
        generalize ({ c with M := w2.heap.size } : StrC) = c2 at *
        generalize c.S = Sx at *
        subst hcS
        clear hok hM hcl hcF hcZ hcl2 hclg hcq hcx hS hlgl hq64 hf hPo hap A3 hX hsz2 hM2 hc2l hc2g hrA hbA hfe h1g kA1 hBf k2 hr hp
        go_wp2_with fail
        go_loopw [8] (fun mv wr => ∃ (b : Bool) (v : StrV) (zs : List Int) (a : Nat), mv = .bool b ∧ StrS c2 v wr ∧ FeedS T zs a to fe Bf (fun g => ∃ ad, P = some ad ∧ g = ad.block) wr ∧ Kept wA wr ∧ w2.heap.size ≤ wr.heap.size ∧ Hid (StrI c2 v ∧ (b = true → v.en = 0) ∧ v.held.size ≤ ln + lg - 1 ∧ v.seen = a ∧ a ≤ to ∧ v.rounds + goM (.bool b) + zs.length + (to - a) ≤ 600)) (fun mv wr => goM mv + feedM wr.heap[Bf]?)
        case atStart => exact ⟨true, _, ys, 0, rfl, hS2, hF, kA2, Nat.le_refl _, Lib.hid ⟨StrI.start, fun _ => rfl, Nat.zero_le _, rfl, Nat.zero_le _, by show 0 + 1 + ys.length + (to - 0) ≤ 600; omega⟩⟩
        case round =>
          obtain ⟨b, v, zs, a, rfl, hs, hfd, kr, hsz, HV⟩ := hrel
          cases b with
          | true =>
            have hbr := blk_kept kr HC.out.2.2.2.2.2.2.1
            have s0 := blk_cell hs.s 0
            have s1 := blk_cell hs.s 1
            have hbd := HV.out
            obtain ⟨hi, hen, hh, hsn, hat, hms⟩ := hbd
            have hen := hen rfl
            have hsT : a ≤ 200 := by omega
            have hla := HC.out.2.2.2.1
            have ST := HC.out.1.step v T zs a to fe hi hen hsn (by omega) hat hto (by omega)
            have HM2 := HC.out.2.2.1
            have hv1 : v.seen ≤ 200 := by omega
            have hv2 : v.held.size ≤ 20000 := by omega
            have HI := Lib.hid (⟨hi, hen, hh, hsn, hat, hms⟩ : _ ∧ _ ∧ _ ∧ _ ∧ _ ∧ _)
            clear hi hen hh hsn hat hms hla HV
            go_wp2_with fail
            refine (sseen_c _ _ _).mono ?_
            rintro e w3 ⟨rfl, k3⟩
            have hs3 := hs.kept k3
            have kr3 := kept_trans kr k3
            clear s0 s1 hbr
            go_wp2_with fail
            refine (sheld_c c2 v _ hs3).mono ?_
            rintro e w4 ⟨rfl, k4⟩
            have hs4 := hs3.kept k4
            have hfd4 := (hfd.kept k3).kept k4
            have kr4 := kept_trans kr3 k4
            have hsz4 : w2.heap.size ≤ w4.heap.size := by have := k3.size; have := k4.size; omega
            have ST4 := ST w4 (by rw [HM2]; exact hsz4) hs4 hfd4
            have hfm : feedM w4.heap[Bf]? = feedM wr.heap[Bf]? := by rw [feedM_of hfd4, feedM_of hfd]
            have HF0 := Lib.hid (⟨hfm, feedM_of hfd⟩ : _ ∧ _)
            clear hs3 k3 k4 kr3 hs hfd hs4 hfd4 ST HM2 hfm
            go_wp2_with fail
            refine ST4.mono ?_
            rintro e w5 ⟨tx, zs', a', en', vs, rfl, hst, hs5, hf5, hc5⟩
            obtain ⟨t1, t2, t3⟩ := fstep_size hst HI.out.2.2.2.2.1 hto
            obtain ⟨v1, v2, v3⟩ := step_seen c2 v tx en' vs
            have hhs := held_step (c := c2) (v := v) (tx := tx) (en := en') (vs := vs) (by rw [HC.out.2.2.2.2.1]; exact HC.out.2.2.2.2.2.2.2.2) (by rw [HC.out.2.2.2.2.1, HC.out.2.2.2.1]; omega)
            have hi5 := StrI.step (tx := tx) (en := en') (vs := vs) HC.out.1.ok HI.out.1
            rw [HC.out.2.2.2.1, HC.out.2.2.2.2.1] at hhs
            have kr5 := kept_chg kr4 hc5 HC.out.2.1
            have hsz5 : w2.heap.size ≤ w5.heap.size := Nat.le_trans hsz4 hc5.size
            have HV5 := Lib.hid (⟨hst, hi5, v2, v3, t1, t2, t3, v1⟩ : _ ∧ _ ∧ _ ∧ _ ∧ _ ∧ _ ∧ _ ∧ _)
            have hvs : (stepV c2 v tx en' vs).seen ≤ 200 ∧ v.seen ≤ (stepV c2 v tx en' vs).seen := by have := HI.out.2.2.2.1; omega
            have hvT : (stepV c2 v tx en' vs).seen ≤ T.size := by have := HI.out.2.2.2.1; omega
            generalize stepV c2 v tx en' vs = v5 at *
            obtain ⟨hvs1, hvs2⟩ := hvs
            have s0 := blk_cell hs5.s 0
            have s1 := blk_cell hs5.s 1
            clear hst hi5 v2 v3 t1 t2 t3 v1 ST4 hc5 kr4 hsz4
            go_wp2_with fail
            refine (sseen_c _ _ _).mono ?_
            rintro e w6 ⟨rfl, k6⟩
            have hs6 := hs5.kept k6
            have hf6 := hf5.kept k6
            have kr6 := kept_trans kr5 k6
            have hsz6 : w2.heap.size ≤ w6.heap.size := Nat.le_trans hsz5 k6.size
            have hb6 := blk_kept kr6 HC.out.2.2.2.2.2.2.1
            have hr6 := HC.out.2.2.2.2.2.1.kept kr6
            clear hs5 hf5 kr5 hsz5 k6 s0 s1
            have s0 := blk_cell hs6.s 0
            have s1 := blk_cell hs6.s 1
            have p0 := blk_cell hb6 0
            have p5 := blk_cell hb6 5
            generalize hsv : v.seen = sv at *
            generalize hhv : v.held.size = hv at *
            generalize hsw : v5.seen = sw at *
            generalize hhw : v5.held.size = hw at *
            obtain ⟨pn, rfl⟩ : ∃ pn, sw = sv + pn := ⟨sw - sv, by omega⟩
            have SH : ∀ s : KW w6, Calls Tryz.prog 18 #[.pointer (some ⟨c2.S, 0, none⟩)] s.val (Ret (.int .i64 (hw : Nat)) s.val) := fun s => by
              have := sheld_c c2 v5 s.val (hs6.kept s.kept)
              rw [hhw] at this
              exact this
            have LG : ∀ s : KW w6, Calls Tryz.prog 20 #[.slice A l.length cap] s.val (Ret (.int .i64 (lg : Nat)) s.val) := fun s => LO s.val (hr6.kept s.kept)
            have hlg1 := HC.out.2.2.2.2.2.2.2.2
            have hln1 := HS.out.1.2
            have hln2 := HS.out.1.1
            have hhv3 : hv ≤ ln + lg - 1 := by have := HI.out.2.2.1; omega
            have d1 : decide ((ln : Int) + (lg : Int) - 1 + (pn : Int) < (hv : Int) + (pn : Int)) = false := decide_eq_false (by omega)
            have d1b : decide ((ln : Int) + (lg : Int) - 1 < (hv : Int)) = false := decide_eq_false (by omega)
            have d2 : decide ((ln : Int) + (lg : Int) - 1 < (hw : Int)) = false := decide_eq_false (by omega)
            have d3 : decide ((T.size : Int) < (sv : Int) + (pn : Int)) = false := decide_eq_false (by omega)
            have d3b : decide (T.size < sv + pn) = false := decide_eq_false (by omega)
            have HR := Lib.hid (⟨hs6, hf6, kr6, hsz6, hsw, hhw, hhs⟩ : _ ∧ _ ∧ _ ∧ _ ∧ _ ∧ _ ∧ _)
            clear hs6 hf6 hr6 hsv hhv hsw hhw hb6
            go_wp2_with fail
            have ks_0 := fun s => kw_cell s p0
            have ks_1 := fun s => kw_cell s p5
            have ks_2 := fun s => kw_cell s s0
            have ks_3 := fun s => kw_cell s s1
            refine wp_region_kept (by kernel_rfl) (by kernel_rfl) ?_
            repeat (first | go_big_quiet_skip | (go_big_quiet_want; go_big_quiet_op; first | go_big_quiet_on | (apply Exists.intro; refine ⟨fun s => ?_, ?_⟩; (first | (go_at_call 20; exact call_kept (LG _)) | (go_at_call 18; exact call_kept (SH _)) | (go_at_call 17; exact call_kept (sseen_c _ _ _))); go_big_quiet_on)))
            refine wpQuiet_nil ?_
            rintro w7 ⟨⟨_, hk7⟩, rfl⟩
            clear ks_0 ks_1 ks_2 ks_3 p0 p5 s0 s1
            go_wp2_with fail
            obtain ⟨hs6, hf6, kr6, hsz6, hsw, hhw, hhs⟩ := HR.out
            obtain ⟨hst, hi5, v2, v3, t1, t2, t3, v1⟩ := HV5.out
            obtain ⟨-, -, -, hsn, -, hms⟩ := HI.out
            have hf7 := hf6.kept hk7
            have hm := fstep_meas hst HC.out.2.2.2.2.2.2.2.1
            have hg1 : goM (Value.bool true) = 1 := rfl
            have hg2 : en' ≠ 0 → goM (Value.bool (decide (en' = 0))) = 0 := fun h => by rw [decide_eq_false h]; rfl
            have hg3 : en' = 0 → goM (Value.bool (decide (en' = 0))) = 1 := fun h => by rw [decide_eq_true h]; rfl
            refine ⟨⟨decide (en' = 0), v5, zs', a', rfl, hs6.kept hk7, hf7, kept_trans kr6 hk7, Nat.le_trans hsz6 hk7.size, Lib.hid ⟨hi5, fun h => by rw [v2]; exact of_decide_eq_true h, by rw [hhw]; exact hhs, by rw [hsw]; omega, t2, ?_⟩⟩, ?_⟩
            · rcases hm with ⟨h0, hm⟩ | ⟨h0, hm⟩
              · have := hg3 h0; omega
              · have := hg2 h0; omega
            · rw [feedM_of hf7, HF0.out.2]
              rcases hm with ⟨h0, hm⟩ | ⟨h0, hm⟩
              · have := hg3 h0; omega
              · have := hg2 h0; omega
          | false =>
            go_wp2_with fail
            refine (AL _).mono ?_
            rintro e w9 ⟨rfl, k9⟩
            have k10 := kept_trans (kept_trans kA kr) k9
            go_wp2_with fail
            go_ret
            exact ⟨rfl, k10⟩
      · have hd3 : decide ((300 : Int) < (ys.length : Int)) = true := decide_eq_true (by omega)
        have hd3n : decide (300 < ys.length) = true := decide_eq_true (by omega)
        go_wp2_with fail
        refine (AL _).mono ?_
        rintro e w9 ⟨rfl, k9⟩
        go_wp2_with fail
        go_ret
        exact ⟨rfl, kept_trans ka2 k9⟩
    · have hd2 : decide ((200 : Int) < (T.size : Int)) = true := decide_eq_true (by omega)
      have hd2n : decide (200 < T.size) = true := decide_eq_true (by omega)
      go_wp2_with fail
      refine (AL _).mono ?_
      rintro e w9 ⟨rfl, k9⟩
      go_wp2_with fail
      go_ret
      exact ⟨rfl, kept_trans ka2 k9⟩
  · have NW := fun w1 h => snew_no A cap l F Z limit hcap hcap2 hE w1 h
    generalize snE l F Z limit = er at *
    have d4 : (er != 0) = true := bne_iff_ne.2 hE
    go_enter Tryz.func4, Tryz.ntmps4
    go_wp2_with fail
    refine (NW _ (hr.kept ka)).mono ?_
    rintro e w1 ⟨rfl, k1⟩
    replace hb := blk_kept k1 hb
    replace ka := kept_trans ka k1
    clear q0 q1 q2 q3 q4 q5 NW
    have q := blk_cell hb
    have q0 := q 0
    have q1 := q 1
    have q2 := q 2
    clear q
    go_wp2_with fail
    refine (FN _ (hp.kept ka)).mono ?_
    rintro e w2 ⟨Bf, P, pc, rfl, hBf, hf, hPo, k2⟩
    replace hb := blk_kept k2 hb
    have ka2 := kept_trans ka k2
    clear q0 q1 q2 FN
    have q := blk_cell hb
    have q0 := q 0
    have q1 := q 1
    have q4 := q 4
    clear q
    by_cases h1 : l.length ≤ 100
    · have hd1 : decide ((100 : Int) < (l.length : Int)) = false := decide_eq_false (by omega)
      have hd1n : decide (100 < l.length) = false := decide_eq_false (by omega)
      by_cases h2 : T.size ≤ 200
      · have hd2 : decide ((200 : Int) < (T.size : Int)) = false := decide_eq_false (by omega)
        have hd2n : decide (200 < T.size) = false := decide_eq_false (by omega)
        by_cases h3 : ys.length ≤ 300
        · have hd3 : decide ((300 : Int) < (ys.length : Int)) = false := decide_eq_false (by omega)
          have hd3n : decide (300 < ys.length) = false := decide_eq_false (by omega)
          go_wp2_with fail
          refine (AL _).mono ?_
          rintro e w9 ⟨rfl, k9⟩
          go_wp2_with fail
          go_ret
          exact ⟨rfl, kept_trans ka2 k9⟩
        · have hd3 : decide ((300 : Int) < (ys.length : Int)) = true := decide_eq_true (by omega)
          have hd3n : decide (300 < ys.length) = true := decide_eq_true (by omega)
          go_wp2_with fail
          refine (AL _).mono ?_
          rintro e w9 ⟨rfl, k9⟩
          go_wp2_with fail
          go_ret
          exact ⟨rfl, kept_trans ka2 k9⟩
      · have hd2 : decide ((200 : Int) < (T.size : Int)) = true := decide_eq_true (by omega)
        have hd2n : decide (200 < T.size) = true := decide_eq_true (by omega)
        go_wp2_with fail
        refine (AL _).mono ?_
        rintro e w9 ⟨rfl, k9⟩
        go_wp2_with fail
        go_ret
        exact ⟨rfl, kept_trans ka2 k9⟩
    · have hd1 : decide ((100 : Int) < (l.length : Int)) = true := decide_eq_true (by omega)
      have hd1n : decide (100 < l.length) = true := decide_eq_true (by omega)
      go_wp2_with fail
      refine (AL _).mono ?_
      rintro e w9 ⟨rfl, k9⟩
      go_wp2_with fail
      go_ret
      exact ⟨rfl, kept_trans ka2 k9⟩
end Go.Proofs.YtdejablhpljdfaaGreat
namespace Go.Proofs.YtdejablhpljdfaaGreat.beagleHolds
open Go.ChangeShapes Go.WideShapes Go.ChangeAt Go.RowKit
set_option linter.unusedVariables false
theorem own : ownKnob Tryz.prog.godebug = none := by kernel_rfl
theorem laidOut : laidOutB Tryz.prog = true := by kernel_rfl
set_option maxRecDepth 100000 in
theorem lifted (os : Os) (started : os.Started) (H : Type) (enc : TypeId × Value → H) :
    ReturnsInHanded {} Tryz.checked os 4 .any (Rows.beagleHoldsSpec.pre6 enc Tryz.prog Tryz.f4 Rows.beagleHoldsRow.domain false) (Rows.beagleHoldsSpec.post enc Tryz.prog Tryz.f4 false true false false) := by
  refine returnsInHanded_of_change_sized (C := Tryz.checked) own started (by kernel_rfl) Tryz.func4
    (ChangeSpec.witness6 (enc := enc) (C := Tryz.checked) false ⟨#[], #[.slice none 0 0, .agg #[.string ⟨#[]⟩, .slice none 0 0, .int .i64 0, .int .i64 0, .int .i64 0, .int .i64 0]], []⟩ 8 (by kernel_rfl) (by kernel_rfl) (by kernel_rfl) (by kernel_rfl)) ?_
  intro W base args ds gs before hval0 hW hcnd hsz0 _
  have hsz : (DataW.weightsEach Tryz.prog (Tryz.f4.params.toList ++ Rows.beagleHoldsSpec.plain.varTypes Tryz.prog) (ds ++ gs)).all (· ≤ reachBytes) = true := hsz0
  have hval : ∀ (j : Nat) t v, Tryz.f4.params[j]? = some t → args[j]? = some v → Value.okWide Tryz.prog W .any base t v := hval0
  have hW' := hW
  obtain ⟨p, q, hA0, hV, rfl, hfz, hnd⟩ := hW
  have hA : DataW.TrodAll enc Tryz.prog W 0 (fun _ => true) true Tryz.f4.params.toList args.toList ds p := hA0
  rw [Tryz.params4] at hA hval hsz
  obtain ⟨v0, vs0, d0, ds0, p0, q0, hargs, rfl, rfl, h0, r0⟩ := trodAll_cons hA
  obtain ⟨v1, vs1, d1, ds1, p1, q1, rfl, rfl, rfl, h1, r1⟩ := trodAll_cons r0
  obtain ⟨rfl, rfl, rfl⟩ := trodAll_nil r1
  obtain rfl : args = #[v0, v1] := by cases args; simp_all
  obtain ⟨rfl, rfl⟩ := trodVars_none hV
  have k0 := h0
  have lt0 : ∀ x ∈ p0, x.block < W.heap.size := by obtain ⟨m, hm⟩ := k0; exact DataW.trod_lt m _ _ _ hm
  obtain ⟨a0, cap0, l0, rfl, hc0, hcc0, no0, rd0⟩ := open_nodes Tryz.underlying36 Tryz.underlying95 (by kernel_rfl) rfl rfl rfl (by kernel_rfl) (by kernel_rfl) (by kernel_rfl) Tryz.underlying3 Tryz.underlying3 Tryz.underlying61 rfl rfl (by kernel_rfl) (by kernel_rfl) Tryz.underlying59 Tryz.underlying110 Tryz.underlying108 (by kernel_rfl) (by kernel_rfl) (by decide +kernel) Tryz.underlying3 (small_all hsz (j := 0) rfl rfl) (hval 0 36 v0 rfl rfl) h0
  have k1 := h1
  have lt1 : ∀ x ∈ p1, x.block < W.heap.size := by obtain ⟨m, hm⟩ := k1; exact DataW.trod_lt m _ _ _ hm
  obtain ⟨s1, a1, cap1, l1, fl1, F1, Z1, lm1, rfl, z1, y1, no1, rd1, _, _, _, _, _⟩ := open_play Tryz.underlying44 (by kernel_rfl) rfl rfl rfl rfl rfl (by kernel_rfl) (by kernel_rfl) (by kernel_rfl) (by kernel_rfl) (by kernel_rfl) Tryz.underlying9 Tryz.underlying24 Tryz.underlying3 (by kernel_rfl) (by kernel_rfl) Tryz.underlying3 Tryz.underlying23 rfl rfl (by kernel_rfl) (by kernel_rfl) Tryz.underlying3 Tryz.underlying3 Tryz.underlying3 (small_all hsz (j := 1) rfl rfl) (hval 1 44 v1 rfl rfl) h1
  clear hA0 hval0 hsz0 hsz
  refine (beagleHolds_w a0 cap0 l0 s1 a1 cap1 l1 fl1 F1 Z1 lm1 hc0 hcc0 no0 z1 y1 no1 W rd0 rd1).mono fun e W' ⟨he, bel⟩ => ?_
  subst he
  exact ⟨_, rfl, _, _, _, [], _, [], hW', trodAll_mk1 (shut_bool Tryz.underlying4 _), (trodAll_cons_mk (Below.trod laidOut (by kernel_rfl) (of_decide_eq_true (by kernel_rfl)) k0 bel lt0) (trodAll_cons_mk (Below.trod laidOut (by kernel_rfl) (of_decide_eq_true (by kernel_rfl)) k1 bel lt1) trodAll_mk0)), rfl, bel.frame _, fun h => by cases h⟩
theorem over : Rows.beagleHoldsRow.holds Tryz.pinned (OpenSpec.ofChange Rows.beagleHoldsSpec) :=
  OpenClaim.holds_of_wide 4 Tryz.f4 rfl rfl rfl rfl rfl rfl rfl ⟨rfl, rfl, rfl, rfl, rfl⟩ rfl rfl rfl rfl rfl (by kernel_rfl) Tryz.func4 (by kernel_rfl)
    (of_decide_eq_true (by kernel_rfl)) (by unfold Func.isWrapper; first | (rw [if_pos (by decide +kernel)]; kernel_rfl) | (rw [if_neg (by decide +kernel)]; exact ⟨rfl, rfl⟩))
    (fun os started H enc _ => lifted os started H enc)
theorem proved : Rows.BeagleHoldsSaid := over
end Go.Proofs.YtdejablhpljdfaaGreat.beagleHolds
namespace Go.Proofs.YtdejablhpljdfaaGreat
theorem beagleHolds_holds : Rows.BeagleHoldsSaid := beagleHolds.proved
end Go.Proofs.YtdejablhpljdfaaGreat
