/-
  Texts of one claim, joined: TMapI, TCost2, TChoose, Law10P, TEvalP, TEval1, TEval2, TEval4, Own2.
-/
import Derived.Test.YtdejablhpljdfaaGreatC20
import Derived.Test.YtdejablhpljdfaaGreatC25
import Derived.Test.YtdejablhpljdfaaGreatC17
import Derived.Test.YtdejablhpljdfaaGreatC07
import Derived.Test.YtdejablhpljdfaaGreatC15
namespace Go.Proofs.YtdejablhpljdfaaGreat
open Go.RowKit BG
set_option linter.unusedVariables false
def IMap (w : World) (g : Nat) (l : List (Int × Value)) : Prop := ∃ es clk, w.heap[g]? = some (.map es clk) ∧ es.toList.map (fun e => (e.key, e.val)) = l.map fun p => (Value.int .i64 p.1, p.2)
theorem IMap.kept {w w1 : World} {g : Nat} {l : List (Int × Value)} (h : IMap w g l) (hk : Kept w w1) : IMap w1 g l := by obtain ⟨es, clk, h, r⟩ := h; exact ⟨es, clk, blk_kept hk h, r⟩
theorem IMap.new (w : World) : IMap (w.alloc (.map #[] 0)) w.heap.size [] := ⟨#[], 0, blk_new w _, rfl⟩
def atI (l : List (Int × Value)) (k : Int) : Option Value := (l.find? fun p => p.1 == k).map fun p => p.2
theorem findNow_int (k : Int) : ∀ (es : List MapEntry) (l : List (Int × Value)) (i : Nat), es.map (fun e => (e.key, e.val)) = l.map (fun p => (Value.int .i64 p.1, p.2)) → ∃ r, Instr.findNow (.int .i64) (.int .i64 k) es i = some r ∧ r.map (fun x => x.2) = atI l k
  | [], [], i, _ => ⟨none, rfl, rfl⟩
  | [], _ :: _, _, h => by simp at h
  | _ :: _, [], _, h => by simp at h
  | e :: es, p :: l, i, h => by
    simp only [List.map_cons, List.cons.injEq, Prod.mk.injEq] at h
    obtain ⟨⟨h1, h2⟩, h3⟩ := h
    obtain ⟨c, v⟩ := p
    dsimp only at h1 h2
    unfold Instr.findNow
    rw [h1]
    by_cases hb : k = c
    · subst hb
      exact ⟨some (i, e.val), by simp [Instr.sameNow], by simp [atI, h2]⟩
    · obtain ⟨r, hr, hor⟩ := findNow_int k es l (i + 1) h3
      have hbc : (k == c) = false := by simpa using hb
      have hcb : (c == k) = false := by simpa using fun e => hb e.symm
      refine ⟨r, by simp [Instr.sameNow, hbc, hr], ?_⟩
      rw [hor]
      simp [atI, hcb]
theorem findKey_int {w : World} {es : List MapEntry} {l : List (Int × Value)} (k : Int) (he : es.map (fun e => (e.key, e.val)) = l.map (fun p => (Value.int .i64 p.1, p.2))) :
    ∃ r, (Instr.findKey 3 (.int .i64 k) es).run Tryz.prog w = .ok r w ∧ r.map (fun x => x.2) = atI l k := by
  obtain ⟨r, hr, hor⟩ := findNow_int k es l 0 he
  refine ⟨r, ?_, hor⟩
  unfold Instr.findKey
  simp only [Sem.run_bind, run_underlying Tryz.underlying3, Result.andThen_ok, hr]
  rfl
section
variable {T e : TypeId} (hT : Tryz.prog.underlying T = some (.map 3 e))
include hT
theorem lookup_int {w : World} {g : Nat} {l : List (Int × Value)} (h : IMap w g l) {k : Int} {v : Value} (hv : atI l k = some v) : (Instr.lookup T (.map (some g)) (.int .i64 k) false).run Tryz.prog w = .ok v w := by
  obtain ⟨es, clk, hm, he⟩ := h
  obtain ⟨r, hr, hor⟩ := findKey_int (w := w) k he
  have hck := checkKey_int es.isEmpty 9999 3 .i64 Tryz.underlying3 k w
  rw [hv] at hor
  obtain ⟨⟨j, u⟩, rfl, hu⟩ := Option.map_eq_some_iff.1 hor
  dsimp only at hu
  subst hu
  unfold Instr.lookup
  simp only [Sem.run_bind, run_underlying hT, Result.andThen_ok, MapKept.run_getObj_map hm, hck, hr, Sem.run_pure]
  rfl
theorem update_int {w : World} {g : Nat} {l : List (Int × Value)} (h : IMap w g l) {k : Int} (hk : atI l k = none) (v : Value) : ∃ w1, (Instr.mapUpdate T (.map (some g)) (.int .i64 k) v).run Tryz.prog w = .ok () w1 ∧ IMap w1 g (l ++ [(k, v)]) ∧ w.grownBy w1 (some g) := by
  obtain ⟨es, clk, hm, he⟩ := h
  obtain ⟨r, hr, hor⟩ := findKey_int (w := w) k he
  have hck := checkKey_int false 9999 3 .i64 Tryz.underlying3 k w
  have hG : ∀ es' clk', w.grownBy (ChangeMaps.setBlock w g (.map es' clk')) (some g) := fun es' clk' => ⟨rfl, rfl, rfl, by simp [ChangeMaps.setBlock], fun i _ hi => ChangeMaps.heap_setBlock_other hm _ (fun e => hi (by rw [e]))⟩
  rw [hk] at hor
  obtain rfl := Option.map_eq_none_iff.1 hor
  refine ⟨ChangeMaps.setBlock w g (.map (es.push { key := .int .i64 k, val := v, born := clk }) (clk + 1)), ?_, ⟨_, _, ChangeMaps.heap_setBlock_same hm _, ?_⟩, hG _ _⟩
  · unfold Instr.mapUpdate
    simp only [Sem.run_bind, run_underlying hT, Result.andThen_ok, MapKept.run_getObj_map hm, hck, hr]
    exact MapKept.run_setObj_map _ hm
  · rw [Array.toList_push, List.map_append, he, List.map_append]; rfl
theorem wpList_insert_int {ops : Array Oper} {rest : List Oper} {o : Oper} {a : Act} {Q : Exit → Act → World → Prop} {w : World} {g : Nat} {l : List (Int × Value)} {m x y : Operand} (k : Int) {v : Value} (hg : o.guard = none) (ho : o.op = Op.insert T m x y)
    (hm : a.eval m = .map (some g)) (hx : a.eval x = .int .i64 k) (hy : a.eval y = v) (h : IMap w g l) (hk : atI l k = none) (hK : ∀ w1, IMap w1 g (l ++ [(k, v)]) → w.grownBy w1 (some g) → wpList Tryz.prog ops Q rest (a.put o.dst undef) w1) : wpList Tryz.prog ops Q (o :: rest) a w := by
  refine wpList_plain hg fun K hK' => ?_
  obtain ⟨w1, hr, h1, h2⟩ := update_int hT h hk v
  unfold Oper.wp
  simp [execOp, ho, hm, hx, hy, hr, Result.andThen]
  exact hK' _ _ (hK w1 h1 h2)
theorem wpList_lookup_int {ops : Array Oper} {rest : List Oper} {o : Oper} {a : Act} {Q : Exit → Act → World → Prop} {w : World} {g : Nat} {l : List (Int × Value)} {m x : Operand} {k : Int} {v : Value} (hg : o.guard = none) (ho : o.op = Op.lookup T m x false)
    (hm : a.eval m = .map (some g)) (hx : a.eval x = .int .i64 k) (h : IMap w g l) (hv : atI l k = some v) (hK : wpList Tryz.prog ops Q rest (a.put o.dst v) w) : wpList Tryz.prog ops Q (o :: rest) a w := by
  refine wpList_plain hg fun K hK' => ?_
  unfold Oper.wp
  simp [execOp, ho, hm, hx, lookup_int hT h hv, Result.andThen]
  exact hK' _ _ hK
end
end Go.Proofs.YtdejablhpljdfaaGreat
namespace Go.Proofs.YtdejablhpljdfaaGreat
open Go.RowKit BG
attribute [local go_sem ↓] Go.wp_at_zero Go.wp_at_succ run_max_at run_min_at
set_option linter.unusedVariables false
set_option maxRecDepth 100000 in
set_option maxHeartbeats 4000000 in
theorem pcost_c (way : Nat) (hw : way ≤ 5) (A : Option Addr) (cap n : Nat) (xs : List Int) (K : Int) (hu : U64 xs) (hl : xs.length = 4 * n) (hn : n ≤ 1000000) (N size : Int) (w : World) (hr : Rd .u64 w A xs) : Calls Tryz.prog 225 #[.int .i64 (way : Int), leafV A n cap K, .int .i64 N, .int .i64 size] w fun e w' => ∃ c : Int, e = .returned (.tuple #[.int .i64 c, .bool (sizedv way xs n K N size)]) ∧ Kept w w' := by
  have SZ := fun w1 h => psized_c way hw A cap n xs K hu hl hn N size w1 h
  have LG := fun w1 => log_c size w1
  have CT := fun m n w1 => count_c m n size w1
  have PT := fun w1 h => parts_c A cap n xs K hu hl hn w1 h
  have hb := blk_alloc (blk_new w (.cells #[.slice A n cap, .int .i64 K] 61)) (.cells #[.int .i64 N] 3)
  have hbn := blk_new1 w (.cells #[.slice A n cap, .int .i64 K] 61) (.cells #[.int .i64 N] 3)
  have ka := kept_alloc (kept_alloc (kept_refl w) (.cells #[.slice A n cap, .int .i64 K] 61)) (.cells #[.int .i64 N] 3)
  have c0 := blk_cell hb 0
  have c1 := blk_cell hb 1
  have c2 := blk_cell hbn 0
  have hmm := @run_makeMap Tryz.prog
  unfold Ltuple at LG
  have hw0 : sizedv way xs n K N size = true → way = 1 ∨ way = 2 ∨ way = 3 ∨ way = 4 ∨ way = 5 := fun h => by
    rcases Nat.eq_zero_or_pos way with rfl | h1
    · simp [sizedv, admitsv] at h
    · omega
  have HW := Lib.hid hw0
  clear hw0
  generalize sizedv way xs n K N size = z at *
  go_enter Tryz.func225, Tryz.ntmps225
  go_wp2_with fail
  refine (SZ _ (hr.kept ka)).mono ?_
  rintro e w1 ⟨rfl, hk1⟩
  replace hb := blk_kept hk1 hb
  replace hbn := blk_kept hk1 hbn
  replace ka := kept_trans ka hk1
  replace c0 := blk_cell hb 0
  replace c1 := blk_cell hb 1
  replace c2 := blk_cell hbn 0
  have f2 := blk_frozen hbn 0
  clear SZ hk1
  cases z
  · go_wp2_with fail
    exact bodyPost_ret (v := .tuple #[.int .i64 0, .bool false]) (by simp [results, Tryz.results225, go_sem]) rfl ⟨0, rfl, ka⟩
  · have hM := blk_set hbn 0 (.int .i64 (min N 100000))
    have G1 := setCell_grown w1 ⟨w.heap.size + 1, 0, none⟩ (.int .i64 (min N 100000))
    have hbs := grown_blk G1 hb (by simp)
    have k2 := kept_grow ka G1 (by rintro k h; cases h; show w.heap.size ≤ w.heap.size + 1; omega)
    have hb2 := blk_alloc hbs (.cells #[.int .i64 (n : Nat)] 3)
    have hn2 := blk_alloc hM (.cells #[.int .i64 (n : Nat)] 3)
    have hm2 := blk_new (w1.setCell ⟨w.heap.size + 1, 0, none⟩ (.int .i64 (min N 100000))) (.cells #[.int .i64 (n : Nat)] 3)
    have k3 := kept_alloc k2 (.cells #[.int .i64 (n : Nat)] 3)
    have hsz : (w1.setCell ⟨w.heap.size + 1, 0, none⟩ (.int .i64 (min N 100000))).heap.size = w1.heap.size := by simp
    rw [hsz] at hm2
    have a0 := blk_cell hb2 0
    have a1 := blk_cell hb2 1
    have a2 := blk_cell hn2 0
    have a3 := blk_cell hm2 0
    have HZ := Lib.hid (⟨hb2, hn2, hm2, k3⟩ : _ ∧ _ ∧ _ ∧ _)
    clear hb2 hn2 hm2 k3 k2 hbs hM G1 hsz
    by_cases hmn : min N 100000 < (n : Int)
    · have d1 : decide (min N 100000 < (n : Int)) = true := decide_eq_true hmn
      go_wp2_with fail
      exact bodyPost_ret (v := .tuple #[.int .i64 0, .bool true]) (by simp [results, Tryz.results225, go_sem]) rfl ⟨0, rfl, HZ.out.2.2.2⟩
    · have d1 : decide (min N 100000 < (n : Int)) = false := decide_eq_false hmn
      go_wp2_with fail
      refine (LG _).mono ?_
      rintro e w3 ⟨rfl, hk3⟩
      obtain ⟨hb2, hn2, hm2, k3⟩ := HZ.out
      replace hb2 := blk_kept hk3 hb2
      replace hn2 := blk_kept hk3 hn2
      replace hm2 := blk_kept hk3 hm2
      replace k3 := kept_trans k3 hk3
      generalize w1.heap.size = bm at *
      have a0 := blk_cell hb2 0
      have a1 := blk_cell hb2 1
      have a2 := blk_cell hn2 0
      have a3 := blk_cell hm2 0
      clear LG HZ hk3
      go_wp2_with fail
      refine (CT _ _ _).mono ?_
      rintro e w4 ⟨rfl, hk4⟩
      replace hb2 := blk_kept hk4 hb2
      replace hn2 := blk_kept hk4 hn2
      replace hm2 := blk_kept hk4 hm2
      replace k3 := kept_trans k3 hk4
      have hr4 := hr.kept k3
      replace a0 := blk_cell hb2 0
      replace a1 := blk_cell hb2 1
      clear CT hk4 a2 a3
      generalize countv _ _ _ = cv at *
      generalize hasLog size = hlg at *
      generalize lgv size = lg at *
      have hb4 := blk_alloc hb2 (.cells #[.int .i64 (wrap64 (wrap64 (cv * size) * wrap64 ((lg : Int) + 1)))] 3)
      have hn4 := blk_alloc hn2 (.cells #[.int .i64 (wrap64 (wrap64 (cv * size) * wrap64 ((lg : Int) + 1)))] 3)
      have hm4 := blk_alloc hm2 (.cells #[.int .i64 (wrap64 (wrap64 (cv * size) * wrap64 ((lg : Int) + 1)))] 3)
      have hx4 := blk_new w4 (.cells #[.int .i64 (wrap64 (wrap64 (cv * size) * wrap64 ((lg : Int) + 1)))] 3)
      have k4 := kept_alloc k3 (.cells #[.int .i64 (wrap64 (wrap64 (cv * size) * wrap64 ((lg : Int) + 1)))] 3)
      replace a0 := blk_cell hb4 0
      replace a1 := blk_cell hb4 1
      have hr5 := hr.kept k4
      go_wp2_with fail
      generalize wrap64 (wrap64 (cv * size) * wrap64 ((lg : Int) + 1)) = xv at *
      refine (PT _ hr5).mono ?_
      rintro e w5 ⟨rfl, hk5⟩
      replace hb4 := blk_kept hk5 hb4
      replace hn4 := blk_kept hk5 hn4
      replace hm4 := blk_kept hk5 hm4
      replace hx4 := blk_kept hk5 hx4
      replace k4 := kept_trans k4 hk5
      generalize w4.heap.size = bx at *
      generalize partsF xs n (kindsC xs n) = pf at *
      generalize partsP xs n (kindsC xs n) = pp at *
      clear PT hk5 a0 a1 hb2 hn2 hm2 hr4 hr5
      have k6 := kept_alloc (kept_alloc (kept_refl w5) (.cells #[.int .i64 (pf : Nat)] 3)) (.cells #[.int .i64 (pp : Nat)] 3)
      have hp1 := blk_alloc (blk_new w5 (.cells #[.int .i64 (pf : Nat)] 3)) (.cells #[.int .i64 (pp : Nat)] 3)
      have hp2 := blk_new1 w5 (.cells #[.int .i64 (pf : Nat)] 3) (.cells #[.int .i64 (pp : Nat)] 3)
      have lm := blk_lt hm4
      have lx := blk_lt hx4
      have lb := blk_lt hb4
      have ln := blk_lt hn4
      have hM := IMap.new ((w5.alloc (.cells #[.int .i64 (pf : Nat)] 3)).alloc (.cells #[.int .i64 (pp : Nat)] 3))
      have k7 := kept_alloc k6 (.map #[] 0)
      rw [show ((w5.alloc (.cells #[.int .i64 (pf : Nat)] 3)).alloc (.cells #[.int .i64 (pp : Nat)] 3)).heap.size = w5.heap.size + 1 + 1 by simp] at hM
      have hp1 := blk_alloc hp1 (.map #[] 0)
      have hp2 := blk_alloc hp2 (.map #[] 0)
      have hws := k4.size
      generalize hW : ((w5.alloc (.cells #[.int .i64 (pf : Nat)] 3)).alloc (.cells #[.int .i64 (pp : Nat)] 3)).alloc (.map #[] 0) = w6 at hM k7 hp1 hp2
      replace hb4 := blk_kept k7 hb4
      replace hn4 := blk_kept k7 hn4
      replace hm4 := blk_kept k7 hm4
      replace hx4 := blk_kept k7 hx4
      have l1 := blk_lt hb4
      replace k7 := kept_trans k4 k7
      subst hW
      clear k6 k4
      go_wp2_with (refine wpList_insert_int Tryz.underlying275 1 rfl rfl rfl rfl rfl hM (by rfl) ?_)
      intro v1 hM1 hg1
      clear hmm
      go_wp2_with (refine wpList_insert_int Tryz.underlying275 2 rfl rfl rfl rfl rfl hM1 (by rfl) ?_)
      intro v2 hM2 hg2
      clear hM1
      go_wp2_with (refine wpList_insert_int Tryz.underlying275 3 rfl rfl rfl rfl rfl hM2 (by rfl) ?_)
      intro v3 hM3 hg3
      clear hM2
      go_wp2_with (refine wpList_insert_int Tryz.underlying275 4 rfl rfl rfl rfl rfl hM3 (by rfl) ?_)
      intro v4 hM4 hg4
      clear hM3
      go_wp2_with (refine wpList_insert_int Tryz.underlying275 5 rfl rfl rfl rfl rfl hM4 (by rfl) ?_)
      intro v5 hM5 hg5
      clear hM4
      have G := grown_trans hg1 (grown_trans hg2 (grown_trans hg3 (grown_trans hg4 hg5)))
      clear hg1 hg2 hg3 hg4 hg5
      have hb5 := grown_blk G hb4 (fun e => by have := Option.some.inj e; omega)
      have hn5 := grown_blk G hn4 (fun e => by have := Option.some.inj e; omega)
      have hm5 := grown_blk G hm4 (fun e => by have := Option.some.inj e; omega)
      have hx5 := grown_blk G hx4 (fun e => by have := Option.some.inj e; omega)
      have hp5 := grown_blk G hp1 (fun e => by have := Option.some.inj e; omega)
      have hp6 := grown_blk G hp2 (fun e => by have := Option.some.inj e; omega)
      have k8 := kept_grow k7 G (by rintro k h; cases h; omega)
      have b0 := blk_cell hb5 0
      have b1 := blk_cell hb5 1
      have b2 := blk_cell hn5 0
      have b3 := blk_cell hm5 0
      have b4 := blk_cell hx5 0
      have b5 := blk_cell hp5 0
      have b6 := blk_cell hp6 0
      have hr8 := hr.kept k8
      have C1 := cost1_c _ _ _ _ v5 b3 b2
      have C2 := cost2_c _ _ _ _ v5 b2 b3
      have C3 := cost3_c _ _ _ _ v5 b4 b2
      have C4 := cost4_c _ _ _ _ _ A cap n xs K hu hl hn v5 hr8 b4 b2 b0 b1
      have C5 := cost5_c _ _ _ _ _ _ _ _ v5 b4 b2 b5 b6
      unfold Some1 at C1 C2 C3 C4 C5
      rcases HW.out (by first | rfl | trivial) with rfl | rfl | rfl | rfl | rfl
      · go_wp2_with (at_lookup; refine wpList_lookup_int Tryz.underlying275 rfl rfl rfl rfl hM5 (by rfl) ?_)
        go_wp2_with fail
        refine C1.mono ?_
        rintro e w9 ⟨c, rfl, hk9⟩
        go_wp2_with fail
        exact bodyPost_ret (v := .tuple #[.int .i64 c, .bool true]) (by simp [results, Tryz.results225, go_sem]) rfl ⟨c, rfl, kept_trans k8 hk9⟩
      · go_wp2_with (at_lookup; refine wpList_lookup_int Tryz.underlying275 rfl rfl rfl rfl hM5 (by rfl) ?_)
        go_wp2_with fail
        refine C2.mono ?_
        rintro e w9 ⟨c, rfl, hk9⟩
        go_wp2_with fail
        exact bodyPost_ret (v := .tuple #[.int .i64 c, .bool true]) (by simp [results, Tryz.results225, go_sem]) rfl ⟨c, rfl, kept_trans k8 hk9⟩
      · go_wp2_with (at_lookup; refine wpList_lookup_int Tryz.underlying275 rfl rfl rfl rfl hM5 (by rfl) ?_)
        go_wp2_with fail
        refine C3.mono ?_
        rintro e w9 ⟨c, rfl, hk9⟩
        go_wp2_with fail
        exact bodyPost_ret (v := .tuple #[.int .i64 c, .bool true]) (by simp [results, Tryz.results225, go_sem]) rfl ⟨c, rfl, kept_trans k8 hk9⟩
      · go_wp2_with (at_lookup; refine wpList_lookup_int Tryz.underlying275 rfl rfl rfl rfl hM5 (by rfl) ?_)
        go_wp2_with fail
        refine C4.mono ?_
        rintro e w9 ⟨c, rfl, hk9⟩
        go_wp2_with fail
        exact bodyPost_ret (v := .tuple #[.int .i64 c, .bool true]) (by simp [results, Tryz.results225, go_sem]) rfl ⟨c, rfl, kept_trans k8 hk9⟩
      · go_wp2_with (at_lookup; refine wpList_lookup_int Tryz.underlying275 rfl rfl rfl rfl hM5 (by rfl) ?_)
        go_wp2_with fail
        refine C5.mono ?_
        rintro e w9 ⟨c, rfl, hk9⟩
        go_wp2_with fail
        exact bodyPost_ret (v := .tuple #[.int .i64 c, .bool true]) (by simp [results, Tryz.results225, go_sem]) rfl ⟨c, rfl, kept_trans k8 hk9⟩
end Go.Proofs.YtdejablhpljdfaaGreat
namespace Go.Proofs.YtdejablhpljdfaaGreat
open Go.RowKit BG
attribute [local go_sem ↓] Go.wp_at_zero Go.wp_at_succ run_max_at run_min_at
set_option linter.unusedVariables false
def Chosen (sz : Nat → Bool) (k : Nat) : Prop := k ≤ 5 ∧ (k = 0 ∨ sz k = true) ∧ (k = 0 → ∀ j, 1 ≤ j → j ≤ 5 → sz j = false)
set_option maxRecDepth 100000 in
set_option maxHeartbeats 4000000 in
theorem choose_c (A : Option Addr) (cap n : Nat) (xs : List Int) (K : Int) (hu : U64 xs) (hl : xs.length = 4 * n) (hn : n ≤ 1000000) (N size : Int) (w : World) (hr : Rd .u64 w A xs) : Calls Tryz.prog 181 #[leafV A n cap K, .int .i64 N, .int .i64 size] w fun e w' => ∃ k : Nat, e = .returned (.int .i64 (k : Nat)) ∧ Chosen (fun j => sizedv j xs n K N size) k ∧ Kept w w' := by
  have CO := fun way hw w1 h => pcost_c way hw A cap n xs K hu hl hn N size w1 h
  have hb := blk_new w (.cells #[.slice A n cap, .int .i64 K] 61)
  have ka := kept_alloc (kept_refl w) (.cells #[.slice A n cap, .int .i64 K] 61)
  generalize hsz : (fun j => sizedv j xs n K N size) = sz at *
  have hsj : ∀ j, sizedv j xs n K N size = sz j := fun j => by rw [← hsz]
  simp only [hsj] at CO
  clear hsz hsj
  go_enter Tryz.func181, Tryz.ntmps181
  go_wp2_with fail
  go_loopw [7, 8, 9] (fun bv lv wv wr => ∃ (q b : Nat) (c : Int), q ≤ 6 ∧ 1 ≤ q ∧ wv = .int .i64 q ∧ bv = .int .i64 b ∧ lv = .int .i64 c ∧ Hid (b < q ∧ (b = 0 ∨ sz b = true) ∧ (b = 0 → ∀ j, 1 ≤ j → j < q → sz j = false)) ∧ wr.heap[w.heap.size]? = some (.cells #[.slice A n cap, .int .i64 K] 61) ∧ Kept w wr) (fun _ _ wv _ => 6 - (intOf wv).toNat)
  case atStart => exact ⟨1, 0, 0, by omega, by omega, rfl, rfl, rfl, ⟨by omega, .inl rfl, fun _ j h1 h2 => by omega⟩, hb, ka⟩
  case round =>
    clear hb ka
    obtain ⟨q, b, c, hq, hq1, rfl, rfl, rfl, HI, hb, hk⟩ := hrel
    by_cases hlt : q ≤ 5
    · have d0 : decide ((q : Int) ≤ 5) = true := decide_eq_true (by omega)
      have d0n : decide (q ≤ 5) = true := decide_eq_true hlt
      have c0 := blk_cell hb 0
      have c1 := blk_cell hb 1
      have CQ := CO q hlt wr (hr.kept hk)
      clear CO
      generalize hz : sz q = z at *
      have HZ := Lib.hid hz
      clear hz
      go_wp2_with fail
      refine CQ.mono ?_
      rintro e w1 ⟨c2, rfl, hk1⟩
      replace hb := blk_kept hk1 hb
      replace hk := kept_trans hk hk1
      clear CQ c0 c1 hk1
      cases z
      · go_wp2_with fail
        exact ⟨⟨q + 1, b, c, by omega, by omega, by go_num, rfl, rfl, ⟨by have := HI.out.1; omega, HI.out.2.1, fun h j h1 h2 => by
          rcases Nat.lt_or_ge j q with h3 | h3
          · exact HI.out.2.2 h j h1 h3
          · obtain rfl : j = q := by omega
            exact HZ.out⟩, hb, hk⟩, by simp [intOf]; omega⟩
      · by_cases hb0 : b = 0
        · subst hb0
          go_wp2_with fail
          exact ⟨⟨q + 1, q, c2, by omega, by omega, by go_num, rfl, rfl, ⟨by omega, .inr HZ.out, fun h => by omega⟩, hb, hk⟩, by simp [intOf]; omega⟩
        · have e1 : ((b : Int) == 0) = false := by rw [beq_eq_false_iff_ne]; omega
          have e2 : decide (b = 0) = false := decide_eq_false hb0
          have e3 : (b == 0) = false := by rw [beq_eq_false_iff_ne]; exact hb0
          by_cases hcc : c2 < c
          · have d1 : decide (c2 < c) = true := decide_eq_true hcc
            go_wp2_with fail
            exact ⟨⟨q + 1, q, c2, by omega, by omega, by go_num, rfl, rfl, ⟨by omega, .inr HZ.out, fun h => by omega⟩, hb, hk⟩, by simp [intOf]; omega⟩
          · have d1 : decide (c2 < c) = false := decide_eq_false hcc
            go_wp2_with fail
            exact ⟨⟨q + 1, b, c, by omega, by omega, by go_num, rfl, rfl, ⟨by have := HI.out.1; omega, HI.out.2.1, fun h => absurd h hb0⟩, hb, hk⟩, by simp [intOf]; omega⟩
    · have d0 : decide ((q : Int) ≤ 5) = false := decide_eq_false (by omega)
      have d0n : decide (q ≤ 5) = false := decide_eq_false hlt
      go_wp2_with fail
      go_ret
      exact ⟨b, rfl, ⟨by have := HI.out.1; omega, HI.out.2.1, fun h j h1 h2 => HI.out.2.2 h j h1 (by omega)⟩, hk⟩
end Go.Proofs.YtdejablhpljdfaaGreat
namespace Go.Proofs.YtdejablhpljdfaaGreat
open Go.RowKit BG
set_option linter.unusedVariables false
theorem sumTo_zero {f : Nat → Int} (h : ∀ j, 0 ≤ f j) : ∀ n, sumTo n f = 0 ↔ ∀ j, j < n → f j = 0 := by
  intro n
  have hp : ∀ m, 0 ≤ sumTo m f := by
    intro m
    induction m with
    | zero => exact Int.le_refl 0
    | succ m ih => have := h m; show 0 ≤ sumTo m f + f m; omega
  induction n with
  | zero => exact ⟨fun _ j hj => absurd hj (Nat.not_lt_zero j), fun _ => rfl⟩
  | succ n ih =>
    have h1 := hp n
    have h2 := h n
    constructor
    · intro e j hj
      have e2 : sumTo n f + f n = 0 := e
      rcases Nat.lt_or_ge j n with hl | hg
      · exact (ih.1 (by omega)) j hl
      · obtain rfl : j = n := by omega
        omega
    · intro e
      have e1 := ih.2 fun j hj => e j (by omega)
      have e2 := e n (by omega)
      show sumTo n f + f n = 0
      omega
theorem val_cases {x : Cl} (hx : x.ok) (ho : okel x = true) : (valv x = 0 ∧ x = fullv) ∨ ∃ b, b < 256 ∧ x = onlyv b ∧ valv x = b + 1 := by
  unfold okel at ho
  by_cases h : (sgl x).2 = true
  · right
    by_cases h1 : sizev x = 1
    · obtain ⟨b, hb, hp⟩ := size_some (x := x) (by omega)
      obtain ⟨e1, e2⟩ := sgl_good hx h1 hb hp
      exact ⟨b, hb, e2, by unfold valv; rw [e1]; rfl⟩
    · rw [sgl_bad hx h1] at h; cases h
  · left
    rw [Bool.eq_false_iff.2 h, Bool.false_or] at ho
    exact ⟨by unfold valv; rw [if_neg h], of_decide_eq_true ho⟩
theorem term_zero {x : Cl} (hx : x.ok) (ho : okel x = true) {b : Nat} (hb : b < 256) : (valv x : Int) * ((valv x : Int) - ((b : Int) + 1)) * ((valv x : Int) - ((b : Int) + 1)) = 0 ↔ hasv x b = true := by
  rcases val_cases hx ho with ⟨h0, rfl⟩ | ⟨b0, h0, rfl, hv⟩
  · rw [h0, has_full]
    simp
  · rw [hv, has_only h0 hb, decide_eq_true_eq]
    constructor
    · intro e
      rcases Int.mul_eq_zero.1 e with e | e
      · rcases Int.mul_eq_zero.1 e with e | e <;> omega
      · omega
    · rintro rfl
      rw [show ((b + 1 : Nat) : Int) - ((b : Int) + 1) = 0 by omega]
      simp
theorem plain_el {xs : List Int} {n j : Nat} (h : plainv xs n = true) (hj : j < n) : okel (cls xs j) = true := by
  unfold plainv at h
  exact List.all_eq_true.1 h j (List.mem_range.2 hj)
theorem zero_law {xs : List Int} {n : Nat} {s : ByteArray} {i : Nat} (hu : U64 xs) (hp : plainv xs n = true) : sumW xs n s i = 0 ↔ missv xs n s i = 0 := by
  unfold sumW missv
  rw [sumTo_zero (f := termW xs s i) (fun j => nn_sq _ _ (Int.natCast_nonneg _)), List.countP_eq_zero]
  constructor
  · intro h j hj
    have := (term_zero (cls_ok hu j) (plain_el hp (List.mem_range.1 hj)) (byteAt_lt s (i + j))).1 (h j (List.mem_range.1 hj))
    unfold misses
    rw [this]
    decide
  · intro h j hj
    have h1 := h j (List.mem_range.2 hj)
    unfold misses at h1
    exact (term_zero (cls_ok hu j) (plain_el hp hj) (byteAt_lt s (i + j))).2 (by simpa using h1)
theorem sums_ok {xs : List Int} {n : Nat} {K : Int} {s : ByteArray} {size : Int} (h : sumsE xs n K s.size size = 0) : rightv xs n K = true ∧ plainv xs n = true ∧ sumsL xs n K s size = mk (s.size + 1 - n) (sumW xs n s) := by
  have hL : sumsL xs n K s size = resL xs n s := by unfold sumsL; rw [h, if_pos rfl]
  unfold sumsE at h
  split at h
  · rename_i h1
    rw [Bool.and_eq_true] at h1
    exact ⟨h1.1, h1.2, by rw [hL, resL_eq (rightv_n h1.1).1]⟩
  · cases h
theorem counts_ok {xs : List Int} {n : Nat} {K : Int} {s : ByteArray} (h : rightv xs n K = true) : countsv xs n K s = mk (s.size + 1 - n) (missF xs n s) := by unfold countsv; rw [if_pos h]
theorem find_ok {xs : List Int} {n : Nat} {K : Int} {s : ByteArray} {size : Int} (hu : U64 xs) (h : findE xs n K s.size size = 0) : findL xs n K s size = hitsv (countsv xs n K s) K := by
  unfold findE at h
  split at h
  · rename_i hK
    subst hK
    obtain ⟨h1, h2, h3⟩ := sums_ok h
    unfold findL
    rw [if_pos rfl, h3, counts_ok h1]
    unfold zerT hitsv hitsT
    rw [mk_length, mk_length]
    congr 1
    refine List.filter_congr fun i hi => ?_
    have hi := List.mem_range.1 hi
    rw [nth_mk hi, nth_mk hi]
    unfold missF
    have := zero_law (s := s) (i := i) hu h2
    rw [decide_eq_decide, this]
    omega
  · cases h
end Go.Proofs.YtdejablhpljdfaaGreat
namespace Go.Proofs.YtdejablhpljdfaaGreat
open Go.RowKit BG
set_option linter.unusedVariables false
theorem range_cut {p q : Nat → Bool} {a b : Nat} (hab : a ≤ b) (h1 : ∀ i, i < a → p i = q i) (h2 : ∀ i, a ≤ i → i < b → p i = false) : (List.range b).filter p = (List.range a).filter q := by
  obtain ⟨d, rfl⟩ : ∃ d, b = a + d := ⟨b - a, by omega⟩
  clear hab
  induction d with
  | zero => exact List.filter_congr fun i hi => h1 i (List.mem_range.1 hi)
  | succ d ih =>
    rw [← Nat.add_assoc, List.range_succ, List.filter_append, ih (fun i a b => h2 i a (by omega))]
    simp [h2 (a + d) (by omega) (by omega)]
theorem sgl_true {x : Cl} (h : (sgl x).2 = true) : x = onlyv (sgl x).1 := by
  unfold sgl at h ⊢
  cases hf : (List.range 256).find? (hasv x) with
  | none => rw [hf] at h; cases h
  | some b =>
    rw [hf] at h
    dsimp only at h ⊢
    by_cases hx : x = onlyv b
    · rw [if_pos hx]; exact hx
    · rw [if_neg hx] at h; cases h
theorem lettersS_at {xs : List Int} {n j : Nat} (h : lettersOk xs n = true) (hj : j < n) : byteAt (lettersS xs n) j = (sgl (cls xs j)).1 := by
  have hs : j < (lettersS xs n).size := by rw [lettersS_size h]; exact hj
  rw [← byteAt_eq hs]
  have e : lettersS xs n = ⟨(lettersL xs n).toArray⟩ := by unfold lettersS; rw [if_pos h]
  have hl : j < (lettersL xs n).length := by rw [lettersL_len]; exact hj
  have h1 : ((lettersS xs n)[j]'hs) = (lettersL xs n)[j]'hl := by
    simp only [e]
    rfl
  rw [h1]
  have := lettersL_at hl
  rw [nth_mk hj] at this
  unfold sglF at this
  omega
theorem letters_ok {xs : List Int} {n : Nat} (h : lettersOk xs n = true) {j : Nat} (hj : j < n) : (sgl (cls xs j)).2 = true := by
  cases hc : (sgl (cls xs j)).2
  · rw [lettersOk_no hj hc] at h; cases h
  · rfl
theorem goes_has {xs : List Int} {n : Nat} {s : ByteArray} (h : lettersOk xs n = true) {i j : Nat} (hj : j < n) (hi : i + n ≤ s.size) : goesOn (lettersS xs n) s i j ↔ hasv (cls xs j) (byteAt s (i + j)) = true := by
  have hx := sgl_true (letters_ok h hj)
  have hb := sgl_lt (cls xs j)
  unfold goesOn
  rw [lettersS_size h, lettersS_at h hj]
  constructor
  · rintro ⟨_, _, e⟩
    rw [hx, has_only hb (byteAt_lt _ _), e]; simp
  · intro e
    rw [hx, has_only hb (byteAt_lt _ _)] at e
    exact ⟨hj, by omega, (of_decide_eq_true e).symm⟩
theorem miss_zero {xs : List Int} {n : Nat} {s : ByteArray} {i : Nat} : missF xs n s i ≤ 0 ↔ ∀ j, j < n → misses xs s i j = false := by
  unfold missF missv
  constructor
  · intro h j hj
    have : (List.range n).countP (misses xs s i) = 0 := by omega
    rw [List.countP_eq_zero] at this
    have := this j (List.mem_range.2 hj)
    simpa using this
  · intro h
    have : (List.range n).countP (misses xs s i) = 0 := by
      rw [List.countP_eq_zero]
      intro j hj
      rw [h j (List.mem_range.1 hj)]; decide
    omega
theorem zed_law {xs : List Int} {n : Nat} {s : ByteArray} (hr : rightv xs n 0 = true) (h : lettersOk xs n = true) : zedF (lettersS xs n) s = hitsv (countsv xs n 0 s) 0 := by
  obtain ⟨hn1, -⟩ := rightv_n hr
  have hz := lettersS_size h
  unfold zedF hitsv hitsT zhit countsv
  rw [if_neg (by omega), if_pos hr, mk_length]
  refine congrArg _ (range_cut (by omega) (fun i hi => ?_) fun i h1 h2 => ?_)
  · rw [nth_mk hi, hz]
    have hin : i + n ≤ s.size := by omega
    by_cases hm : ∀ j, j < n → misses xs s i j = false
    · rw [decide_eq_true (miss_zero.2 hm)]
      refine decide_eq_true (isL_eq ⟨fun k hk => (goes_has h hk hin).2 ?_, fun g => by have := g.1; omega⟩)
      have := hm k hk
      unfold misses at this
      simpa using this
    · rw [decide_eq_false (fun hq => hm (miss_zero.1 hq))]
      refine decide_eq_false fun hl => hm fun j hj => ?_
      have := (lcp_is (lettersS xs n) s i).1 j (by omega)
      have := (goes_has h hj hin).1 this
      unfold misses
      simp [this]
  · refine decide_eq_false fun hl => ?_
    have := (lcp_is (lettersS xs n) s i).1 (n - 1) (by omega)
    have := this.2.1
    omega
theorem way_law {way : Nat} {xs : List Int} {n : Nat} {K : Int} {s : ByteArray} {size : Int} (hu : U64 xs) (hw : way ≤ 5) (hz : sizedv way xs n K s.size size = true) : mFL way xs n K s size = hitsv (countsv xs n K s) K ∧ mFE way xs n K s.size size = 0 := by
  have hz0 := hz
  have ha : admitsv way xs n K = true := by unfold sizedv at hz; rw [Bool.and_eq_true] at hz; exact hz.1
  have he : matE way xs n K s.size size = 0 := by unfold matE; rw [if_pos ha, if_pos hz]
  have hrv : rightv xs n K = true := by unfold admitsv at ha; rw [Bool.and_eq_true] at ha; exact ha.1
  have hfr : freeb way xs n = true ∨ ((s.size : Int) < (n : Int)) ∨ szb n size = true := by
    unfold sizedv at hz
    simp only [Bool.and_eq_true, Bool.or_eq_true, decide_eq_true_eq] at hz
    rcases hz.2 with (h | h) | h
    · exact .inl h
    · exact .inr (.inl h)
    · refine .inr (.inr ?_)
      unfold szb; rw [h.1, decide_eq_true h.2]; rfl
  unfold mFL mFE
  rw [if_pos he, if_pos he]
  have hw2 : way = 0 ∨ way = 1 ∨ way = 2 ∨ way = 3 ∨ way = 4 ∨ way = 5 := by omega
  rcases hw2 with rfl | rfl | rfl | rfl | rfl | rfl
  · unfold admitsv at ha; simp at ha
  · exact ⟨rfl, rfl⟩
  · unfold admitsv at ha
    simp at ha
    obtain ⟨-, hlo, rfl⟩ := ha
    exact ⟨zed_law hrv hlo, rfl⟩
  · unfold admitsv at ha
    simp at ha
    obtain ⟨-, hpl, rfl⟩ := ha
    have hfe : findE xs n 0 s.size size = 0 := by
      unfold findE sumsE errW
      rw [if_pos rfl, if_pos (by rw [hrv, hpl]; rfl)]
      cases hsl : slb n s.size
      · rfl
      · rw [if_pos rfl]
        unfold slb at hsl
        have hsl := of_decide_eq_true hsl
        rcases hfr with h | h | h
        · unfold freeb at h; simp at h
        · omega
        · rw [if_pos h]
    exact ⟨find_ok hu hfe, hfe⟩
  · have hse : symE xs n K s.size size = 0 := by
      unfold symE
      rw [if_pos hrv, if_neg]
      rintro ⟨h1, h2⟩
      rcases hfr with h | h | h
      · unfold freeb at h; simp at h
      · omega
      · rw [h] at h2; cases h2
    refine ⟨?_, hse⟩
    show symF xs n K s size = _
    unfold symF; rw [if_pos hse]
  · have hpl : plainv xs n = true := by unfold admitsv at ha; simp at ha; exact ha.2
    have hse : splEr xs n K s.size size = 0 := by
      unfold splEr splE
      rw [if_pos ⟨hrv, hpl⟩, if_neg]
      rintro ⟨h0, h1, h2⟩
      rcases hfr with h | h | h
      · unfold freeb at h
        simp at h
        have : partsF xs n (kindsC xs n) = (frqL xs n).length := by
          unfold partsF frqL
          rw [List.countP_eq_length_filter]
          rfl
        omega
      · omega
      · rw [h] at h2; cases h2
    refine ⟨?_, hse⟩
    show splF xs n K s size = _
    unfold splF; rw [if_pos hse]
theorem chosen_law {k : Nat} {xs : List Int} {n : Nat} {K : Int} {s : ByteArray} {size : Int} (hu : U64 xs) (hr : rightv xs n K = true) (h : Chosen (fun j => sizedv j xs n K s.size size) k) : 1 ≤ k ∧ k ≤ 5 ∧ mFL k xs n K s size = hitsv (countsv xs n K s) K ∧ mFE k xs n K s.size size = 0 := by
  obtain ⟨h1, h2, h3⟩ := h
  have h0 : k ≠ 0 := fun h => by
    have := h3 h 1 (by omega) (by omega)
    dsimp only at this
    unfold sizedv admitsv freeb at this
    rw [hr] at this
    simp at this
  have h2 : sizedv k xs n K s.size size = true := by
    rcases h2 with h2 | h2
    · exact absurd h2 h0
    · exact h2
  obtain ⟨a, b⟩ := way_law hu h1 h2
  exact ⟨by omega, h1, a, b⟩
end Go.Proofs.YtdejablhpljdfaaGreat
namespace Go.Proofs.YtdejablhpljdfaaGreat
open Go.RowKit BG
attribute [local go_sem ↓] Go.wp_at_zero Go.wp_at_succ run_max_at run_min_at
set_option linter.unusedVariables false
def confV (F Z : Int) : Value := .agg #[.int .i64 F, .int .i64 Z]
def evSz (n : Nat) (N Z : Int) : Int := if Z = 0 then fitv n N else Z
set_option maxRecDepth 100000 in
set_option maxHeartbeats 1000000 in
theorem evsize_c (A : Option Addr) (cap n : Nat) (K N F Z : Int) (w : World) : Calls Tryz.prog 137 #[leafV A n cap K, .int .i64 N, confV F Z] w (Ret (.int .i64 (evSz n N Z)) w) := by
  have FT := fun w1 => fit_c n N w1
  have hb := blk_alloc (blk_new w (.cells #[.slice A n cap, .int .i64 K] 61)) (.cells #[.int .i64 F, .int .i64 Z] 32)
  have hc := blk_new1 w (.cells #[.slice A n cap, .int .i64 K] 61) (.cells #[.int .i64 F, .int .i64 Z] 32)
  have ka := kept_alloc (kept_alloc (kept_refl w) (.cells #[.slice A n cap, .int .i64 K] 61)) (.cells #[.int .i64 F, .int .i64 Z] 32)
  have c0 := blk_cell hb 0
  have c1 := blk_cell hb 1
  have c2 := blk_cell hc 0
  have c3 := blk_cell hc 1
  unfold evSz
  show Calls _ _ #[leafV A n cap K, .int .i64 N, .agg #[.int .i64 F, .int .i64 Z]] _ _
  generalize fitv n N = ft at *
  by_cases hz : Z = 0
  · subst hz
    rw [if_pos rfl]
    go_enter Tryz.func137, Tryz.ntmps137
    go_wp2_with fail
    refine (FT _).mono ?_
    rintro e w1 ⟨rfl, hk1⟩
    clear FT c0 c1 c2 c3
    go_wp2_with fail
    go_ret
    exact ⟨rfl, kept_trans ka hk1⟩
  · rw [if_neg hz]
    have e1 : (Z != 0) = true := by rw [bne_iff_ne]; exact hz
    go_enter Tryz.func137, Tryz.ntmps137
    go_wp2_with fail
    go_ret
    exact ⟨rfl, ka⟩
end Go.Proofs.YtdejablhpljdfaaGreat
namespace Go.Proofs.YtdejablhpljdfaaGreat
open Go.RowKit BG
attribute [local go_sem ↓] Go.wp_at_zero Go.wp_at_succ run_max_at run_min_at
set_option linter.unusedVariables false
set_option maxRecDepth 100000 in
set_option maxHeartbeats 2000000 in
theorem evway_c (F : Nat) (hF : F ≤ 5) (Z : Int) (A : Option Addr) (cap n : Nat) (xs : List Int) (K : Int) (hu : U64 xs) (hl : xs.length = 4 * n) (hn : n ≤ 1000000) (N : Int) (w : World) (hr : Rd .u64 w A xs) : Calls Tryz.prog 136 #[leafV A n cap K, .int .i64 N, confV F Z] w fun e w' => ∃ k : Nat, e = .returned (.int .i64 (k : Nat)) ∧ Chosen (fun j => sizedv j xs n K N (evSz n N Z)) k ∧ Kept w w' := by
  have SZ := fun w1 => evsize_c A cap n K N F Z w1
  have PS := fun sz w1 h => psized_c F hF A cap n xs K hu hl hn N sz w1 h
  have CH := fun sz w1 h => choose_c A cap n xs K hu hl hn N sz w1 h
  have hb := blk_alloc (blk_new w (.cells #[.slice A n cap, .int .i64 K] 61)) (.cells #[.int .i64 (F : Nat), .int .i64 Z] 32)
  have hc := blk_new1 w (.cells #[.slice A n cap, .int .i64 K] 61) (.cells #[.int .i64 (F : Nat), .int .i64 Z] 32)
  have ka := kept_alloc (kept_alloc (kept_refl w) (.cells #[.slice A n cap, .int .i64 K] 61)) (.cells #[.int .i64 (F : Nat), .int .i64 Z] 32)
  have c0 := blk_cell hb 0
  have c1 := blk_cell hb 1
  have c2 := blk_cell hc 0
  have c3 := blk_cell hc 1
  generalize evSz n N Z = sz at *
  have PS := PS sz
  have CH := CH sz
  show Calls _ _ #[leafV A n cap K, .int .i64 N, .agg #[.int .i64 (F : Nat), .int .i64 Z]] _ _
  unfold confV at SZ
  go_enter Tryz.func136, Tryz.ntmps136
  go_wp2_with fail
  refine (SZ _).mono ?_
  rintro e w1 ⟨rfl, hk1⟩
  replace hb := blk_kept hk1 hb
  replace hc := blk_kept hk1 hc
  replace ka := kept_trans ka hk1
  replace c0 := blk_cell hb 0
  replace c1 := blk_cell hb 1
  replace c2 := blk_cell hc 0
  replace c3 := blk_cell hc 1
  clear SZ hk1
  go_wp2_with fail
  refine (PS _ (hr.kept ka)).mono ?_
  rintro e w2 ⟨rfl, hk2⟩
  replace hb := blk_kept hk2 hb
  replace hc := blk_kept hk2 hc
  replace ka := kept_trans ka hk2
  replace c0 := blk_cell hb 0
  replace c1 := blk_cell hb 1
  replace c2 := blk_cell hc 0
  clear PS hk2 c3
  have h0 : sizedv 0 xs n K N sz = false := by simp [sizedv, admitsv]
  cases hz : sizedv F xs n K N sz
  · have HZ := Lib.hid hz
    clear hz h0
    go_wp2_with fail
    refine (CH _ (hr.kept ka)).mono ?_
    rintro e w3 ⟨k, rfl, hcz, hk3⟩
    have HC := Lib.hid (⟨hcz, kept_trans ka hk3⟩ : _ ∧ _)
    clear CH hcz hk3 c0 c1 c2
    go_wp2_with fail
    go_ret
    exact ⟨k, rfl, HC.out.1, HC.out.2⟩
  · have hF0 : F ≠ 0 := fun h => by rw [h, h0] at hz; cases hz
    have HZ := Lib.hid (⟨hz, hF0⟩ : _ ∧ _)
    clear hz h0 hF0
    go_wp2_with fail
    go_ret
    exact ⟨F, rfl, ⟨hF, .inr HZ.out.1, fun h => absurd h HZ.out.2⟩, ka⟩
end Go.Proofs.YtdejablhpljdfaaGreat
namespace Go.Proofs.YtdejablhpljdfaaGreat
open Go.RowKit BG
attribute [local go_sem ↓] Go.wp_at_zero Go.wp_at_succ run_max_at run_min_at
set_option linter.unusedVariables false
def AnsH (L : List Int) (w : World) (e : Ending) (w' : World) : Prop := ∃ A c N E, e = .returned (.tuple #[.slice A L.length c, .int .i64 N, .int .i64 E]) ∧ RdF w.heap.size .i64 w' A L ∧ Kept w w'
theorem mfind_c (k : Nat) (h1 : 1 ≤ k) (h5 : k ≤ 5) (A : Option Addr) (cap n : Nat) (xs : List Int) (K : Int) (s : ByteArray) (size : Int) (hu : U64 xs) (hl : xs.length = 4 * n) (hn : n ≤ 1000000) (hsz : s.size ≤ 900000) (w : World) (hr : Rd .u64 w A xs) : Calls Tryz.prog 26 #[.int .i64 (k : Nat), leafV A n cap K, .string s, .int .i64 size] w (AnsJ (mFL k xs n K s size) (mFN k xs n K s.size size) (mFE k xs n K s.size size) w) := by
  have h : k = 1 ∨ k = 2 ∨ k = 3 ∨ k = 4 ∨ k = 5 := by omega
  rcases h with rfl | rfl | rfl | rfl | rfl
  · exact mfind_1 A cap n xs K s size hu hl hn hsz w hr
  · exact mfind_2 A cap n xs K s size hu hl hn hsz w hr
  · exact mfind_3 A cap n xs K s size hu hl hn hsz w hr
  · exact mfind_4 A cap n xs K s size hu hl hn hsz w hr
  · exact mfind_5 A cap n xs K s size hu hl hn hsz w hr
set_option maxRecDepth 100000 in
set_option maxHeartbeats 4000000 in
theorem evleaf_c (F : Nat) (hF : F ≤ 5) (Z : Int) (A : Option Addr) (cap n : Nat) (xs : List Int) (K : Int) (s : ByteArray) (hu : U64 xs) (hl : xs.length = 4 * n) (hrv : rightv xs n K = true) (hsz : s.size ≤ 900000) (w : World) (hr : Rd .u64 w A xs) : Calls Tryz.prog 74 #[leafV A n cap K, .string s, confV F Z] w (AnsH (hitsv (countsv xs n K s) K) w) := by
  obtain ⟨-, hn64, -⟩ := rightv_n hrv
  have WY := fun w1 h => evway_c F hF Z A cap n xs K hu hl (by omega) s.size w1 h
  have SZ := fun w1 => evsize_c A cap n K s.size F Z w1
  have FD : ∀ k : Nat, Chosen (fun j => sizedv j xs n K s.size (evSz n s.size Z)) k → ∀ w1, Rd .u64 w1 A xs → Calls Tryz.prog 26 #[.int .i64 (k : Nat), leafV A n cap K, .string s, .int .i64 (evSz n s.size Z)] w1 (AnsH (hitsv (countsv xs n K s) K) w1) := fun k hk w1 h => by
    obtain ⟨a, b, c, d⟩ := chosen_law hu hrv hk
    refine (mfind_c k a b A cap n xs K s _ hu hl (by omega) hsz w1 h).mono ?_
    rintro e w2 ⟨B, c2, rfl, rd, hk2⟩
    rw [c] at rd ⊢
    exact ⟨B, c2, _, _, rfl, rd, hk2⟩
  have hb := blk_alloc (blk_new w (.cells #[.slice A n cap, .int .i64 K] 61)) (.cells #[.int .i64 (F : Nat), .int .i64 Z] 32)
  have hc := blk_new1 w (.cells #[.slice A n cap, .int .i64 K] 61) (.cells #[.int .i64 (F : Nat), .int .i64 Z] 32)
  have ka := kept_alloc (kept_alloc (kept_refl w) (.cells #[.slice A n cap, .int .i64 K] 61)) (.cells #[.int .i64 (F : Nat), .int .i64 Z] 32)
  have c0 := blk_cell hb 0
  have c1 := blk_cell hb 1
  have c2 := blk_cell hc 0
  have c3 := blk_cell hc 1
  have hrr := hr.kept ka
  have kr := kept_refl ((w.alloc (.cells #[.slice A n cap, .int .i64 K] 61)).alloc (.cells #[.int .i64 (F : Nat), .int .i64 Z] 32))
  unfold confV at *
  generalize hitsv (countsv xs n K s) K = zl at *
  generalize hch : (fun k => Chosen (fun j => sizedv j xs n K s.size (evSz n s.size Z)) k) = ch at *
  have WYh : ∀ w1 : World, Rd .u64 w1 A xs → Calls Tryz.prog 136 #[leafV A n cap K, .int .i64 (s.size : Nat), .agg #[.int .i64 (F : Nat), .int .i64 Z]] w1 fun e w' => ∃ k : Nat, e = .returned (.int .i64 (k : Nat)) ∧ ch k ∧ Kept w1 w' := by rw [← hch]; exact WY
  clear WY
  have FDh : ∀ k : Nat, ch k → ∀ w1, Rd .u64 w1 A xs → Calls Tryz.prog 26 #[.int .i64 (k : Nat), leafV A n cap K, .string s, .int .i64 (evSz n s.size Z)] w1 (AnsH zl w1) := by rw [← hch]; exact FD
  clear FD
  clear hch
  generalize evSz n s.size Z = sz at *
  go_enter Tryz.func74, Tryz.ntmps74
  go_wp2_with fail
  clear hr hb hc
  go_region_held3 (fun w' => w'.cell? ⟨w.heap.size, 0, none⟩ = some (.slice A n cap) ∧ w'.cell? ⟨w.heap.size, 1, none⟩ = some (.int .i64 K) ∧ w'.cell? ⟨w.heap.size + 1, 0, none⟩ = some (.int .i64 (F : Nat)) ∧ w'.cell? ⟨w.heap.size + 1, 1, none⟩ = some (.int .i64 Z)) (first | exact ⟨by assumption, by assumption, by assumption, by assumption⟩ | exact ⟨kept_cell hk4 c0, kept_cell hk4 c1, kept_cell hk4 c2, kept_cell hk4 c3⟩ | exact ⟨kept_cell hk3 c0, kept_cell hk3 c1, kept_cell hk3 c2, kept_cell hk3 c3⟩ | exact ⟨kept_cell hk2 c0, kept_cell hk2 c1, kept_cell hk2 c2, kept_cell hk2 c3⟩) (first | (go_at_call 137; refine (SZ _).mono ?_; rintro e w3 ⟨rfl, hk3⟩; (first | replace hk3 := kept_trans hk2 hk3 | replace hk3 := kept_trans (kept_drew kr) hk3)) | (go_at_call 136; (first | refine (WYh _ (hrr.kept hk3)).mono ?_ | refine (WYh _ (hrr.kept (kept_drew kr))).mono ?_); rintro e w2 ⟨k, rfl, hck, hk2⟩; (first | replace hk2 := kept_trans hk3 hk2 | replace hk2 := kept_trans (kept_drew kr) hk2)) | (go_at_call 26; (first | (refine (FDh k hck _ (hrr.kept hk3)).mono ?_; rintro e w4 ⟨A3, c3', N, E, rfl, rd3, hk4⟩; replace rd3 := rd3.less hk3.size; replace hk4 := kept_trans hk3 hk4) | (refine (FDh k hck _ (hrr.kept hk2)).mono ?_; rintro e w4 ⟨A3, c3', N, E, rfl, rd3, hk4⟩; replace rd3 := rd3.less hk2.size; replace hk4 := kept_trans hk2 hk4))))
  all_goals
    have HR := Lib.hid (⟨rd3, kept_trans ka hk4⟩ : _ ∧ _)
    clear rd3 hk4 hk3 hk2 FDh WYh SZ
    generalize hzz : zl.length = zz at *
    have HZ := Lib.hid hzz
    clear hzz
    go_wp2_with fail
    exact bodyPost_ret (v := .tuple #[.slice A3 zz c3', .int .i64 N, .int .i64 E]) (by simp [results, Tryz.results74, go_sem]) rfl ⟨A3, c3', N, E, by rw [HZ.out], HR.out.1.less ka.size, HR.out.2⟩
end Go.Proofs.YtdejablhpljdfaaGreat
namespace Go.Proofs.YtdejablhpljdfaaGreat
open Go.RowKit BG
attribute [local go_sem ↓] Go.wp_at_zero Go.wp_at_succ
set_option linter.unusedVariables false
theorem blk_drew {w : World} {g : Nat} {o : Obj} (h : w.heap[g]? = some o) : w.drew.heap[g]? = some o := h
def Own2 (base : Nat) (w : World) (v : Value) (n : Nat) (xs : List Int) : Prop := w.ownsRow base 131 2 v n (xs.map (Value.int .i64))
theorem Own2.nil (base : Nat) (w : World) : Own2 base w (.slice none 0 0) 0 [] := ⟨by simp, .inl ⟨rfl, rfl⟩⟩
theorem Own2.rd {base n : Nat} {w : World} {v : Value} {xs : List Int} (h : Own2 base w v n xs) (hb : n ≤ 1000000000000000) : ∃ A c, v = .slice A n c ∧ xs.length = 2 * n ∧ Rd .i64 w A xs := by
  have hl : xs.length = 2 * n := by have := h.1; rw [List.length_map] at this; omega
  rcases h.2 with ⟨rfl, rfl⟩ | ⟨g, cap, cur, rfl, _, _, h1, h2, _⟩
  · exact ⟨none, 0, rfl, hl, by omega, fun hp => by omega⟩
  · refine ⟨_, cap, rfl, hl, by omega, fun _ => ⟨_, rfl, fun j hj => World.ownsRow.cells h (g := g) rfl j _ ?_⟩⟩
    rw [List.getElem?_map, List.getElem?_eq_getElem hj, Option.map_some, nth_lt hj]
theorem Own2.pos {base n : Nat} {w : World} {v : Value} {xs : List Int} (h : Own2 base w v n xs) (hn : 0 < n) (hb : n ≤ 1000000000000000) : ∃ g c, v = .slice (some ⟨g, 0, none⟩) n c ∧ xs.length = 2 * n ∧ Rd .i64 w (some ⟨g, 0, none⟩) xs := by
  obtain ⟨A, c, rfl, hl, hr⟩ := h.rd hb
  rcases h.2 with ⟨h', _⟩ | ⟨g, cap, cur, h', _⟩
  · simp at h'; omega
  · simp only [Value.slice.injEq] at h'
    obtain ⟨rfl, _, rfl⟩ := h'
    exact ⟨g, c, rfl, hl, hr⟩
theorem info_p2 : (Tryz.prog.info? 131).map (fun i => (i.zero, i.size, i.bytes)) = some (some (.agg #[.int .i64 0, .int .i64 0]), 2, 16) := by kernel_rfl
end Go.Proofs.YtdejablhpljdfaaGreat
