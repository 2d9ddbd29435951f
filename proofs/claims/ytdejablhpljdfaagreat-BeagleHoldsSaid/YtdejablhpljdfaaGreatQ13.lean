/-
  Texts of one claim, joined: TSplit2, WGrid7, WGrid8, WBlk9.
-/
import Derived.Test.YtdejablhpljdfaaGreatQ12
import Derived.Test.YtdejablhpljdfaaGreatQ06
import Derived.Test.YtdejablhpljdfaaGreatQ11
import Derived.Test.YtdejablhpljdfaaGreatQ05
namespace Go.Proofs.YtdejablhpljdfaaGreat
open Go.RowKit BG
attribute [local go_sem ↓] Go.wp_at_zero Go.wp_at_succ
set_option linter.unusedVariables false
theorem wpList_hold {P : Program} {ops : Array Oper} {rest : List Oper} {o : Oper} {a : Act} {Q : Exit → Act → World → Prop} {w : World} (ty : TypeId) {x y : Operand} (ho : o.op = .store ty x y) (h : Hid (wpList P ops Q (o :: rest) a w)) : wpList P ops Q (o :: rest) a w := h.out
theorem grown_trans {w w1 w2 : World} {row : Option Nat} (h : w.grownBy w1 row) (k : w1.grownBy w2 row) : w.grownBy w2 row :=
  ⟨k.os.trans h.os, k.tape.trans h.tape, k.output.trans h.output, Nat.le_trans h.size k.size, fun i hi hn => (k.block i (Nat.lt_of_lt_of_le hi h.size) hn).trans (h.block i hi hn)⟩
theorem own_setCells {base n size g cap : Nat} {e : TypeId} : ∀ (vs : List Value) (o : Nat) (w : World) (xs : List Value), w.ownsRow base e size (.slice (some ⟨g, 0, none⟩) n cap) n xs → o + vs.length ≤ xs.length →
    (w.setCells g o vs).ownsRow base e size (.slice (some ⟨g, 0, none⟩) n cap) n (xs.take o ++ vs ++ xs.drop (o + vs.length)) ∧ w.grownBy (w.setCells g o vs) (some g)
  | [], o, w, xs, h, _ => ⟨by simpa [World.setCells] using h, ⟨rfl, rfl, rfl, Nat.le_refl _, fun _ _ _ => rfl⟩⟩
  | v :: r, o, w, xs, h, hl => by
    simp only [List.length_cons] at hl
    have S := World.ownsRow.stored h o v
    have hs : xs.set o v = xs.take o ++ v :: xs.drop (o + 1) := List.set_eq_take_append_cons_drop.trans (if_pos (by omega))
    have I := own_setCells r (o + 1) _ _ S.1 (by simp; omega)
    refine ⟨?_, grown_trans S.2 I.2⟩
    have e1 : (xs.set o v).take (o + 1) = xs.take o ++ [v] := by
      rw [hs, List.take_append, List.take_of_length_le (by simp; omega), List.length_take, show o + 1 - min o xs.length = 1 by omega]
      rfl
    have e2 : (xs.set o v).drop (o + 1 + r.length) = xs.drop (o + (r.length + 1)) := by
      rw [hs, List.drop_append, List.drop_of_length_le (by simp; omega), List.length_take, show o + 1 + r.length - min o xs.length = r.length + 1 by omega, List.drop_succ_cons, List.drop_drop, List.nil_append]
      congr 1; omega
    have := I.1
    rw [e1, e2] at this
    simpa [World.setCells] using this
theorem own_there {base n size g cap : Nat} {e : TypeId} {w : World} {xs : List Value} (h : w.ownsRow base e size (.slice (some ⟨g, 0, none⟩) n cap) n xs) {o k : Nat} (hk : o + k ≤ xs.length) : w.there g o k := fun j hj => by
  have := World.ownsRow.cellAt h (o + j) (by rw [← h.1]; omega)
  exact ⟨by rw [this, List.getElem?_eq_getElem (by omega)]; rfl, World.ownsRow.frozenAt h (o + j)⟩
def zc : Array Value := #[.int .u64 0, .int .u64 0, .int .u64 0, .int .u64 0]
theorem zeroCells_cls (n : Nat) : (Builtin.zeroCells zc n).toList = List.replicate (4 * n) (.int .u64 0) := by
  unfold Builtin.zeroCells zc
  refine List.ext_getElem (by simp; omega) fun i h1 h2 => ?_
  simp
  have hk : i % 4 < 4 := Nat.mod_lt _ (by decide)
  generalize i % 4 = k at *
  match k, hk with
  | 0, _ => rfl
  | 1, _ => rfl
  | 2, _ => rfl
  | 3, _ => rfl
theorem run_clearC (w : World) (ty : TypeId) (b o n c : Nat) (hn : 0 < n) (ht : w.there b o (4 * n)) : (Builtin.clear_ #[59] ty #[.slice (some ⟨b, o, none⟩) n c]).run Tryz.prog w = .ok (.tuple #[]) (w.setCells b o (List.replicate (4 * n) (.int .u64 0))) := by
  have hz : (zeroValue 110).run Tryz.prog w = .ok (.agg zc) w := by kernel_rfl
  have hst := run_storeCells_cells (P := Tryz.prog) b o (List.replicate (4 * n) (.int .u64 0)) 0 w (fun j hj => by simpa using (ht j (by simpa using hj)).1) (fun j hj => by simpa using (ht j (by simpa using hj)).2) (by intro v hv'; rw [List.eq_of_mem_replicate hv']; rfl)
  simp only [Nat.add_zero] at hst
  obtain ⟨m, rfl⟩ : ∃ m, n = m + 1 := ⟨n - 1, by omega⟩
  simp [Builtin.clear_, run_underlying Tryz.underlying59, hz, Value.cells, zeroCells_cls, hst]
theorem info_clsz (a b c d : Int) : (Tryz.prog.info? 110).map (·.size) = some (#[Value.int .u64 a, .int .u64 b, .int .u64 c, .int .u64 d] : Array Value).size := by
  obtain ⟨i1, hif1, hy0, hy1, hy2⟩ := info_parts info_class
  rw [hif1, Option.map_some, hy1]
  rfl
theorem one_cls (a b c d : Int) : (#[Value.int .u64 a, .int .u64 b, .int .u64 c, .int .u64 d] : Array Value).all (·.oneCell') = true := by simp [Value.oneCell']
def keepC (p : Cl → Bool) (l : List Cl) (j : Nat) : List Cl := (l.take j).filter fun x => !p x
theorem keepC_succ {p : Cl → Bool} {l : List Cl} {j : Nat} (hj : j < l.length) : keepC p l (j + 1) = keepC p l j ++ (if p l[j] = true then [] else [l[j]]) := by
  unfold keepC
  rw [List.take_succ_eq_append_getElem hj, List.filter_append]
  congr 1
  cases h : p l[j] <;> simp [h]
theorem keepC_le (p : Cl → Bool) (l : List Cl) (j : Nat) : (keepC p l j).length ≤ j := Nat.le_trans (List.length_filter_le _ _) (by simp; omega)
theorem keepC_none {p : Cl → Bool} {l : List Cl} : ∀ {j : Nat}, j ≤ l.length → (∀ q (h : q < l.length), q < j → p l[q] = false) → keepC p l j = l.take j
  | 0, _, _ => rfl
  | j + 1, hj, h => by
    rw [keepC_succ (show j < l.length by omega), keepC_none (by omega) fun q h1 h2 => h q h1 (by omega), h j (by omega) (by omega), List.take_succ_eq_append_getElem (by omega)]
    rfl
theorem flatC_take : ∀ (l : List Cl) (i : Nat), (flatC l).take (4 * i) = flatC (l.take i)
  | [], i => by simp [flatC]
  | x :: l, 0 => by simp [flatC]
  | x :: l, i + 1 => by
    have e : flatC (x :: l) = clL x ++ flatC l := by unfold flatC; rw [List.flatMap_cons]
    have e2 : flatC ((x :: l).take (i + 1)) = clL x ++ flatC (l.take i) := by unfold flatC; rw [List.take_succ_cons, List.flatMap_cons]
    rw [e, e2, ← flatC_take l i, List.take_append, List.take_of_length_le (by simp [clL]; omega)]
    congr 1
def delI (p : Cl → Bool) (l : List Cl) (j : Nat) (R : List Int) : Prop := R.length = 4 * l.length ∧ R.take (4 * (keepC p l j).length) = flatC (keepC p l j) ∧ ∀ q (h : q < l.length), j ≤ q → cls R q = l[q]
theorem cls_take {R R' : List Int} {k q : Nat} (h : R.drop k = R'.drop k) (hk : k ≤ q * 4) : cls R q = cls R' q := by
  have e : ∀ t, k ≤ t → nth R t = nth R' t := fun t ht => by
    have := congrArg (fun L => L.getD (t - k) 0) h
    simp only [List.getD_eq_getElem?_getD, List.getElem?_drop, show k + (t - k) = t by omega] at this
    unfold nth
    simpa [List.getD_eq_getElem?_getD] using this
  unfold cls
  rw [e _ (by omega), e _ (by omega), e _ (by omega), e _ (by omega)]
theorem delI_skip {p : Cl → Bool} {l : List Cl} {j : Nat} {R : List Int} (h : delI p l j R) (hj : j < l.length) (hp : p l[j] = true) : delI p l (j + 1) R ∧ keepC p l (j + 1) = keepC p l j := by
  have e : keepC p l (j + 1) = keepC p l j := by rw [keepC_succ hj, if_pos hp, List.append_nil]
  exact ⟨⟨h.1, by rw [e]; exact h.2.1, fun q hq hl => h.2.2 q hq (by omega)⟩, e⟩
theorem delI_keep {p : Cl → Bool} {l : List Cl} {j : Nat} {R : List Int} (h : delI p l j R) (hj : j < l.length) (hp : p l[j] = false) : delI p l (j + 1) (R.take (4 * (keepC p l j).length) ++ clL l[j] ++ R.drop (4 * (keepC p l j).length + 4)) ∧ keepC p l (j + 1) = keepC p l j ++ [l[j]] := by
  have e : keepC p l (j + 1) = keepC p l j ++ [l[j]] := by rw [keepC_succ hj, hp]; rfl
  have hi := keepC_le p l j
  have hR := h.1
  generalize hk : (keepC p l j).length = i at *
  have hc : (clL l[j]).length = 4 := rfl
  have ht : (R.take (4 * i)).length = 4 * i := by rw [List.length_take]; omega
  refine ⟨⟨?_, ?_, fun q hq hl => ?_⟩, e⟩
  · simp only [List.length_append, ht, hc, List.length_drop]; omega
  · rw [e, List.length_append, hk, flatC_append, ← h.2.1, hk, List.length_singleton, List.take_left' (by rw [List.length_append, ht, hc]; omega)]
  · rw [← h.2.2 q hq (by omega)]
    refine cls_take (k := 4 * i + 4) ?_ (by omega)
    rw [List.drop_left' (by rw [List.length_append, ht, hc])]
theorem delI_start {p : Cl → Bool} {l : List Cl} {j : Nat} (hj : j < l.length) (hp : p l[j] = true) (hm : ∀ q (h : q < l.length), q < j → p l[q] = false) : delI p l (j + 1) (flatC l) ∧ keepC p l (j + 1) = l.take j := by
  have e : keepC p l (j + 1) = l.take j := by rw [keepC_succ hj, if_pos hp, List.append_nil, keepC_none (by omega) hm]
  exact ⟨⟨flatC_length l, by rw [e, List.length_take, show min j l.length = j by omega]; exact flatC_take l j, fun q hq _ => flatC_cls l q hq⟩, e⟩
theorem first_true (f : Nat → Bool) : ∀ n, (∀ q, q < n → f q = false) ∨ ∃ j, j < n ∧ f j = true ∧ ∀ q, q < j → f q = false
  | 0 => .inl fun q h => absurd h (Nat.not_lt_zero q)
  | n + 1 => by
    rcases first_true f n with h | ⟨j, h1, h2, h3⟩
    · cases hf : f n
      · exact .inl fun q hq => by
          rcases Nat.lt_or_ge q n with h' | h'
          · exact h q h'
          · rw [show q = n by omega]; exact hf
      · exact .inr ⟨n, by omega, hf, h⟩
    · exact .inr ⟨j, by omega, h2, h3⟩
set_option maxRecDepth 100000 in
set_option maxHeartbeats 8000000 in
theorem delf_c (F : FuncId) (bd : Array Value) (hent : ∀ args w, (callFunc F args).run Tryz.prog w = .ok (.enter F args) w) (p : Cl → Bool) (l : List Cl) (g cap base : Nat) (hm : l.length ≤ 1000000) (w0 w : World) (hk0 : Kept w0 w) (hb0 : w0.heap.size ≤ base) (hown : w.ownsRow base 110 4 (.slice (some ⟨g, 0, none⟩) l.length cap) l.length ((flatC l).map (Value.int .u64)))
    (hcall : ∀ x ∈ l, ∀ w', Kept w0 w' → Calls Tryz.prog F (#[x.v] ++ bd) w' (Ret (.bool (p x)) w')) :
    Calls Tryz.prog 200 #[.slice (some ⟨g, 0, none⟩) l.length cap, .func (.func F) #[] bd] w fun e w' => e = .returned (.slice (some ⟨g, 0, none⟩) (keepC p l l.length).length cap) ∧ Rd .u64 w' (some ⟨g, 0, none⟩) (flatC (keepC p l l.length)) ∧ w.grownBy w' (some g) := by
  have hfl := flatC_length l
  have hcap : l.length ≤ cap := by
    rcases hown.2 with ⟨h, _⟩ | ⟨g', cap', cur, h, _, _, h2, _⟩
    · cases h
    · simp only [Value.slice.injEq] at h; omega
  have hgw := (World.ownsRow.lt hown g rfl).2
  have hgb := (World.ownsRow.lt hown g rfl).1
  have rd0 : Rd .u64 w (some ⟨g, 0, none⟩) (flatC l) := by
    obtain ⟨A', c', e, _, r⟩ := ownN_rd hown hfl (by omega)
    simp only [Value.slice.injEq] at e
    rw [← e.1] at r; exact r
  have IX := idxf_c F bd hent p (some ⟨g, 0, none⟩) cap l.length (flatC l) hfl hm w rd0 (fun j w' hj hk => by rw [flatC_cls l j hj]; exact hcall _ (List.getElem_mem _) w' (kept_trans hk0 hk))
  rcases first_true (fun q => p (cls (flatC l) q)) l.length with hall | ⟨j0, hj0, hp0, hmin⟩
  · replace hall : ∀ q (h : q < l.length), p l[q] = false := fun q h => by have := hall q h; rwa [flatC_cls l q h] at this
    have e1 : fstv p (flatC l) l.length = -1 := fstv_no fun q hq => by rw [flatC_cls l q hq]; exact hall q hq
    have e2 : keepC p l l.length = l := by rw [keepC_none (Nat.le_refl _) fun q h _ => hall q h, List.take_length]
    rw [e1] at IX
    rw [e2]
    clear e1 e2 hall hcall
    generalize l.length = m at *
    go_enter Tryz.func200, Tryz.ntmps200
    go_wp2_with fail
    refine IX.mono ?_
    rintro e w1 ⟨rfl, hk1⟩
    clear IX
    go_wp2_with fail
    go_ret
    exact ⟨rfl, rd0.kept hk1, ⟨hk1.os, hk1.tape, hk1.output, hk1.size, fun i hi _ => hk1.block i hi⟩⟩
  · have e1 : fstv p (flatC l) l.length = j0 := fstv_at hj0 hp0 hmin
    rw [flatC_cls l j0 hj0] at hp0
    replace hmin : ∀ q (h : q < l.length), q < j0 → p l[q] = false := fun q h h2 => by have := hmin q h2; rwa [flatC_cls l q h] at this
    rw [e1] at IX
    obtain ⟨D0, hk1'⟩ := delI_start hj0 hp0 hmin
    have hkl0 : (keepC p l (j0 + 1)).length = j0 := by rw [hk1', List.length_take]; omega
    clear e1 hp0 hmin hk1' rd0
    have HKK := Lib.hid (fun j => keepC_le p l j)
    have hsk : ∀ j (R : List Int), delI p l j R → j < l.length → p (cls R j) = true → delI p l (j + 1) R ∧ (keepC p l (j + 1)).length = (keepC p l j).length := fun j R h hj hp => by
      have := delI_skip h hj (by rw [← h.2.2 j hj (Nat.le_refl _)]; exact hp)
      exact ⟨this.1, by rw [this.2]⟩
    have hkp : ∀ j (R : List Int), delI p l j R → j < l.length → p (cls R j) = false → delI p l (j + 1) (R.take (4 * (keepC p l j).length) ++ clL (cls R j) ++ R.drop (4 * (keepC p l j).length + 4)) ∧ (keepC p l (j + 1)).length = (keepC p l j).length + 1 := fun j R h hj hp => by
      have e := h.2.2 j hj (Nat.le_refl _)
      rw [e] at hp ⊢
      have := delI_keep h hj hp
      exact ⟨this.1, by rw [this.2, List.length_append]; rfl⟩
    have hmem : ∀ j (R : List Int), delI p l j R → j < l.length → cls R j ∈ l := fun j R h hj => by rw [h.2.2 j hj (Nat.le_refl _)]; exact List.getElem_mem _
    have hRl : ∀ j (R : List Int), delI p l j R → R.length = 4 * l.length := fun j R h => h.1
    have HSK := Lib.hid hsk
    have HKP := Lib.hid hkp
    have HMEM := Lib.hid hmem
    have HRL := Lib.hid hRl
    clear hsk hkp hmem hRl
    generalize hml : l.length = m at *
    have HML := Lib.hid hml
    clear hml
    go_enter Tryz.func200, Tryz.ntmps200
    go_wp2_with fail
    refine IX.mono ?_
    rintro e w1 ⟨rfl, hk1⟩
    clear IX
    have G1 : w.grownBy w1 (some g) := ⟨hk1.os, hk1.tape, hk1.output, hk1.size, fun i hi _ => hk1.block i hi⟩
    have o1 := rowKept hown hk1
    clear hown hk1
    have hne : ((j0 : Int) == -1) = false := by rw [beq_eq_false_iff_ne]; omega
    go_wp2_with fail
    clear hne
    go_loopw [5, 6] (fun iv jv wr => ∃ j : Nat, j ≤ m ∧ jv = .int .i64 j ∧ iv = .int .i64 ((keepC p l j).length : Nat) ∧ (keepC p l j).length < j ∧ w.grownBy wr (some g) ∧ ∃ R, delI p l j R ∧ wr.ownsRow base 110 4 (.slice (some ⟨g, 0, none⟩) m cap) m (R.map (Value.int .u64))) (fun _ jv _ => m - (intOf jv).toNat)
    case atStart => exact ⟨j0 + 1, hj0, by go_num, by rw [hkl0], by omega, G1, _, D0, o1⟩
    case round =>
      clear G1 o1 D0 hkl0
      obtain ⟨j, hj, rfl, rfl, hij, hG, R, hD, hown⟩ := hrel
      have hlR := HRL.out j R hD
      have hki := HKK.out j
      obtain ⟨A', c', eA, _, rdR⟩ := ownN_rd hown hlR (by omega)
      simp only [Value.slice.injEq] at eA
      obtain ⟨rfl, _, rfl⟩ := eA
      by_cases hlt : j < m
      · obtain ⟨ad, had, d0, d1, d2, d3⟩ := rdR.cl hlR hlt
        cases had
        have ea : (⟨g, 0, none⟩ : Addr).add (j * 4) = ⟨g, j * 4, none⟩ := by rw [Addr.add_mid, Nat.zero_add]
        rw [ea] at d0 d1 d2 d3
        dsimp only at d1 d2 d3
        have kw0 := kept_grow hk0 hG (by rintro k h; cases h; omega)
        have C := hcall _ (HMEM.out j R hD hlt) (wr.alloc (cls R j).cells) (kept_alloc kw0 _)
        have hsk := HSK.out j R hD hlt
        have hkp := HKP.out j R hD hlt
        have HS := Lib.hid hsk
        have HK := Lib.hid hkp
        have ox := hown.alloc (cls R j).cells
        have hbx := blk_new wr (cls R j).cells
        have kx := kept_alloc (kept_refl wr) (cls R j).cells
        have hgr := (World.ownsRow.lt hown g rfl).2
        have HD := Lib.hid hD
        clear hsk hkp HSK HKP HMEM HRL HKK hcall rdR hown hD
        generalize (keepC p l j).length = i at *
        generalize hpb : p (cls R j) = b at *
        clear hpb
        generalize cls R j = x at *
        obtain ⟨x0, x1, x2, x3⟩ := x
        dsimp only [Cl.v, Cl.cells] at d0 d1 d2 d3 C ox hbx kx
        have c0 := blk_cell hbx 0
        have c1 := blk_cell hbx 1
        have c2 := blk_cell hbx 2
        have c3 := blk_cell hbx 3
        go_wp2_with fail
        refine C.mono ?_
        rintro e w3 ⟨rfl, hk3⟩
        have o3 := rowKept ox hk3
        have hb3 := blk_kept hk3 hbx
        have G3 : w.grownBy w3 (some g) := grown_trans hG ⟨(kept_trans kx hk3).os, (kept_trans kx hk3).tape, (kept_trans kx hk3).output, (kept_trans kx hk3).size, fun i hi _ => (kept_trans kx hk3).block i hi⟩
        clear C c0 c1 c2 c3 d0 d1 d2 d3 hbx ox hG hk3
        cases b
        · obtain ⟨D4, L4⟩ := HK.out (by first | rfl | trivial)
          have L5 := Lib.hid L4
          have D5 := Lib.hid D4
          clear HK HS HD D4 L4
          have q0 : w3.cell? ⟨wr.heap.size, 0, none⟩ = some (.int .u64 x0) := blk_cell hb3 0
          have q1 : w3.cell? ⟨wr.heap.size, 1, none⟩ = some (.int .u64 x1) := blk_cell hb3 1
          have q2 : w3.cell? ⟨wr.heap.size, 2, none⟩ = some (.int .u64 x2) := blk_cell hb3 2
          have q3 : w3.cell? ⟨wr.heap.size, 3, none⟩ = some (.int .u64 x3) := blk_cell hb3 3
          have hth : w3.there g (i * 4) 4 := own_there o3 (by rw [List.length_map, hlR]; omega)
          obtain ⟨O4, G4⟩ := own_setCells [.int .u64 x0, .int .u64 x1, .int .u64 x2, .int .u64 x3] (i * 4) w3 _ o3 (by rw [List.length_map, hlR]; show i * 4 + 4 ≤ _; omega)
          have hii : 0 ≤ (i : Int) ∧ (i : Int) < (m : Int) := by omega
          go_wp2_with (with_reducible refine wpList_hold 110 rfl ?_)
          refine Lib.hid ?_
          refine wpList_store_mid rfl 110 _ _ rfl g (i * 4) #[.int .u64 x0, .int .u64 x1, .int .u64 x2, .int .u64 x3] rfl rfl hth (info_clsz _ _ _ _) (one_cls _ _ _ _) ?_
          have O5 : (w3.setCells g (i * 4) [.int .u64 x0, .int .u64 x1, .int .u64 x2, .int .u64 x3]).ownsRow base 110 4 (.slice (some ⟨g, 0, none⟩) m cap) m ((R.take (4 * i) ++ clL ⟨x0, x1, x2, x3⟩ ++ R.drop (4 * i + 4)).map (Value.int .u64)) := by
            rw [List.map_append, List.map_append, List.map_take, List.map_drop, Nat.mul_comm 4 i]
            exact O4
          have G5 := grown_trans G3 G4
          clear O4 G4 G3 o3 hth hb3
          show wpList _ _ _ _ _ (w3.setCells g (i * 4) [.int .u64 x0, .int .u64 x1, .int .u64 x2, .int .u64 x3])
          generalize w3.setCells g (i * 4) [.int .u64 x0, .int .u64 x1, .int .u64 x2, .int .u64 x3] = w4 at *
          clear q0 q1 q2 q3
          go_wp2_with fail
          exact ⟨⟨j + 1, by omega, by go_num, by rw [L5.out]; go_num, by rw [L5.out]; omega, G5, _, D5.out, O5⟩, by simp [intOf]; omega⟩
        · obtain ⟨D4, L4⟩ := HS.out (by first | rfl | trivial)
          have L5 := Lib.hid L4
          have D5 := Lib.hid D4
          clear HK HS HD D4 L4
          go_wp2_with fail
          exact ⟨⟨j + 1, by omega, by go_num, by rw [L5.out], by rw [L5.out]; omega, G3, R, D5.out, o3⟩, by simp [intOf]; omega⟩
      · obtain rfl : j = m := by omega
        have hfin := hD.2.1
        have HF := Lib.hid hfin
        generalize hkl : (keepC p l j).length = i at *
        have HKL := Lib.hid hkl
        have ht : wr.there g (i * 4) (4 * (j - i)) := own_there hown (by rw [List.length_map, hlR]; omega)
        have hcl := fun ty => run_clearC wr ty g (i * 4) (j - i) (cap - i) (by omega) ht
        obtain ⟨O4, G4⟩ := own_setCells (List.replicate (4 * (j - i)) (.int .u64 0)) (i * 4) wr _ hown (by rw [List.length_map, hlR, List.length_replicate]; omega)
        have h1 : 0 ≤ (i : Int) ∧ (i : Int) < (j : Int) ∧ (j : Int) ≤ (cap : Int) := by omega
        have h2 : ¬ cap = i := by omega
        have rd4 : Rd .u64 (wr.setCells g (i * 4) (List.replicate (4 * (j - i)) (.int .u64 0))) (some ⟨g, 0, none⟩) (flatC (keepC p l j)) := by
          rw [← HF.out]
          refine ⟨by rw [List.length_take]; omega, fun _ => ⟨_, rfl, fun t ht => ?_⟩⟩
          rw [List.length_take] at ht
          have := World.ownsRow.cells O4 (g := g) rfl t (.int .u64 (nth R t)) (by
            rw [List.append_assoc, List.getElem?_append_left (by rw [List.length_take, List.length_map]; omega), List.getElem?_take, if_pos (by omega), List.getElem?_map, List.getElem?_eq_getElem (by omega), Option.map_some, nth_lt (by omega)])
          rw [this, nth_take (by omega)]
        have G5 := grown_trans hG G4
        have HR := Lib.hid (⟨rd4, G5⟩ : _ ∧ _)
        clear ht O4 G4 rd4 G5 hG hown rdR hD hfin HF HSK HKP HMEM HRL HKK hcall hkl
        go_wp2_with fail
        go_ret
        exact ⟨by rw [HKL.out]; rfl, HR.out⟩
end Go.Proofs.YtdejablhpljdfaaGreat
namespace Go.Proofs.YtdejablhpljdfaaGreat
open Go.RowKit BG
attribute [local go_sem ↓] Go.wp_at_zero Go.wp_at_succ
set_option linter.unusedVariables false
theorem mem_kinds {xs : List Int} {x : Cl} : ∀ {n : Nat}, x ∈ kindsC xs n ↔ x ≠ fullv ∧ ∃ q, q < n ∧ cls xs q = x
  | 0 => by simp [kindsC]
  | n + 1 => by
    have ih := mem_kinds (xs := xs) (x := x) (n := n)
    unfold kindsC
    split
    · rename_i h
      rw [ih]
      constructor
      · rintro ⟨h1, q, hq, e⟩; exact ⟨h1, q, by omega, e⟩
      · rintro ⟨h1, q, hq, e⟩
        refine ⟨h1, q, ?_, e⟩
        rcases Nat.lt_or_ge q n with h2 | h2
        · exact h2
        · obtain rfl : q = n := by omega
          exact absurd (e.symm.trans h) h1
    · rename_i h
      split
      · rename_i h2
        rw [ih]
        constructor
        · rintro ⟨h1, q, hq, e⟩; exact ⟨h1, q, by omega, e⟩
        · rintro ⟨h1, q, hq, e⟩
          rcases Nat.lt_or_ge q n with h3 | h3
          · exact ⟨h1, q, h3, e⟩
          · obtain rfl : q = n := by omega
            rw [e] at h2
            exact ih.1 h2
      · rename_i h2
        rw [List.mem_append, ih, List.mem_singleton]
        constructor
        · rintro (⟨h1, q, hq, e⟩ | e)
          · exact ⟨h1, q, by omega, e⟩
          · exact ⟨by rw [e]; exact h, n, by omega, e.symm⟩
        · rintro ⟨h1, q, hq, e⟩
          rcases Nat.lt_or_ge q n with h3 | h3
          · exact .inl ⟨h1, q, h3, e⟩
          · obtain rfl : q = n := by omega
            exact .inr e.symm
end Go.Proofs.YtdejablhpljdfaaGreat
namespace Go.Proofs.YtdejablhpljdfaaGreat
open Go.RowKit BG
attribute [local go_sem ↓] Go.wp_at_zero Go.wp_at_succ
set_option linter.unusedVariables false
def posk (F V k : Nat) : Nat := k / V * F + k % V
def hitk (xs : List Int) (F V : Nat) (x : Cl) (q t : Nat) : Bool := (List.range q).any fun k => decide (cls xs k = x) && (posk F V k == t)
def rowN (xs : List Int) (F V : Nat) (x : Cl) (L q : Nat) : List Int := mk L fun t => if hitk xs F V x q t = true then 1 else 0
def cntN (xs : List Int) (x : Cl) (q : Nat) : Nat := (List.range q).countP fun k => decide (cls xs k = x)
theorem cntN_succ (xs : List Int) (x : Cl) (q : Nat) : cntN xs x (q + 1) = cntN xs x q + if decide (cls xs q = x) then 1 else 0 := by
  unfold cntN
  rw [List.range_succ, List.countP_append, List.countP_singleton]
theorem cntN_le (xs : List Int) (x : Cl) (q : Nat) : cntN xs x q ≤ q := by
  unfold cntN
  exact Nat.le_trans List.countP_le_length (by simp)
theorem hitk_succ (xs : List Int) (F V : Nat) (x : Cl) (q t : Nat) : hitk xs F V x (q + 1) t = (hitk xs F V x q t || (decide (cls xs q = x) && (posk F V q == t))) := by
  unfold hitk
  rw [List.range_succ, List.any_append]
  simp
theorem rowN_zero (xs : List Int) (F V : Nat) (x : Cl) (L : Nat) : rowN xs F V x L 0 = mk L fun _ => 0 := mk_congr fun t _ => by simp [hitk]
theorem rowN_len (xs : List Int) (F V : Nat) (x : Cl) (L q : Nat) : (rowN xs F V x L q).length = L := mk_length _ _
theorem rowN_yes {xs : List Int} {F V : Nat} {x : Cl} {L q : Nat} (h : posk F V q < L) (hy : decide (cls xs q = x) = true) : (rowN xs F V x L q).set (posk F V q) 1 = rowN xs F V x L (q + 1) := by
  unfold rowN
  rw [mk_set _ h]
  refine mk_congr fun t _ => ?_
  rw [hitk_succ, hy]
  by_cases h1 : t = posk F V q
  · rw [if_pos h1, if_pos (by rw [h1]; simp)]
  · rw [if_neg h1]
    have : (posk F V q == t) = false := beq_eq_false_iff_ne.2 fun e => h1 e.symm
    rw [this]; simp
theorem rowN_no {xs : List Int} {F V : Nat} {x : Cl} {L q : Nat} (hy : decide (cls xs q = x) = false) : rowN xs F V x L (q + 1) = rowN xs F V x L q := by
  unfold rowN
  refine mk_congr fun t _ => ?_
  rw [hitk_succ, hy]; simp
theorem pos_arith (F V j : Nat) (h : posk F V j ≤ 1000000) : ∃ PP : Nat, wrap64 (((j / V : Nat) : Int) * (F : Int)) = (PP : Int) ∧ wrap64 ((PP : Int) + ((j % V : Nat) : Int)) = ((posk F V j : Nat) : Int) := by
  unfold posk at h ⊢
  refine ⟨j / V * F, ?_, ?_⟩
  · rw [← Int.natCast_mul]; exact wrap_nat (by omega)
  · rw [← Int.natCast_add]; exact wrap_nat (by omega)
theorem cell_at {w : World} {g : Nat} {cs : Array Value} {t : TypeId} (h : w.heap[g]? = some (.cells cs t (0, 0))) (k : Nat) {v : Value} (hv : cs[k]? = some v) : w.cell? ⟨g, k, none⟩ = some v := by rw [← hv]; exact blk_cell h k
theorem blk_lt' {w : World} {g : Nat} {o : Obj} (h : w.heap[g]? = some o) : g < w.heap.size := (Array.getElem?_eq_some_iff.1 h).1
set_option maxRecDepth 100000 in
set_option maxHeartbeats 8000000 in
theorem findrow_c (x : Cl) (hx : x.ok) (F V L : Nat) (s : ByteArray) (A : Option Addr) (cap n : Nat) (xs : List Int) (hu : U64 xs) (hl : xs.length = 4 * n) (hn : n ≤ 1000000) (hV : 1 ≤ V) (hL : L ≤ 1000000) (hpos : ∀ k, k < n → posk F V k < L) (gl gm gf : Nat) (w : World) (hr : Rd .u64 w A xs) (hgl : w.heap[gl]? = some (.cells #[.int .i64 (L : Nat)] 3 (0, 0))) (hgm : w.heap[gm]? = some (.cells #[.int .i64 (V : Nat), .slice A n cap] 73 (0, 0))) (hgf : w.heap[gf]? = some (.cells #[.int .i64 (F : Nat), .string s] 71 (0, 0))) : Calls Tryz.prog 55 #[x.v, .pointer (some ⟨gl, 0, none⟩), .pointer (some ⟨gm, 0, none⟩), .pointer (some ⟨gf, 0, none⟩)] w fun e w' => ∃ v, e = .returned (.tuple #[v, .int .u64 (cntN xs x n : Nat)]) ∧ Own .u64 108 w.heap.size w' v (rowN xs F V x L n) ∧ Kept w w' := by
  obtain ⟨i1, hif1, hy0, hy1, hy2⟩ := info_parts info_u64n
  have ka := kept_alloc (kept_refl w) x.cells
  have hbx := blk_new w x.cells
  have K1 := kept_refl (w.alloc x.cells)
  replace hr := hr.kept ka
  replace hgl := blk_alloc hgl x.cells
  replace hgm := blk_alloc hgm x.cells
  replace hgf := blk_alloc hgf x.cells
  have hs1 : (w.alloc x.cells).heap.size = w.heap.size + 1 := by simp
  have l0 : (w.alloc x.cells).cell? ⟨gl, 0, none⟩ = some (.int .i64 (L : Nat)) := cell_at hgl 0 rfl
  have m1 : (w.alloc x.cells).cell? ⟨gm, 1, none⟩ = some (.slice A n cap) := cell_at hgm 1 rfl
  have hgl' := blk_lt' hgl
  have hgm' := blk_lt' hgm
  have hgf' := blk_lt' hgf
  have hyes := fun q h => rowN_yes (xs := xs) (F := F) (V := V) (x := x) (L := L) (q := q) h
  have hno := fun q => rowN_no (xs := xs) (F := F) (V := V) (x := x) (L := L) (q := q)
  have hz := rowN_zero xs F V x L
  have hlen := rowN_len xs F V x L
  have hc := cntN_succ xs x
  have hcl := cntN_le xs x
  have hc0 : cntN xs x 0 = 0 := rfl
  have EE := fun q w1 => eqCl (cls xs q) x w1
  have HYES := Lib.hid hyes
  have HNO := Lib.hid hno
  have HZ := Lib.hid hz
  have HLEN := Lib.hid hlen
  have HC := Lib.hid hc
  have HCL := Lib.hid hcl
  have HC0 := Lib.hid hc0
  have HPOS := Lib.hid hpos
  clear hyes hno hz hlen hc hcl hc0 hpos
  generalize rowN xs F V x L = mt at *
  generalize cntN xs x = ct at *
  obtain ⟨x0, x1, x2, x3⟩ := x
  dsimp only [Cl.v, Cl.cells] at *
  go_enter Tryz.func55, Tryz.ntmps55
  go_wp2_with (refine wpList_make_full _ rfl (.tmp 11) (.tmp 11) 123 rfl (w.heap.size + 1) 108 i1 (.int .u64 0) 1 Tryz.underlying123 hif1 hy0 hy1 .i64 .i64 _ _ L rfl rfl (by simp) (by simp) ?b2 ?b3 ?b4 ?_)
  case b2 => rw [hy2]; omega
  case b3 => unfold maxLen; omega
  case b4 => simp
  intro w4 hown4 hgrow
  have K4 := (kept_refl (w.alloc (.cells #[.int .u64 x0, .int .u64 x1, .int .u64 x2, .int .u64 x3] 110))).grown hgrow (Nat.le_refl _) (fun k h => by cases h)
  rw [toList_madeCells_one] at hown4
  have hown5 : w4.ownsRow (w.heap.size + 1) 108 1 (.slice (some ⟨w.heap.size + 1, 0, none⟩) L L) L ((mt 0).map (Value.int .u64)) := by
    rw [HZ.out, mk_zero']; exact hown4
  have m1' := kept_cell K4 m1
  clear hown4 hgrow HZ l0 m1 K1
  go_wp2_with fail
  go_loopw [8, 16] (fun c i wr => ∃ q : Nat, q ≤ n ∧ i = .int .i64 q ∧ c = .int .u64 (ct q : Nat) ∧ wr.ownsRow (w.heap.size + 1) 108 1 (.slice (some ⟨w.heap.size + 1, 0, none⟩) L L) L ((mt q).map (Value.int .u64)) ∧ Kept (w.alloc (.cells #[.int .u64 x0, .int .u64 x1, .int .u64 x2, .int .u64 x3] 110)) wr) (fun _ i _ => n - (intOf i).toNat)
  case atStart => exact ⟨0, Nat.zero_le _, rfl, by rw [HC0.out]; rfl, hown5, K4⟩
  case round =>
    clear hown5 K4 m1'
    obtain ⟨q, hq, rfl, rfl, hown, hk⟩ := hrel
    by_cases hlt : q < n
    · have E := fun w1 => EE q w1
      obtain ⟨ad, rfl, d0, d1, d2, d3⟩ := (hr.kept hk).cl hl hlt
      have hyes := HYES.out q (HPOS.out q hlt)
      have hno := HNO.out q
      have hc := HC.out q
      have hbk := blk_kept hk hbx
      have c0 := cell_at hbk 0 rfl
      have c1 := cell_at hbk 1 rfl
      have c2 := cell_at hbk 2 rfl
      have c3 := cell_at hbk 3 rfl
      have hlb := blk_lt' hbk
      have hcq := HCL.out q
      generalize hb0 : decide (cls xs q = (⟨x0, x1, x2, x3⟩ : Cl)) = b at *
      clear hb0
      generalize cls xs q = y at *
      obtain ⟨y0, y1, y2, y3⟩ := y
      dsimp only at d0 d1 d2 d3 E
      have kb := kept_alloc (kept_refl wr) (.cells #[.int .u64 y0, .int .u64 y1, .int .u64 y2, .int .u64 y3] 110)
      cases b
      · have hm := hno rfl
        have hc2 : ct (q + 1) = ct q := by rw [hc]; rfl
        have own7 := rowKept hown kb
        have HM := Lib.hid (⟨hm, hc2⟩ : _ ∧ _)
        clear hm hc2 hyes hno hc hown
        go_wp2_with fail
        exact ⟨⟨q + 1, by omega, by go_num, by rw [HM.out.2], by rw [HM.out.1]; exact own7, kept_trans hk kb⟩, by simp [intOf]; omega⟩
      · have hm := hyes rfl
        have hc2 : ct (q + 1) = ct q + 1 := by rw [hc]; rfl
        have HM := Lib.hid (⟨hm, hc2⟩ : _ ∧ _)
        clear hm hc2 hyes hno hc
        have hkb := kept_trans hk kb
        have hownA := rowKept hown kb
        have m0 := cell_at (blk_kept hkb hgm) 0 rfl
        have f0 := cell_at (blk_kept hkb hgf) 0 rfl
        clear hown
        have hP := HPOS.out q hlt
        have hz : ((V : Int) == 0) = false := by rw [beq_eq_false_iff_ne]; omega
        have hQ := tdiv_nat q V
        have hQw := wdiv_nat q V (by omega)
        have hR := tmod_nat q V
        have w0 : wrap64 ((q / V : Nat) : Int) = ((q / V : Nat) : Int) := wrap_nat (Nat.le_trans (Nat.div_le_self _ _) (by omega))
        obtain ⟨PP, w1, w2⟩ := pos_arith F V q (by omega)
        have hx1 : 0 ≤ ((posk F V q : Nat) : Int) := Int.natCast_nonneg _
        have hx2 : ((posk F V q : Nat) : Int) < (L : Int) := Int.ofNat_lt.2 hP
        have hx3 : ((posk F V q : Nat) : Int).toNat = posk F V q := Int.toNat_natCast _
        generalize posk F V q = TT at *
        generalize q / V = Q at *
        generalize q % V = RR at *
        go_wp2_with fail
        have ms_0 := fun s => kw_cell s m0
        have fs_0 := fun s => kw_cell s f0
        refine wp_region_tail 13 (by kernel_rfl) (by kernel_rfl) ?_
        simp only [List.take_succ_cons, List.take_zero, List.drop_succ_cons, List.drop_zero]
        repeat (first | go_big_quiet_skip | (go_big_quiet_want; go_big_quiet_op; go_big_quiet_on))
        refine wpQuiet_nil ?_
        rintro w13 ⟨⟨_, hk13⟩, rfl⟩
        simp only [w0, w1, w2]
        clear ms_0 fs_0 m0 f0 d0 d1 d2 d3 c0 c1 c2 c3 E hbk hlb kb w0 w1 w2 hQ hQw hR
        have hkA := kept_trans hkb hk13
        have hownB := rowKept hownA hk13
        have hnl := HLEN.out q
        have e0 := World.ownsRow.cellAt hownB TT (by omega)
        rw [List.getElem?_map, List.getElem?_eq_getElem (by omega), Option.map_some] at e0
        have g0 := World.ownsRow.frozenAt hownB TT
        have S := World.ownsRow.stored hownB TT (.int .u64 1)
        rw [← List.map_set, HM.out.1] at S
        generalize (mt q)[TT]'(by omega) = old at *
        clear hownA hkb hk hk13 hnl
        go_wp2_with fail
        exact ⟨⟨q + 1, by omega, by go_num, by rw [HM.out.2]; go_num, S.1, kept_grown hkA hownB (by omega) S.2⟩, by simp [intOf]; omega⟩
    · obtain rfl : q = n := by omega
      go_wp2_with fail
      have hO : Own .u64 108 w.heap.size wr (.slice (some ⟨w.heap.size + 1, 0, none⟩) L L) (mt q) := by
        unfold Own
        rw [HLEN.out]
        exact rowLess hown (by omega)
      exact bodyPost_ret (v := .tuple #[.slice (some ⟨w.heap.size + 1, 0, none⟩) L L, .int .u64 (ct q : Nat)]) (by simp [results, Tryz.results55, go_sem]) rfl ⟨_, rfl, hO, kept_trans ka hk⟩
end Go.Proofs.YtdejablhpljdfaaGreat
namespace Go.Proofs.YtdejablhpljdfaaGreat
open Go.RowKit BG
set_option linter.unusedVariables false
theorem u64_all {xs : List Int} (h : ∀ z ∈ xs, 0 ≤ z ∧ z ≤ 18446744073709551615) : U64 xs := by
  intro j
  unfold nth
  rw [List.getD_eq_getElem?_getD]
  by_cases hj : j < xs.length
  · rw [List.getElem?_eq_getElem hj]; exact h _ (List.getElem_mem _)
  · rw [List.getElem?_eq_none (by omega)]; exact ⟨Int.le_refl 0, by decide⟩
theorem correlate_c5 (A B : Option Addr) (ca cb : Nat) (ps ts : List Int) (size : Int) (hu : U64 ps) (hv : U64 ts) (hlx : ps.length ≤ 10000000000000) (hly : ts.length ≤ 1000000000000) (hcb : ts.length ≤ cb) (w : World) (hr : Rd .u64 w A ps) (hs : Rd .u64 w B ts) : Calls Tryz.prog 57 #[.slice A ps.length ca, .slice B ts.length cb, .int .i64 size] w (Ans3 (bval ps ts size) (bcnt ps ts size) (berrv ps ts size) w) := by
  by_cases h : bgood ps ts size
  · exact correlate_good A B ca cb ps ts size hu hv hlx hly hcb h w hr hs
  · exact correlate_bad A B ca cb ps ts size hu hv hlx (by omega) h w hr hs
end Go.Proofs.YtdejablhpljdfaaGreat
