/-
  Texts of one claim, joined: TSplit5, TSplit6.
-/
import Derived.Test.YtdejablhpljdfaaGreatQ18
namespace Go.Proofs.YtdejablhpljdfaaGreat
open Go.RowKit BG
attribute [local go_sem ↓] Go.wp_at_zero Go.wp_at_succ
set_option linter.unusedVariables false
def hitW (xs : List Int) (l : List Cl) (b : Nat) (q : Nat) : List Int := ((List.range q).filter fun j => hasv (cls xs j) b && decide (cls xs j ∈ l)).map fun j : Nat => (j : Int)
theorem hitW_yes {xs : List Int} {l : List Cl} {b q : Nat} (h : (hasv (cls xs q) b && decide (cls xs q ∈ l)) = true) : hitW xs l b (q + 1) = hitW xs l b q ++ [(q : Int)] := by
  unfold hitW
  rw [List.range_succ, List.filter_append, List.map_append]
  simp only [List.filter_cons, h, if_true, List.filter_nil, List.map_cons, List.map_nil]
theorem hitW_no {xs : List Int} {l : List Cl} {b q : Nat} (h : (hasv (cls xs q) b && decide (cls xs q ∈ l)) = false) : hitW xs l b (q + 1) = hitW xs l b q := by
  unfold hitW
  rw [List.range_succ, List.filter_append, List.map_append]
  simp only [List.filter_cons, h, Bool.false_eq_true, if_false, List.filter_nil, List.map_nil, List.append_nil]
theorem hitW_len (xs : List Int) (l : List Cl) (b q : Nat) : (hitW xs l b q).length ≤ q := by
  unfold hitW
  rw [List.length_map]
  have := List.length_filter_le (fun j => hasv (cls xs j) b && decide (cls xs j ∈ l)) (List.range q)
  rwa [List.length_range] at this
def HitV (X : Nat → Prop) (w : World) (v : Value) (l : List Int) : Prop := ∃ A c, v = .slice A l.length c ∧ Rd .i64 w A l ∧ ∀ ad, A = some ad → ¬ X ad.block
def ByteM (H : Nat → List Int) (X : Nat → Prop) (w : World) (g : Nat) : Prop := ∃ es clk, w.heap[g]? = some (.map es clk) ∧ ∀ e ∈ es.toList, ∃ b : Nat, b < 256 ∧ e.key = .int .u8 (b : Int) ∧ HitV X w e.val (H b)
theorem HitV.kept {X : Nat → Prop} {w w1 : World} {v : Value} {l : List Int} (h : HitV X w v l) (hk : Kept w w1) : HitV X w1 v l := by obtain ⟨A, c, e, r, x⟩ := h; exact ⟨A, c, e, r.kept hk, x⟩
theorem HitV.grown {X : Nat → Prop} {w w1 : World} {v : Value} {l : List Int} {g : Nat} (h : HitV X w v l) (hg : w.grownBy w1 (some g)) (hx : X g) : HitV X w1 v l := by
  obtain ⟨A, c, e, r, x⟩ := h
  exact ⟨A, c, e, rd_grown r hg (fun ad e h => x ad e (by cases h; exact hx)), x⟩
theorem HitV.map {X : Nat → Prop} {w w1 : World} {v : Value} {l : List Int} {g : Nat} (h : HitV X w v l) (hg : w.grownBy w1 (some g)) {es : Array MapEntry} {clk : Nat} (hm : w.heap[g]? = some (.map es clk)) : HitV X w1 v l := by
  obtain ⟨A, c, e, r, x⟩ := h
  refine ⟨A, c, e, ⟨r.1, fun h0 => ?_⟩, x⟩
  obtain ⟨ad, e', hc⟩ := r.2 h0
  refine ⟨ad, e', fun j hj => (World.cell?_of_block (hg.block _ (World.block_lt_of_cell? w _ (hc j hj)) fun e2 => ?_)).trans (hc j hj)⟩
  obtain ⟨o, ho, hcl⟩ := cell_cells (hc j hj)
  rw [← Option.some.inj e2.symm, hm] at ho
  cases ho; cases hcl
theorem ByteM.kept {H : Nat → List Int} {X : Nat → Prop} {w w1 : World} {g : Nat} (h : ByteM H X w g) (hk : Kept w w1) : ByteM H X w1 g := by
  obtain ⟨es, clk, hm, he⟩ := h
  exact ⟨es, clk, blk_kept hk hm, fun e h' => by obtain ⟨b, h1, h2, h3⟩ := he e h'; exact ⟨b, h1, h2, h3.kept hk⟩⟩
theorem ByteM.grown {H : Nat → List Int} {X : Nat → Prop} {w w1 : World} {g r : Nat} (h : ByteM H X w g) (hg : w.grownBy w1 (some r)) (hx : X r) (hne : g ≠ r) : ByteM H X w1 g := by
  obtain ⟨es, clk, hm, he⟩ := h
  exact ⟨es, clk, grown_blk hg hm (by simpa using hne), fun e h' => by obtain ⟨b, h1, h2, h3⟩ := he e h'; exact ⟨b, h1, h2, h3.grown hg hx⟩⟩
theorem ByteM.new (H : Nat → List Int) (X : Nat → Prop) (w : World) : ByteM H X (w.alloc (.map #[] 0)) w.heap.size := ⟨#[], 0, blk_new w _, fun e h => by simp at h⟩
theorem findNow_byte (b : Int) : ∀ (es : List MapEntry) (i : Nat), (∀ e ∈ es, ∃ c : Int, e.key = .int .u8 c) → ∃ r, Instr.findNow (.int .u8) (.int .u8 b) es i = some r ∧ (r = none ∧ (∀ e ∈ es, e.key ≠ .int .u8 b) ∨ ∃ j e, r = some (j, e.val) ∧ e ∈ es ∧ e.key = .int .u8 b)
  | [], i, _ => ⟨none, rfl, .inl ⟨rfl, by simp⟩⟩
  | e :: es, i, h => by
    obtain ⟨c, hc⟩ := h e (by simp)
    unfold Instr.findNow
    rw [hc]
    by_cases hb : b = c
    · subst hb
      exact ⟨some (i, e.val), by simp [Instr.sameNow], .inr ⟨i, e, rfl, by simp, hc⟩⟩
    · obtain ⟨r, hr, hor⟩ := findNow_byte b es (i + 1) fun e' h' => h e' (by simp [h'])
      have hbc : (b == c) = false := by simpa using hb
      refine ⟨r, by simp [Instr.sameNow, hbc, hr], ?_⟩
      rcases hor with ⟨h1, h2⟩ | ⟨j, e', h1, h2, h3⟩
      · refine .inl ⟨h1, fun e' h' => ?_⟩
        rcases List.mem_cons.1 h' with rfl | h'
        · rw [hc]; intro e2; cases e2; exact hb rfl
        · exact h2 e' h'
      · exact .inr ⟨j, e', h1, by simp [h2], h3⟩
theorem findKey_byte {H : Nat → List Int} {X : Nat → Prop} {w : World} {es : List MapEntry} (b : Int) (he : ∀ e ∈ es, ∃ b : Nat, b < 256 ∧ e.key = .int .u8 (b : Int) ∧ HitV X w e.val (H b)) :
    ∃ r, (Instr.findKey 5 (.int .u8 b) es).run Tryz.prog w = .ok r w ∧ (r = none ∧ (∀ e ∈ es, e.key ≠ .int .u8 b) ∨ ∃ j e, r = some (j, e.val) ∧ e ∈ es ∧ e.key = .int .u8 b) := by
  obtain ⟨r, hr, hor⟩ := findNow_byte b es 0 fun e h => by obtain ⟨c, _, h2, _⟩ := he e h; exact ⟨_, h2⟩
  refine ⟨r, ?_, hor⟩
  unfold Instr.findKey
  simp only [Sem.run_bind, run_underlying Tryz.underlying5, Result.andThen_ok, hr]
  rfl
def Absent (w : World) (g : Nat) (b : Nat) : Prop := ∀ es clk, w.heap[g]? = some (.map es clk) → ∀ e ∈ es.toList, e.key ≠ .int .u8 (b : Int)
theorem Absent.kept {w w1 : World} {g b : Nat} (h : Absent w g b) (hg : g < w.heap.size) (hk : Kept w w1) : Absent w1 g b := fun es clk hm => h es clk ((hk.block g hg).symm.trans hm)
theorem lookup_byte {H : Nat → List Int} {X : Nat → Prop} {w : World} {g : Nat} (h : ByteM H X w g) (b : Nat) (hb : b < 256) : ∃ v ok, (Instr.lookup 249 (.map (some g)) (.int .u8 (b : Int)) true).run Tryz.prog w = .ok (.tuple #[v, .bool ok]) w ∧ (ok = true ∧ HitV X w v (H b) ∨ ok = false ∧ v = .slice none 0 0 ∧ Absent w g b) := by
  obtain ⟨es, clk, hm, he⟩ := h
  obtain ⟨r, hr, hor⟩ := findKey_byte (b : Int) he
  have hz : (zeroValue 24).run Tryz.prog w = .ok (.slice none 0 0) w := by kernel_rfl
  have hck := checkKey_int es.isEmpty 9999 5 .u8 Tryz.underlying5 (b : Int) w
  rcases hor with ⟨rfl, hab⟩ | ⟨j, e, rfl, h2, h3⟩
  · refine ⟨_, false, ?_, .inr ⟨rfl, rfl, fun es' clk' hm' => by rw [hm] at hm'; cases hm'; exact hab⟩⟩
    unfold Instr.lookup
    simp only [Sem.run_bind, run_underlying Tryz.underlying249, Result.andThen_ok, MapKept.run_getObj_map hm, hck, hr, hz, Sem.run_pure, if_true]
  · refine ⟨e.val, true, ?_, .inl ⟨rfl, ?_⟩⟩
    · unfold Instr.lookup
      simp only [Sem.run_bind, run_underlying Tryz.underlying249, Result.andThen_ok, MapKept.run_getObj_map hm, hck, hr, Sem.run_pure, if_true]
    · obtain ⟨c, h4, h5, h6⟩ := he e h2
      rw [h3] at h5
      have : b = c := by have := (Value.int.injEq _ _ _ _ ▸ h5 : _ ∧ _).2; omega
      subst this
      exact h6
theorem update_byte {H : Nat → List Int} {X : Nat → Prop} {w : World} {g : Nat} (h : ByteM H X w g) (b : Nat) (hb : b < 256) (hab : Absent w g b) {v : Value} (hv : HitV X w v (H b)) : ∃ w1, (Instr.mapUpdate 249 (.map (some g)) (.int .u8 (b : Int)) v).run Tryz.prog w = .ok () w1 ∧ ByteM H X w1 g ∧ w.grownBy w1 (some g) := by
  obtain ⟨es, clk, hm, he⟩ := h
  obtain ⟨r, hr, hor⟩ := findKey_byte (b : Int) he
  have hck := checkKey_int false 9999 5 .u8 Tryz.underlying5 (b : Int) w
  have hG : ∀ es' clk', w.grownBy (ChangeMaps.setBlock w g (.map es' clk')) (some g) := fun es' clk' => ⟨rfl, rfl, rfl, by simp [ChangeMaps.setBlock], fun i _ hi => ChangeMaps.heap_setBlock_other hm _ (fun e => hi (by rw [e]))⟩
  rcases hor with ⟨rfl, _⟩ | ⟨j, e, rfl, h2, h3⟩
  · refine ⟨ChangeMaps.setBlock w g (.map (es.push { key := .int .u8 (b : Int), val := v, born := clk }) (clk + 1)), ?_, ⟨_, _, ChangeMaps.heap_setBlock_same hm _, fun e he' => ?_⟩, hG _ _⟩
    · unfold Instr.mapUpdate
      simp only [Sem.run_bind, run_underlying Tryz.underlying249, Result.andThen_ok, MapKept.run_getObj_map hm, hck, hr]
      exact MapKept.run_setObj_map _ hm
    · rw [Array.toList_push, List.mem_append, List.mem_singleton] at he'
      rcases he' with he' | rfl
      · obtain ⟨c, h4, h5, h6⟩ := he e he'; exact ⟨c, h4, h5, h6.map (hG _ _) hm⟩
      · exact ⟨b, hb, rfl, hv.map (hG _ _) hm⟩
  · exact absurd h3 (hab es clk hm e h2)
theorem wpList_lookup_byte {H : Nat → List Int} {X : Nat → Prop} {ops : Array Oper} {rest : List Oper} {o : Oper} {a : Act} {Q : Exit → Act → World → Prop} {w : World} {g : Nat} {m x : Operand} (b : Nat) (hb : b < 256) (hg : o.guard = none) (ho : o.op = Op.lookup 249 m x true)
    (hm : a.eval m = .map (some g)) (hx : a.eval x = .int .u8 (b : Int)) (h : ByteM H X w g) (hK : ∀ v ok, Hid (ok = true ∧ HitV X w v (H b) ∨ ok = false ∧ v = .slice none 0 0 ∧ Absent w g b) → wpList Tryz.prog ops Q rest (a.put o.dst (.tuple #[v, .bool ok])) w) : wpList Tryz.prog ops Q (o :: rest) a w := by
  refine wpList_plain hg fun K hK' => ?_
  obtain ⟨v, ok, hr, hor⟩ := lookup_byte h b hb
  unfold Oper.wp
  simp [execOp, ho, hm, hx, hr, Result.andThen]
  exact hK' _ _ (hK v ok (Lib.hid hor))
theorem wpList_update_byte {H : Nat → List Int} {X : Nat → Prop} {ops : Array Oper} {rest : List Oper} {o : Oper} {a : Act} {Q : Exit → Act → World → Prop} {w : World} {g : Nat} {m x y : Operand} (b : Nat) (hb : b < 256) {v : Value} (hg : o.guard = none) (ho : o.op = Op.mapUpdate 249 m x y)
    (hm : a.eval m = .map (some g)) (hx : a.eval x = .int .u8 (b : Int)) (hy : a.eval y = v) (h : ByteM H X w g) (hab : Absent w g b) (hv : HitV X w v (H b)) (hK : ∀ w1, ByteM H X w1 g → w.grownBy w1 (some g) → wpList Tryz.prog ops Q rest (a.put o.dst undef) w1) : wpList Tryz.prog ops Q (o :: rest) a w := by
  refine wpList_plain hg fun K hK' => ?_
  obtain ⟨w1, hr, h1, h2⟩ := update_byte h b hb hab hv
  unfold Oper.wp
  simp [execOp, ho, hm, hx, hy, hr, Result.andThen]
  exact hK' _ _ (hK w1 h1 h2)
theorem kept_grownBy {w w1 : World} (h : Kept w w1) (row : Option Nat) : w.grownBy w1 row := ⟨h.os, h.tape, h.output, h.size, fun i hi _ => h.block i hi⟩
set_option maxRecDepth 100000 in
set_option maxHeartbeats 8000000 in
theorem rarecl_c (A : Option Addr) (cap n : Nat) (xs : List Int) (K : Int) (b : Nat) (hb : b < 256) (l : List Cl) (gb g gl gk : Nat) (Ak : Option Addr) (ck : Nat) (X : Nat → Prop) (hu : U64 xs) (hl : xs.length = 4 * n) (hn : n ≤ 1000000) (hlm : l.length ≤ 1000000) (w : World) (hr : Rd .u64 w A xs) (hrk : Rd .u64 w Ak (flatC l)) (hgl : w.heap[gl]? = some (.cells #[.slice A n cap, .int .i64 K] 61)) (hgb : w.heap[gb]? = some (.cells #[.map (some g)] 249)) (hgk : w.heap[gk]? = some (.cells #[.slice Ak l.length ck] 59)) (hM : ByteM (fun b => hitW xs l b n) X w g) (hX : ∀ r, X r → r < w.heap.size) :
    Calls Tryz.prog 202 #[.int .u8 (b : Int), .pointer (some ⟨gb, 0, none⟩), .pointer (some ⟨gl, 0, none⟩), .pointer (some ⟨gk, 0, none⟩)] w fun e w' => ∃ v, e = .returned v ∧ HitV X w' v (hitW xs l b n) ∧ ByteM (fun b => hitW xs l b n) X w' g ∧ w.grownBy w' (some g) := by
  obtain ⟨i1, hif1, hy0, hy1, hy2⟩ := info_parts info_i64c
  have hfl := flatC_length l
  have HS := fun j w1 => has_c (cls xs j) (cls_ok hu j) b hb w1
  have CT := fun x w1 h => contains_c Ak ck l.length (flatC l) x hfl w1 h
  have hct := fun x => flatC_cont l x
  have hgM : g < w.heap.size := by obtain ⟨es, clk, h, _⟩ := hM; exact blk_lt h
  have hyes := fun q => hitW_yes (xs := xs) (l := l) (b := b) (q := q)
  have hno := fun q => hitW_no (xs := xs) (l := l) (b := b) (q := q)
  have hle := hitW_len xs l b
  have HYES := Lib.hid hyes
  have HNO := Lib.hid hno
  have hdf : ∀ j, (hasv (cls xs j) b && decide (cls xs j ∈ l)) = (hasv (cls xs j) b && contv (flatC l) l.length (cls xs j)) := fun j => by rw [hct]
  have HDF := Lib.hid hdf
  have h0 : hitW xs l b 0 = [] := rfl
  have H0 := Lib.hid h0
  have HMd := Lib.hid hM
  clear hyes hno hdf h0 hct
  have hHb : Hid ((fun b => hitW xs l b n) b = hitW xs l b n) := Lib.hid rfl
  have m0 : w.cell? ⟨gb, 0, none⟩ = some (.map (some g)) := blk_cell hgb 0
  go_enter Tryz.func202, Tryz.ntmps202
  go_wp2_with (at_lookup; refine wpList_lookup_byte b hb rfl rfl rfl rfl hM ?_)
  intro v
  refine ⟨fun hor => ?_, fun hor => ?_⟩
  rotate_left
  · obtain ⟨A1, c1, rfl, r1, x1⟩ := hor.out
    go_wp2_with fail
    go_ret
    exact ⟨_, rfl, ⟨A1, c1, rfl, r1, x1⟩, HMd.out, kept_grownBy (kept_refl _) _⟩
  · obtain ⟨rfl, hab⟩ := hor.out
    have l0 : w.cell? ⟨gl, 0, none⟩ = some (.slice A n cap) := blk_cell hgl 0
    clear hM m0
    go_wp2_with fail
    clear l0
    go_loopw [6, 21] (fun v iv wr => ∃ j : Nat, j ≤ n ∧ iv = .int .i64 j ∧ Own .i64 3 w.heap.size wr v (hitW xs l b j) ∧ Kept w wr) (fun _ iv _ => n - (intOf iv).toNat)
    case atStart => exact ⟨0, Nat.zero_le _, rfl, by rw [H0.out]; exact Own.nil _ _ _ _, kept_refl _⟩
    case round =>
      obtain ⟨j, hj, rfl, hown, hkw⟩ := hrel
      by_cases hlt : j < n
      · obtain ⟨ad, rfl, d0, d1, d2, d3⟩ := (hr.kept hkw).cl hl hlt
        have HS := HS j
        have CT := CT (cls xs j)
        have HY := Lib.hid (HYES.out j)
        have HO := Lib.hid (HNO.out j)
        have hdf := HDF.out j
        rw [hdf] at HY HO
        have hle := hle j
        have hbase := hkw.size
        have kx := kept_alloc hkw (cls xs j).cells
        have ox := hown.kept (kept_alloc (kept_refl wr) (cls xs j).cells)
        have hbx := blk_new wr (cls xs j).cells
        have k1 : (wr.alloc (cls xs j).cells).cell? ⟨gk, 0, none⟩ = some (.slice Ak l.length ck) := blk_cell (blk_kept kx hgk) 0
        have rk := hrk.kept kx
        clear HYES HNO HDF H0 hdf
        generalize hasv (cls xs j) b = y at *
        generalize contv (flatC l) l.length (cls xs j) = z at *
        generalize cls xs j = x at *
        obtain ⟨x0, x1, x2, x3⟩ := x
        dsimp only [Cl.v, Cl.cells] at d0 d1 d2 d3 HS CT kx ox hbx k1 rk
        have c0 := blk_cell hbx 0
        have c1 := blk_cell hbx 1
        have c2 := blk_cell hbx 2
        have c3 := blk_cell hbx 3
        go_wp2_with fail
        refine (HS _).mono ?_
        rintro e w2 ⟨rfl, hk2⟩
        replace kx := kept_trans kx hk2
        replace ox := ox.kept hk2
        replace rk := rk.kept hk2
        have hb2 := blk_kept hk2 hbx
        replace k1 := kept_cell hk2 k1
        replace c0 : w2.cell? ⟨wr.heap.size, 0, none⟩ = some (.int .u64 x0) := blk_cell hb2 0
        replace c1 : w2.cell? ⟨wr.heap.size, 1, none⟩ = some (.int .u64 x1) := blk_cell hb2 1
        replace c2 : w2.cell? ⟨wr.heap.size, 2, none⟩ = some (.int .u64 x2) := blk_cell hb2 2
        replace c3 : w2.cell? ⟨wr.heap.size, 3, none⟩ = some (.int .u64 x3) := blk_cell hb2 3
        clear HS d0 d1 d2 d3 hbx hb2 hk2 hown hkw
        cases y
        · have HN1 := Lib.hid (HO.out (by simp))
          clear HY HO
          go_wp2_with fail
          exact ⟨⟨j + 1, by omega, by go_num, by rw [HN1.out]; exact ox, kx⟩, by simp [intOf]; omega⟩
        · go_wp2_with fail
          refine (CT _ rk).mono ?_
          rintro e w3 ⟨rfl, hk3⟩
          replace kx := kept_trans kx hk3
          replace ox := ox.kept hk3
          have hbx3 := kx.size
          clear CT rk k1 c0 c1 c2 c3 hk3
          cases z
          · have HN1 := Lib.hid (HO.out (by simp))
            clear HY HO
            go_wp2_with fail
            exact ⟨⟨j + 1, by omega, by go_num, by rw [HN1.out]; exact ox, kx⟩, by simp [intOf]; omega⟩
          · have HN1 := Lib.hid (HY.out (by simp))
            clear HY HO
            go_wp2_with (at_builtin; refine app_one Tryz.underlying24 hif1 hy0 hy1 hy2 (by decide) rfl rfl rfl rfl rfl ox ?c1 ?c2 kx (Nat.le_refl _) ?_)
            case c1 => omega
            case c2 => exact hbx3
            intro v' w5 o5 _ K5
            rw [← HN1.out] at o5
            clear ox kx HN1
            go_wp2_with fail
            exact ⟨⟨j + 1, by omega, by go_num, o5, K5⟩, by simp [intOf]; omega⟩
      · obtain rfl : j = n := by omega
        have m1 : wr.cell? ⟨gb, 0, none⟩ = some (.map (some g)) := blk_cell (blk_kept hkw hgb) 0
        have hvv : HitV X wr u6 (hitW xs l b j) := by
          obtain ⟨A1, c1, e1, _, _, r1⟩ := hown.rd
          subst e1
          exact ⟨A1, c1, rfl, r1, fun ad e hx => by subst e; have h7 := own_ad hown; have h8 := hX _ hx; omega⟩
        have hM2 := HMd.out.kept hkw
        obtain ⟨es, clk, hm2, _⟩ := id hM2
        clear HYES HNO HDF H0 HS CT hown
        go_wp2_with (at_mapUpdate; refine wpList_update_byte b hb rfl rfl rfl rfl rfl hM2 (hab.kept hgM hkw) hvv ?_)
        intro w6 hM6 hg6
        have hv6 := hvv.map hg6 hm2
        have hg7 := grown_trans (kept_grownBy hkw (some g)) hg6
        clear hM2 hvv m1 hm2
        obtain ⟨A1, c1, rfl, r1, x1⟩ := hv6
        have HZ := Lib.hid (⟨r1, x1, hM6, hg7⟩ : _ ∧ _ ∧ _ ∧ _)
        clear r1 x1 hM6 hg7 hg6
        go_wp2_with fail
        go_ret
        exact ⟨_, rfl, ⟨A1, c1, rfl, HZ.out.1, HZ.out.2.1⟩, HZ.out.2.2.1, HZ.out.2.2.2⟩
end Go.Proofs.YtdejablhpljdfaaGreat
namespace Go.Proofs.YtdejablhpljdfaaGreat
open Go.RowKit BG
attribute [local go_sem ↓] Go.wp_at_zero Go.wp_at_succ run_max_at
set_option linter.unusedVariables false
def rareF (l : List Cl) (xs : List Int) (n : Nat) (s : ByteArray) (i p : Nat) : Nat := (List.range n).countP fun j => (hasv (cls xs j) (byteAt s (p + j)) && decide (cls xs j ∈ l)) && decide (p + j < i)
def inR (l : List Cl) (xs : List Int) (n : Nat) (s : ByteArray) (L i : Nat) (D : List Int) : List Int := mk L fun p => ((rareF l xs n s i p : Nat) : Int) + if ((i : Int) - (p : Int)) ∈ D then 1 else 0
theorem rareF_le (l : List Cl) (xs : List Int) (n : Nat) (s : ByteArray) (i p : Nat) : rareF l xs n s i p ≤ n := by unfold rareF; exact Nat.le_trans List.countP_le_length (by simp)
theorem inR_len (l : List Cl) (xs : List Int) (n : Nat) (s : ByteArray) (L i : Nat) (D : List Int) : (inR l xs n s L i D).length = L := mk_length _ _
theorem inR_at {l : List Cl} {xs : List Int} {n : Nat} {s : ByteArray} {L i p : Nat} {D : List Int} (hp : p < L) (h : ((i : Int) - (p : Int)) ∉ D) : nth (inR l xs n s L i D) p = ((rareF l xs n s i p : Nat) : Int) := by
  unfold inR
  rw [nth_mk hp, if_neg h, Int.add_zero]
theorem inR_set {l : List Cl} {xs : List Int} {n : Nat} {s : ByteArray} {L i p : Nat} {D : List Int} (hp : p < L) (h : ((i : Int) - (p : Int)) ∉ D) : (inR l xs n s L i D).set p (((rareF l xs n s i p : Nat) : Int) + 1) = inR l xs n s L i (D ++ [(i : Int) - (p : Int)]) := by
  unfold inR
  rw [mk_set _ hp]
  refine mk_congr fun t _ => ?_
  by_cases h1 : t = p
  · subst h1
    rw [if_pos rfl, if_pos (by simp)]
  · rw [if_neg h1]
    congr 1
    by_cases h2 : ((i : Int) - (t : Int)) ∈ D
    · rw [if_pos h2, if_pos (by simp [h2])]
    · rw [if_neg h2, if_neg (by simp [h2]; omega)]
theorem inR_out {l : List Cl} {xs : List Int} {n : Nat} {s : ByteArray} {L i : Nat} {D : List Int} {z : Int} (h : ¬ (z ≤ i ∧ (i : Int) - z < L)) : inR l xs n s L i (D ++ [z]) = inR l xs n s L i D := by
  unfold inR
  refine mk_congr fun t ht => ?_
  congr 1
  by_cases h2 : ((i : Int) - (t : Int)) ∈ D
  · rw [if_pos h2, if_pos (by simp [h2])]
  · rw [if_neg h2, if_neg (by simp [h2]; omega)]
theorem hitW_mem {xs : List Int} {l : List Cl} {b : Nat} {n : Nat} {z : Int} : z ∈ hitW xs l b n ↔ ∃ j : Nat, j < n ∧ (hasv (cls xs j) b && decide (cls xs j ∈ l)) = true ∧ z = (j : Int) := by
  unfold hitW
  simp only [List.mem_map, List.mem_filter, List.mem_range]
  constructor
  · rintro ⟨j, ⟨h1, h2⟩, rfl⟩; exact ⟨j, h1, h2, rfl⟩
  · rintro ⟨j, h1, h2, rfl⟩; exact ⟨j, ⟨h1, h2⟩, rfl⟩
theorem hitW_nodup (xs : List Int) (l : List Cl) (b : Nat) : ∀ n, (hitW xs l b n).Nodup
  | 0 => by simp [hitW]
  | n + 1 => by
    cases h : (hasv (cls xs n) b && decide (cls xs n ∈ l))
    · rw [hitW_no h]; exact hitW_nodup xs l b n
    · rw [hitW_yes h, List.nodup_append]
      refine ⟨hitW_nodup xs l b n, by simp, fun a ha c hc => ?_⟩
      rw [List.mem_singleton.1 hc]
      obtain ⟨j, hj, _, rfl⟩ := hitW_mem.1 ha
      omega
theorem take_fresh {D : List Int} (hD : D.Nodup) {q : Nat} (hq : q < D.length) : D.take (q + 1) = D.take q ++ [nth D q] ∧ nth D q ∉ D.take q := by
  have e : D.take (q + 1) = D.take q ++ [nth D q] := by rw [List.take_succ_eq_append_getElem hq, nth_lt hq]
  refine ⟨e, fun h => ?_⟩
  have h2 : (D.take (q + 1)).Nodup := hD.sublist (List.take_sublist _ _)
  rw [e, List.nodup_append] at h2
  exact h2.2.2 _ h _ (by simp) rfl
theorem rareF_succ (l : List Cl) (xs : List Int) (n : Nat) (s : ByteArray) (i p : Nat) : ((rareF l xs n s (i + 1) p : Nat) : Int) = ((rareF l xs n s i p : Nat) : Int) + if ((i : Int) - (p : Int)) ∈ hitW xs l (byteAt s i) n then 1 else 0 := by
  unfold rareF
  induction n with
  | zero => simp [hitW]
  | succ n ih =>
    rw [count_succ, count_succ]
    by_cases hn : p + n = i
    · have e1 : ((i : Int) - (p : Int)) = (n : Int) := by omega
      have hno : ((i : Int) - (p : Int)) ∉ hitW xs l (byteAt s i) n := fun h => by obtain ⟨j, hj, _, e⟩ := hitW_mem.1 h; omega
      rw [if_neg hno] at ih
      rw [hn, decide_eq_false (show ¬ i < i by omega), decide_eq_true (show i < i + 1 by omega), Bool.and_false, if_neg Bool.false_ne_true, Bool.and_true]
      cases hq : (hasv (cls xs n) (byteAt s i) && decide (cls xs n ∈ l))
      · rw [hitW_no hq, if_neg hno, if_neg Bool.false_ne_true]; omega
      · rw [hitW_yes hq, if_pos rfl, if_pos (by rw [e1]; simp)]; omega
    · have hc : ((i : Int) - (p : Int)) ∈ hitW xs l (byteAt s i) (n + 1) ↔ ((i : Int) - (p : Int)) ∈ hitW xs l (byteAt s i) n := by
        rw [hitW_mem, hitW_mem]
        constructor
        · rintro ⟨j, h1, h2, h3⟩; exact ⟨j, by omega, h2, h3⟩
        · rintro ⟨j, h1, h2, h3⟩; exact ⟨j, by omega, h2, h3⟩
      have hd : decide (p + n < i + 1) = decide (p + n < i) := by rw [Bool.eq_iff_iff, decide_eq_true_eq, decide_eq_true_eq]; omega
      rw [hd]
      by_cases hm : ((i : Int) - (p : Int)) ∈ hitW xs l (byteAt s i) n
      · rw [if_pos (hc.2 hm)]; rw [if_pos hm] at ih; omega
      · rw [if_neg (fun h => hm (hc.1 h))]; rw [if_neg hm] at ih; omega
theorem inR_next (l : List Cl) (xs : List Int) (n : Nat) (s : ByteArray) (L i : Nat) : inR l xs n s L i (hitW xs l (byteAt s i) n) = inR l xs n s L (i + 1) [] := by
  unfold inR
  refine mk_congr fun p _ => ?_
  rw [rareF_succ]; simp
theorem inR_zero (l : List Cl) (xs : List Int) (n : Nat) (s : ByteArray) (L : Nat) : (inR l xs n s L 0 []).map (Value.int .i64) = List.replicate L (Value.int .i64 0) := by
  unfold inR mk
  rw [List.map_map]
  refine List.ext_getElem (by simp) fun j h1 h2 => ?_
  have : rareF l xs n s 0 j = 0 := by unfold rareF; simp
  simp [this]
theorem inR_all (l : List Cl) (xs : List Int) (n : Nat) (s : ByteArray) : inR l xs n s (s.size + 1 - n) s.size [] = mk (s.size + 1 - n) fun p => ((gotL l xs n s p : Nat) : Int) := by
  unfold inR
  refine mk_congr fun p hp => ?_
  have : rareF l xs n s s.size p = gotL l xs n s p := by
    unfold rareF gotL
    refine List.countP_congr fun j hj => ?_
    have := List.mem_range.1 hj
    rw [decide_eq_true (show p + j < s.size by omega), Bool.and_true, Bool.and_comm]
  simp [this]
set_option maxRecDepth 100000 in
set_option maxHeartbeats 8000000 in
theorem rare_c (A : Option Addr) (cap n : Nat) (xs : List Int) (K : Int) (s : ByteArray) (l : List Cl) (Ak : Option Addr) (ck : Nat) (hu : U64 xs) (hl : xs.length = 4 * n) (hn : n ≤ 1000000) (hlm : l.length ≤ 1000000) (hsz : s.size ≤ 900000) (hrv : rightv xs n K = true) (hn64 : n ≤ 64) (w : World) (hr : Rd .u64 w A xs) (hrk : Rd .u64 w Ak (flatC l)) :
    Calls Tryz.prog 150 #[leafV A n cap K, .string s, .slice Ak l.length ck] w fun e w' => ∃ g, e = .returned (.slice (some ⟨g, 0, none⟩) (s.size + 1 - n) (s.size + 1 - n)) ∧ w'.ownsRow w.heap.size 3 1 (.slice (some ⟨g, 0, none⟩) (s.size + 1 - n) (s.size + 1 - n)) (s.size + 1 - n) ((mk (s.size + 1 - n) fun p => ((gotL l xs n s p : Nat) : Int)).map (Value.int .i64)) ∧ Kept w w' := by
  obtain ⟨i1, hif1, hy0, hy1, hy2⟩ := info_parts info_i64c
  have hL := blk_alloc (blk_new w (.cells #[.slice A n cap, .int .i64 K] 61)) (.cells #[.slice Ak l.length ck] 59)
  have hKb := blk_new1 w (.cells #[.slice A n cap, .int .i64 K] 61) (.cells #[.slice Ak l.length ck] 59)
  have ka := kept_alloc (kept_alloc (kept_refl w) (.cells #[.slice A n cap, .int .i64 K] 61)) (.cells #[.slice Ak l.length ck] 59)
  have SM := fun w1 h => splsums_c A cap n xs K s hl (by omega) w1 h
  rw [show nsums xs n K s = s.size + 1 - n from if_pos hrv] at SM
  have hall := inR_all l xs n s
  have hz := inR_zero l xs n s (s.size + 1 - n)
  have HALL := Lib.hid hall
  have HZ := Lib.hid hz
  obtain ⟨L0, hL0⟩ : ∃ L0, L0 = s.size + 1 - n := ⟨_, rfl⟩
  rw [← hL0] at HALL HZ SM ⊢
  have hL01 : L0 ≤ 900001 := by omega
  have hmm := @run_makeMap Tryz.prog
  have c0 := blk_cell hL 0
  have c1 := blk_cell hL 1
  clear hall hz hL0
  go_enter Tryz.func150, Tryz.ntmps150
  go_wp2_with fail
  refine (SM _ (hr.kept ka)).mono ?_
  rintro e wS ⟨rfl, hk1⟩
  replace hL := blk_kept hk1 hL
  replace hKb := blk_kept hk1 hKb
  replace ka := kept_trans ka hk1
  clear SM hk1 c0 c1
  go_wp2_with (refine wpList_make_full _ rfl (.tmp 15) (.tmp 15) 24 rfl wS.heap.size 3 i1 (.int .i64 0) 1 Tryz.underlying24 hif1 hy0 hy1 .i64 .i64 _ _ L0 rfl rfl (by simp) (by simp) ?b2 ?b3 ?b4 ?_)
  case b2 => rw [hy2]; omega
  case b3 => unfold maxLen; omega
  case b4 => exact Nat.le_refl _
  intro w4 hown4 hgrow
  have K4 : Kept wS w4 := (kept_refl wS).grown hgrow (Nat.le_refl _) (fun k h => by cases h)
  rw [toList_madeCells_one, ← HZ.out] at hown4
  have hgo : wS.heap.size < w4.heap.size := (World.ownsRow.lt hown4 _ rfl).2
  have hM := ByteM.new (fun b => hitW xs l b n) (fun r => r = wS.heap.size) w4
  have k5 := kept_alloc (kept_alloc (kept_refl w4) (.map #[] 0)) (.cells #[.map (some w4.heap.size)] 249)
  replace hM := hM.kept (kept_alloc (kept_refl _) (.cells #[.map (some w4.heap.size)] 249))
  have hB := blk_new1 w4 (.map #[] 0) (.cells #[.map (some w4.heap.size)] 249)
  have hown5 := rowKept hown4 k5
  have K5 := kept_trans K4 k5
  clear hown4 hgrow K4 k5 HZ
  go_wp2_with fail
  generalize (w4.alloc (.map #[] 0)).alloc (.cells #[.map (some w4.heap.size)] 249) = w5 at *
  generalize w4.heap.size = g at *
  have hgg : wS.heap.size < g := hgo
  generalize hgoe : wS.heap.size = go at *
  clear hmm hgo
  go_loopw [21] (fun iv wr => ∃ i : Nat, i ≤ s.size ∧ iv = .int .i64 i ∧ wr.ownsRow go 3 1 (.slice (some ⟨go, 0, none⟩) L0 L0) L0 ((inR l xs n s L0 i []).map (Value.int .i64)) ∧ ByteM (fun b => hitW xs l b n) (fun r => r = go) wr g ∧ wr.heap[g + 1]? = some (.cells #[.map (some g)] 249) ∧ Kept wS wr) (fun iv _ => s.size - (intOf iv).toNat)
  case atStart => exact ⟨0, Nat.zero_le _, rfl, hown5, hM, hB, K5⟩
  case round =>
    clear hown5 hM hB K5
    obtain ⟨i, hi, rfl, hown, hM, hB, hk⟩ := hrel
    by_cases hlt : i < s.size
    · have hbt := byteAt_eq hlt
      have hb := byteAt_lt s i
      have CL := rarecl_c A cap n xs K (byteAt s i) hb l (g + 1) g w.heap.size (w.heap.size + 1) Ak ck (fun r => r = go) hu hl hn hlm wr (hr.kept (kept_trans ka hk)) (hrk.kept (kept_trans ka hk)) (blk_kept hk hL) hB (blk_kept hk hKb) hM (fun r h => by subst h; exact (World.ownsRow.lt hown _ rfl).2)
      have hnx := inR_next l xs n s L0 i
      have hmem := fun z => hitW_mem (xs := xs) (l := l) (b := byteAt s i) (n := n) (z := z)
      have hnd := hitW_nodup xs l (byteAt s i) n
      have hdl := hitW_len xs l (byteAt s i) n
      have hx1 : 0 ≤ (i : Int) := by omega
      have hx2 : (i : Int) < (s.size : Int) := by omega
      have hx3 : (i : Int).toNat = i := by omega
      have HNX := Lib.hid hnx
      have HMEM := Lib.hid (fun z (h : z ∈ hitW xs l (byteAt s i) n) => by obtain ⟨j, h1, _, h2⟩ := (hmem z).1 h; exact (⟨j, h1, h2⟩ : ∃ j : Nat, j < n ∧ z = (j : Int)))
      have HND := Lib.hid hnd
      have HHB := Lib.hid (rfl : hitW xs l (byteAt s i) n = hitW xs l (byteAt s i) n)
      clear hnx hmem hnd
      go_wp2_with fail
      refine CL.mono ?_
      rintro e w6 ⟨v, rfl, hv, hM6, hg6⟩
      obtain ⟨Av, cv, rfl, rdv, xv⟩ := hv
      have o6 := World.ownsRow.kept hown hg6 (.inr (by simp [Value.ownBlock]; omega))
      have hB6 := grown_blk hg6 hB (by simp)
      have k6 := kept_grow hk hg6 (by rintro k h; cases h; omega)
      clear CL hown hM hB hk hg6 hbt
      generalize hDD : hitW xs l (byteAt s i) n = D at *
      clear hDD HHB
      go_wp2_with fail
      go_loopw [30] (fun qv wq => ∃ q : Nat, q ≤ D.length ∧ qv = .int .i64 q ∧ wq.ownsRow go 3 1 (.slice (some ⟨go, 0, none⟩) L0 L0) L0 ((inR l xs n s L0 i (D.take q)).map (Value.int .i64)) ∧ ByteM (fun b => hitW xs l b n) (fun r => r = go) wq g ∧ wq.heap[g + 1]? = some (.cells #[.map (some g)] 249) ∧ Kept wS wq ∧ Rd .i64 wq Av D) (fun qv _ => D.length - (intOf qv).toNat)
      case atStart => exact ⟨0, Nat.zero_le _, rfl, by rw [List.take_zero]; exact o6, hM6, hB6, k6, rdv⟩
      case round =>
        clear o6 hM6 hB6 k6 rdv
        obtain ⟨q, hq, rfl, o6, hM6, hB6, k6, rdv⟩ := hrel
        by_cases hlq : q < D.length
        · obtain ⟨ad, rfl, d0⟩ := rdv.at_ hlq
          obtain ⟨htk, hfr⟩ := take_fresh HND.out hlq
          obtain ⟨z, hzn, hz⟩ := HMEM.out (nth D q) (by rw [nth_lt hlq]; exact List.getElem_mem _)
          rw [hz] at d0 htk hfr
          by_cases hin : z ≤ i ∧ i - z < L0
          · obtain ⟨p, hp⟩ : ∃ p, p = i - z := ⟨_, rfl⟩
            have hip : (i : Int) - (p : Int) = (z : Int) := by omega
            have hset := inR_set (l := l) (xs := xs) (n := n) (s := s) (L := L0) (i := i) (p := p) (D := D.take q) (by omega) (by rw [hip]; exact hfr)
            have hat := inR_at (l := l) (xs := xs) (n := n) (s := s) (L := L0) (i := i) (p := p) (D := D.take q) (by omega) (by rw [hip]; exact hfr)
            rw [hip, ← htk] at hset
            have hrl := rareF_le l xs n s i p
            have e0 := World.ownsRow.cellAt o6 p (by omega)
            have hlen := inR_len l xs n s L0 i (D.take q)
            rw [List.getElem?_map, List.getElem?_eq_getElem (by rw [hlen]; omega), Option.map_some, ← nth_lt (by rw [hlen]; omega), hat] at e0
            have f0 := World.ownsRow.frozenAt o6 p
            generalize rareF l xs n s i p = y at *
            have ST := World.ownsRow.stored o6 p (.int .i64 ((y : Int) + 1))
            rw [← List.map_set, hset] at ST
            have HS := Lib.hid (⟨ST, hM6, hB6, k6, rdv, o6⟩ : _ ∧ _ ∧ _ ∧ _ ∧ _ ∧ _)
            have hsub : (i : Int) - (z : Int) = (p : Int) := by omega
            have d1 : decide ((z : Int) ≤ (i : Int)) = true := decide_eq_true (by omega)
            have d1n : decide (z ≤ i) = true := decide_eq_true (by omega)
            have d2 : decide ((p : Int) < (L0 : Int)) = true := decide_eq_true (by omega)
            have d2n : decide (p < L0) = true := decide_eq_true (by omega)
            have ea : (⟨go, 0, none⟩ : Addr).add p = ⟨go, p, none⟩ := by unfold Addr.add; split <;> simp_all
            have hp0 : p < L0 := by omega
            clear hset hat hlen ST o6 hM6 hB6 k6 rdv htk hfr hip hp hin hz
            go_wp2_with fail
            obtain ⟨ST, hM6, hB6, k6, rdv, o6⟩ := HS.out
            have G : wr.grownBy (wr.setCell ⟨go, p, none⟩ (.int .i64 ((y : Int) + 1))) (some go) := ST.2
            exact ⟨⟨q + 1, by omega, by go_num, ST.1, hM6.grown G rfl (by omega), grown_blk G hB6 (by simp; omega), kept_grow k6 G (by rintro k h; cases h; omega), rd_grown rdv G (fun ad' e h => xv ad' e (by simpa using h))⟩, by simp [intOf]; omega⟩
          · have hou := inR_out (l := l) (xs := xs) (n := n) (s := s) (L := L0) (i := i) (D := D.take q) (z := (z : Int)) (by omega)
            rw [← htk] at hou
            have HS := Lib.hid (⟨hou, o6, hM6, hB6, k6, rdv⟩ : _ ∧ _ ∧ _ ∧ _ ∧ _ ∧ _)
            clear hou o6 hM6 hB6 k6 rdv htk hfr hz
            by_cases hz1 : z ≤ i
            · have hsub : (i : Int) - (z : Int) = ((i - z : Nat) : Int) := by omega
              have d1 : decide ((z : Int) ≤ (i : Int)) = true := decide_eq_true (by omega)
              have d1n : decide (z ≤ i) = true := decide_eq_true (by omega)
              have hge : ¬ i - z < L0 := fun h => hin ⟨hz1, h⟩
              generalize i - z = p at *
              have d2 : decide ((p : Int) < (L0 : Int)) = false := decide_eq_false (by omega)
              have d2n : decide (p < L0) = false := decide_eq_false hge
              clear hin hge hz1
              go_wp2_with fail
              obtain ⟨hou, o6, hM6, hB6, k6, rdv⟩ := HS.out
              exact ⟨⟨q + 1, by omega, by go_num, by rw [hou]; exact o6, hM6, hB6, k6, rdv⟩, by simp [intOf]; omega⟩
            · have d1 : decide ((z : Int) ≤ (i : Int)) = false := decide_eq_false (by omega)
              have d1n : decide (z ≤ i) = false := decide_eq_false hz1
              clear hin hz1
              go_wp2_with fail
              obtain ⟨hou, o6, hM6, hB6, k6, rdv⟩ := HS.out
              exact ⟨⟨q + 1, by omega, by go_num, by rw [hou]; exact o6, hM6, hB6, k6, rdv⟩, by simp [intOf]; omega⟩
        · obtain rfl : q = D.length := by omega
          rw [List.take_length, HNX.out] at o6
          go_wp2_with fail
          exact ⟨⟨i + 1, by omega, by go_num, o6, hM6, hB6, k6⟩, by simp [intOf]; omega⟩
    · obtain rfl : i = s.size := by omega
      rw [HALL.out] at hown
      have hks := ka.size
      clear hM hB
      go_wp2_with fail
      go_ret
      exact ⟨go, rfl, ownsRow_less hown (by omega), kept_trans ka hk⟩
end Go.Proofs.YtdejablhpljdfaaGreat
