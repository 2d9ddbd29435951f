/-
  Texts of one claim, joined: TBase, WGrid1, WGrid2, WGrid3, WGrid5, WGrid6.
-/
import Derived.Maps.OwnOps
import Derived.Maps.Own
import Derived.Deep.AppendLies
import Derived.MapKept
import Derived.Laws.BytesString
import Derived.Test.YtdejablhpljdfaaGreatQ05
import Derived.Test.YtdejablhpljdfaaGreatQ04
set_option linter.unusedVariables false
namespace Go.Proofs.YtdejablhpljdfaaGreat
open Go.RowKit BG
theorem grown_blk {w w' : World} {row : Option Nat} (hg : w.grownBy w' row) {g : Nat} {o : Obj} (h : w.heap[g]? = some o) (hne : some g ≠ row) : w'.heap[g]? = some o := (hg.block g (blk_lt h) hne).trans h
theorem kept_grow {w0 w w1 : World} {row : Option Nat} (hk : Kept w0 w) (hg : w.grownBy w1 row) (hr : ∀ k, row = some k → w0.heap.size ≤ k) : Kept w0 w1 := hk.grown hg hk.size hr
theorem ownsRow_less {w : World} {base base' n size : Nat} {e : TypeId} {v : Value} {xs : List Value} (h : w.ownsRow base e size v n xs) (hb : base' ≤ base) : w.ownsRow base' e size v n xs := by
  obtain ⟨h1, h2⟩ := h
  refine ⟨h1, ?_⟩
  rcases h2 with h2 | ⟨g, cap, cur, hv, hg, r⟩
  · exact .inl h2
  · exact .inr ⟨g, cap, cur, hv, Nat.le_trans hb hg, r⟩
theorem add_zero (ad : Addr) : ad.add 0 = ad := by simp [Addr.add]
theorem app_one {k : IntKind} {t e : TypeId} {by_ : Nat} {i : TypeInfo} (hund : Tryz.prog.underlying t = some (.slice e)) (hi : Tryz.prog.info? e = some i) (hz : i.zero = some (.int k 0)) (hsz : i.size = 1) (hby : i.bytes = by_) (hb8 : by_ ≤ 8)
    {ops : Array Oper} {rest : List Oper} {o : Oper} {a : Act} {Q : Exit → Act → World → Prop} {wr w0 : World} {T : TypeId} {s x : Operand} {base : Nat} {v : Value} {l : List Int} {z : Int} (hg : o.guard = none)
    (ho : o.op = .call { callee := .builtin .append, args := #[s, x], argTypes := #[t, t] }) (hs : a.eval s = v) {H : Nat} (hx : a.eval x = .slice (some ⟨H, 0, none⟩) 1 1) (hH : wr.heap.size = H) (hown : Own k e base wr v l) (hlen : l.length ≤ 1000000000000)
    (hbw : base ≤ wr.heap.size) (hk : Kept w0 wr) (hb : w0.heap.size ≤ base)
    (h : ∀ v' w1, Own k e base w1 v' (l ++ [z]) → wr.grownBy w1 v.ownBlock → Kept w0 w1 → wpList Tryz.prog ops Q rest (a.put o.dst v') w1) : wpList Tryz.prog ops Q (o :: rest) a (wr.alloc (.cells #[.int k z] T)) := by
  subst hH
  have hown2 : World.ownsRow _ _ _ _ _ _ _ := hown
  refine wpList_append_own _ hg s x t ho base e i (.int k 0) 1 by_ hund hi hz hsz hby rfl (by decide) v l.length _ hs (hown2.alloc _) ⟨wr.heap.size, 0, none⟩ 1 1 [.int k z] hx rfl ?_ ?_ ?_ ?_ ?_ ?_
  · intro q u hq
    match q, hq with
    | 0, hq => simp at hq; subst hq; simp [Addr.add]
  · intro u hu; simp at hu; subst hu; rfl
  · unfold maxLen; omega
  · have := Nat.mul_le_mul (show l.length + 1 ≤ 1000000000001 by omega) hb8; omega
  · simp; omega
  · intro v' w1 hown' hgrow _
    have o5 := own_snoc hown'
    have K5 := kept_grown (kept_alloc hk _) (hown2.alloc _) hb hgrow
    refine h v' w1 o5 ⟨hgrow.os, hgrow.tape, hgrow.output, ?_, fun j hj hne => ?_⟩ K5
    · have := hgrow.size; simp at this; omega
    · rw [hgrow.block j (by simp; omega) hne]; exact Below.heap_alloc wr _ j hj
theorem app_cls {ops : Array Oper} {rest : List Oper} {o : Oper} {a : Act} {Q : Exit → Act → World → Prop} {wr w0 : World} {s x : Operand} {base : Nat} {v : Value} {n : Nat} {l : List Int} {c : Cl} (hg : o.guard = none)
    (ho : o.op = .call { callee := .builtin .append, args := #[s, x], argTypes := #[59, 59] }) (hs : a.eval s = v) {H : Nat} (hx : a.eval x = .slice (some ⟨H, 0, none⟩) 1 1) (hH : wr.heap.size = H) (hown : wr.ownsRow base 110 4 v n (l.map (Value.int .u64))) (hlen : n ≤ 1000000000000)
    (hbw : base ≤ wr.heap.size) (hk : Kept w0 wr) (hb : w0.heap.size ≤ base)
    (h : ∀ v' w1, w1.ownsRow base 110 4 v' (n + 1) ((l ++ clL c).map (Value.int .u64)) → wr.grownBy w1 v.ownBlock → Kept w0 w1 → wpList Tryz.prog ops Q rest (a.put o.dst v') w1) : wpList Tryz.prog ops Q (o :: rest) a (wr.alloc c.cells) := by
  subst hH
  obtain ⟨i1, hif1, hy0, hy1, hy2⟩ := info_parts info_class
  refine wpList_append_own _ hg s x 59 ho base 110 i1 _ 4 32 Tryz.underlying59 hif1 hy0 hy1 hy2 rfl (by decide) v n _ hs (hown.alloc _) ⟨wr.heap.size, 0, none⟩ 1 1 [.int .u64 c.a, .int .u64 c.b, .int .u64 c.c, .int .u64 c.d] hx rfl ?_ ?_ ?_ ?_ ?_ ?_
  · exact World.news_of_block (cs := #[.int .u64 c.a, .int .u64 c.b, .int .u64 c.c, .int .u64 c.d]) (t := 110) (fr := (0, 0)) (heap_alloc_new wr _)
  · simp [Value.oneCell']
  · unfold maxLen; omega
  · omega
  · simp; omega
  · intro v' w1 hown' hgrow _
    have K5 := kept_grown (kept_alloc hk _) (hown.alloc _) hb hgrow
    refine h v' w1 (by rw [List.map_append]; exact hown') ⟨hgrow.os, hgrow.tape, hgrow.output, ?_, fun j hj hne => ?_⟩ K5
    · have := hgrow.size; simp at this; omega
    · rw [hgrow.block j (by simp; omega) hne]; exact Below.heap_alloc wr _ j hj
theorem info_u8 : (Tryz.prog.info? 5).map (fun i => (i.zero, i.size, i.bytes)) = some (some (.int .u8 0), 1, 1) := by kernel_rfl
theorem wpList_str {w : World} {ops : Array Oper} {rest : List Oper} {o : Oper} {a : Act} {Q : Exit → Act → World → Prop} {x : Operand} {A : Addr} {cap n : Nat} (l : List UInt8) (hgd : o.guard = none)
    (ho : o.op = .convert 133 9 x) (hx : a.eval x = .slice (some A) n cap) (hn : l.length = n)
    (hc : ∀ j (hj : j < l.length), w.cell? (A.add j) = some (.int .u8 (l[j].toNat : Int))) (h : wpList Tryz.prog ops Q rest (a.put o.dst (.string ⟨l.toArray⟩)) w) : wpList Tryz.prog ops Q (o :: rest) a w := by
  subst hn
  refine wpList_plain hgd fun K hK => ?_
  have hrun := run_convert_bytes_back (P := Tryz.prog) w 133 9 5 A cap l Tryz.underlying133 Tryz.underlying5 Tryz.underlying9 hc
  unfold Oper.wp
  simp only [execOp, ho, hx, Sem.run_bind, hrun, Result.andThen_ok, Sem.run_pure]
  exact hK _ _ h
def ClsMap (w : World) (g : Nat) (keys : List Cl) : Prop := ∃ es clk, w.heap[g]? = some (.map es clk) ∧ es.toList.map (fun e => (e.key, e.val)) = keys.map fun x => (x.v, Value.bool true)
theorem ClsMap.lt {w : World} {g : Nat} {keys : List Cl} (h : ClsMap w g keys) : g < w.heap.size := by obtain ⟨es, clk, h, _⟩ := h; exact blk_lt h
theorem ClsMap.kept {w w1 : World} {g : Nat} {keys : List Cl} (h : ClsMap w g keys) (hk : Kept w w1) : ClsMap w1 g keys := by obtain ⟨es, clk, h, r⟩ := h; exact ⟨es, clk, blk_kept hk h, r⟩
theorem ClsMap.grown {w w1 : World} {g : Nat} {keys : List Cl} {row : Option Nat} (h : ClsMap w g keys) (hg : w.grownBy w1 row) (hne : some g ≠ row) : ClsMap w1 g keys := by obtain ⟨es, clk, h, r⟩ := h; exact ⟨es, clk, grown_blk hg h hne, r⟩
theorem ClsMap.new (w : World) : ClsMap (w.alloc (.map #[] 0)) w.heap.size [] := ⟨#[], 0, blk_new w _, rfl⟩
theorem findAsking_cls (x : Cl) (w : World) : ∀ (es : List MapEntry) (keys : List Cl) (i : Nat), es.map (fun e => (e.key, e.val)) = keys.map (fun x => (x.v, Value.bool true)) →
    ∃ r, (Instr.findAsking 110 x.v es i).run Tryz.prog w = .ok r w ∧ (r = none ∧ x ∉ keys ∨ ∃ j, r = some (j, .bool true) ∧ x ∈ keys)
  | [], [], i, _ => ⟨none, rfl, .inl ⟨rfl, by simp⟩⟩
  | [], _ :: _, _, h => by simp at h
  | _ :: _, [], _, h => by simp at h
  | e :: es, k :: keys, i, h => by
    simp only [List.map_cons, List.cons.injEq, Prod.mk.injEq] at h
    obtain ⟨⟨h1, h2⟩, h3⟩ := h
    have E := eqCl x k w
    unfold Instr.findAsking
    rw [h1, h2]
    by_cases hx : x = k
    · rw [decide_eq_true hx] at E
      refine ⟨some (i, .bool true), ?_, .inr ⟨i, rfl, by simp [hx]⟩⟩
      simp only [Sem.run_bind, Op.equal, show Op.maxDepth = 10000 from rfl, E, Result.andThen_ok, if_true, Sem.run_pure]
    · rw [decide_eq_false hx] at E
      obtain ⟨r, hr, hor⟩ := findAsking_cls x w es keys (i + 1) h3
      refine ⟨r, ?_, ?_⟩
      · simp only [Sem.run_bind, Op.equal, show Op.maxDepth = 10000 from rfl, E, Result.andThen_ok, Bool.false_eq_true, if_false]
        exact hr
      · rcases hor with ⟨a, b⟩ | ⟨j, a, b⟩
        · exact .inl ⟨a, by simp [hx, b]⟩
        · exact .inr ⟨j, a, by simp [b]⟩
theorem checkKey_int (b : Bool) (d : Nat) (t : TypeId) (k : IntKind) (ht : Tryz.prog.underlying t = some (.int k)) (z : Int) (w : World) : (Instr.checkKey b (d + 1) t (.int k z)).run Tryz.prog w = .ok () w := by
  simp [Instr.checkKey, run_underlying ht]
theorem checkKey_arr (b : Bool) (d : Nat) (x : Cl) (w : World) : (Instr.checkKey b (d + 2) 110 x.v).run Tryz.prog w = .ok () w := by
  have p : ∀ i, i < 4 → ∃ z, (part 108 #[Value.int .u64 x.a, .int .u64 x.b, .int .u64 x.c, .int .u64 x.d] (i * 1)).run Tryz.prog w = .ok (.int .u64 z) w := fun i hi => by
    match i, hi with
    | 0, _ => exact ⟨x.a, by simp [part, isAgg, run_underlying Tryz.underlying108]⟩
    | 1, _ => exact ⟨x.b, by simp [part, isAgg, run_underlying Tryz.underlying108]⟩
    | 2, _ => exact ⟨x.c, by simp [part, isAgg, run_underlying Tryz.underlying108]⟩
    | 3, _ => exact ⟨x.d, by simp [part, isAgg, run_underlying Tryz.underlying108]⟩
  have hs : (sizeOf 108).run Tryz.prog w = .ok 1 w := by kernel_rfl
  have hc := fun z => checkKey_int b d 108 .u64 Tryz.underlying108 z w
  rw [show d + 2 = (d + 1) + 1 from rfl, Instr.checkKey]
  simp only [Sem.run_bind, run_underlying Tryz.underlying110, Result.andThen_ok, Std.Legacy.Range.forIn_eq_forIn_range', Std.Legacy.Range.size, Nat.sub_zero, Nat.add_sub_cancel, Nat.div_one]
  have hl : ∀ i ∈ List.range' 0 4 1, i < 4 := fun i hi => by simpa using (List.mem_range'_1.1 hi).2
  generalize List.range' 0 4 1 = l at hl ⊢
  induction l with
  | nil => simp
  | cons i l ih =>
    obtain ⟨z, hz⟩ := p i (hl i (by simp))
    simp only [List.forIn_cons, Sem.run_bind, hs, hz, Result.andThen_ok, hc, Sem.run_pure]
    exact ih fun j hj => hl j (by simp [hj])
theorem checkKey_cls (b : Bool) (x : Cl) (w : World) : (Instr.checkKey b 10000 110 x.v).run Tryz.prog w = .ok () w := checkKey_arr b 9998 x w
theorem findKey_cls {w : World} {keys : List Cl} (x : Cl) {es : List MapEntry} (h : es.map (fun e => (e.key, e.val)) = keys.map fun x => (x.v, Value.bool true)) :
    ∃ r, (Instr.findKey 110 x.v es).run Tryz.prog w = .ok r w ∧ (r = none ∧ x ∉ keys ∨ ∃ j, r = some (j, .bool true) ∧ x ∈ keys) := by
  unfold Instr.findKey
  simp only [Sem.run_bind, run_underlying Tryz.underlying110, Result.andThen_ok]
  cases es with
  | nil =>
    cases keys with
    | nil => exact ⟨none, rfl, .inl ⟨rfl, by simp⟩⟩
    | cons k keys => simp at h
  | cons e es => simpa [Instr.findNow, Instr.sameNow] using findAsking_cls x w (e :: es) keys 0 h
theorem lookup_cls {w : World} {g : Nat} {keys : List Cl} (h : ClsMap w g keys) (x : Cl) : (Instr.lookup 265 (.map (some g)) x.v false).run Tryz.prog w = .ok (.bool (decide (x ∈ keys))) w := by
  obtain ⟨es, clk, hb, he⟩ := h
  obtain ⟨r, hr, hor⟩ := findKey_cls (w := w) x he
  have hz : (zeroValue 4).run Tryz.prog w = .ok (.bool false) w := by kernel_rfl
  unfold Instr.lookup
  simp only [Sem.run_bind, run_underlying Tryz.underlying265, Result.andThen_ok, MapKept.run_getObj_map hb, checkKey_cls, hr, Sem.run_pure]
  rcases hor with ⟨rfl, hx⟩ | ⟨j, rfl, hx⟩
  · simp [hz, hx]
  · simp [hx]
theorem update_cls {w : World} {g : Nat} {keys : List Cl} (h : ClsMap w g keys) {x : Cl} (hx : x ∉ keys) : ∃ w1, (Instr.mapUpdate 265 (.map (some g)) x.v (.bool true)).run Tryz.prog w = .ok () w1 ∧ ClsMap w1 g (keys ++ [x]) ∧ w.grownBy w1 (some g) := by
  obtain ⟨es, clk, hb, he⟩ := h
  obtain ⟨r, hr, hor⟩ := findKey_cls (w := w) x he
  rcases hor with ⟨rfl, _⟩ | ⟨_, _, hx'⟩
  · refine ⟨ChangeMaps.setBlock w g (.map (es.push { key := x.v, val := .bool true, born := clk }) (clk + 1)), ?_, ⟨es.push { key := x.v, val := .bool true, born := clk }, clk + 1, ?_, by simp [he]⟩, ?_⟩
    · unfold Instr.mapUpdate
      simp only [Sem.run_bind, run_underlying Tryz.underlying265, Result.andThen_ok, MapKept.run_getObj_map hb, checkKey_cls, hr]
      exact MapKept.run_setObj_map _ hb
    · exact ChangeMaps.heap_setBlock_same hb _
    · exact ⟨rfl, rfl, rfl, by simp [ChangeMaps.setBlock], fun i _ hi => ChangeMaps.heap_setBlock_other hb _ (fun e => hi (by rw [e]))⟩
  · exact absurd hx' hx
theorem wpList_lookup_cls {ops : Array Oper} {rest : List Oper} {o : Oper} {a : Act} {Q : Exit → Act → World → Prop} {w : World} {g : Nat} {keys : List Cl} {m x : Operand} (c : Cl) (hg : o.guard = none) (ho : o.op = Op.lookup 265 m x false)
    {b : Bool} (hm : a.eval m = .map (some g)) (hx : a.eval x = c.v) (h : ClsMap w g keys) (hb : decide (c ∈ keys) = b) (hK : wpList Tryz.prog ops Q rest (a.put o.dst (.bool b)) w) : wpList Tryz.prog ops Q (o :: rest) a w := by
  subst hb
  refine wpList_plain hg fun K hK' => ?_
  unfold Oper.wp
  simp [execOp, ho, hm, hx, lookup_cls h, Result.andThen]
  exact hK' _ _ hK
theorem wpList_update_cls {ops : Array Oper} {rest : List Oper} {o : Oper} {a : Act} {Q : Exit → Act → World → Prop} {w : World} {g : Nat} {keys : List Cl} {m x v : Operand} (c : Cl) (hg : o.guard = none) (ho : o.op = Op.mapUpdate 265 m x v ∨ o.op = Op.insert 265 m x v)
    (hm : a.eval m = .map (some g)) (hx : a.eval x = c.v) (hv : a.eval v = .bool true) (h : ClsMap w g keys) (hnew : c ∉ keys) (hK : ∀ w1, ClsMap w1 g (keys ++ [c]) → w.grownBy w1 (some g) → wpList Tryz.prog ops Q rest (a.put o.dst undef) w1) : wpList Tryz.prog ops Q (o :: rest) a w := by
  refine wpList_plain hg fun K hK' => ?_
  obtain ⟨w1, hr, h1, h2⟩ := update_cls h hnew
  unfold Oper.wp
  rcases ho with ho | ho <;> simp [execOp, ho, hm, hx, hv, hr, Result.andThen] <;> exact hK' _ _ (hK w1 h1 h2)
end Go.Proofs.YtdejablhpljdfaaGreat
namespace Go.Proofs.YtdejablhpljdfaaGreat
open Go.RowKit BG
attribute [local go_sem ↓] Go.wp_at_zero Go.wp_at_succ
set_option linter.unusedVariables false
def rowsb (w : Int) (n : Nat) : Bool := decide (1 ≤ w ∧ w ≤ 64 ∧ n % w.toNat = 0 ∧ n ≤ 64 * w.toNat)
abbrev fieldV (W : Int) (s : ByteArray) : Value := .agg #[.int .i64 W, .string s]
abbrev maskV (W : Int) (A : Option Addr) (n cap : Nat) : Value := .agg #[.int .i64 W, .slice A n cap]
theorem rowsb_no {w : Int} {n : Nat} (h : ¬ (1 ≤ w ∧ w ≤ 64 ∧ n % w.toNat = 0 ∧ n ≤ 64 * w.toNat)) : rowsb w n = false := decide_eq_false h
theorem div_le64 {n W : Nat} (h0 : 0 < W) (h : n % W = 0) : n / W ≤ 64 ↔ n ≤ 64 * W := by
  have h1 := Nat.div_add_mod n W
  rw [h, Nat.add_zero] at h1
  constructor
  · intro h2
    have := Nat.mul_le_mul_left W h2
    rw [h1, Nat.mul_comm] at this
    exact this
  · intro h2
    rw [← h1, Nat.mul_comm 64 W] at h2
    exact Nat.le_of_mul_le_mul_left h2 h0
set_option maxHeartbeats 4000000 in
theorem gridrows_c (w : Int) (n : Nat) (hn : n ≤ 9223372036854775807) (w0 : World) : Calls Tryz.prog 96 #[.int .i64 w, .int .i64 (n : Int)] w0 (Ret (.bool (rowsb w n)) w0) := by
  by_cases h1 : 1 ≤ w
  · obtain ⟨W, rfl⟩ : ∃ W : Nat, w = (W : Int) := ⟨w.toNat, by omega⟩
    have d1 : decide (1 ≤ (W : Int)) = true := decide_eq_true h1
    by_cases h2 : (W : Int) ≤ 64
    · have d2 : decide ((W : Int) ≤ 64) = true := decide_eq_true h2
      have hz : ((W : Int) == 0) = false := by rw [beq_eq_false_iff_ne]; omega
      have hr : ((n : Int) : Int).tmod (W : Int) = ((n % W : Nat) : Int) := by rw [Int.tmod_eq_emod_of_nonneg (by omega), Int.natCast_emod]
      have hq : ((n : Int) : Int).tdiv (W : Int) = ((n / W : Nat) : Int) := by rw [Int.tdiv_eq_ediv_of_nonneg (by omega), Int.natCast_ediv]
      have hq2 : wrap64 (((n : Int) : Int) / (W : Int)) = ((n / W : Nat) : Int) := by
        have : n / W ≤ n := Nat.div_le_self _ _
        have h0 : (0 : Int) ≤ ((n / W : Nat) : Int) := Int.natCast_nonneg _
        rw [← Int.natCast_ediv]
        generalize n / W = z at *
        unfold wrap64
        omega
      by_cases h3 : n % W = 0
      · have d3 : (((n % W : Nat) : Int) == 0) = true := by rw [h3]; rfl
        have h4' := div_le64 (n := n) (W := W) (by omega) h3
        by_cases h4 : n ≤ 64 * W
        · have d4 : decide (((n : Int) : Int) ≤ 64 * (W : Int)) = true := decide_eq_true (by omega)
          have d5 : decide (((n / W : Nat) : Int) ≤ 64) = true := decide_eq_true (by have := h4'.2 h4; omega)
          have hv : rowsb (W : Int) n = true := decide_eq_true ⟨h1, h2, h3, h4⟩
          rw [hv]
          go_enter Tryz.func96, Tryz.ntmps96
          go_wp2_with fail
          go_ret
          exact ⟨by simp, kept_refl _⟩
        · have d4 : decide (((n : Int) : Int) ≤ 64 * (W : Int)) = false := decide_eq_false (by omega)
          have d5 : decide (((n / W : Nat) : Int) ≤ 64) = false := decide_eq_false (fun h => h4 (h4'.1 (by omega)))
          rw [rowsb_no (w := (W : Int)) (n := n) fun h => h4 h.2.2.2]
          go_enter Tryz.func96, Tryz.ntmps96
          go_wp2_with fail
          go_ret
          exact ⟨by simp, kept_refl _⟩
      · have d3 : (((n % W : Nat) : Int) == 0) = false := by rw [beq_eq_false_iff_ne]; omega
        rw [rowsb_no (w := (W : Int)) (n := n) fun h => h3 h.2.2.1]
        go_enter Tryz.func96, Tryz.ntmps96
        go_wp2_with fail
        go_ret
        exact ⟨by simp, kept_refl _⟩
    · have d2 : decide ((W : Int) ≤ 64) = false := decide_eq_false h2
      rw [rowsb_no fun h => h2 h.2.1]
      go_enter Tryz.func96, Tryz.ntmps96
      go_wp2_with fail
      go_ret
      exact ⟨by simp, kept_refl _⟩
  · have d1 : decide (1 ≤ w) = false := decide_eq_false h1
    rw [rowsb_no fun h => h1 h.1]
    go_enter Tryz.func96, Tryz.ntmps96
    go_wp2_with fail
    go_ret
    exact ⟨by simp, kept_refl _⟩
theorem fieldright_c (w : Int) (s : ByteArray) (hn : s.size ≤ 9223372036854775807) (w0 : World) : Calls Tryz.prog 52 #[fieldV w s] w0 (Ret (.bool (rowsb w s.size)) w0) := by
  have ka := kept_alloc (kept_refl w0) (.cells #[.int .i64 w, .string s] 71)
  have R := fun w0 => gridrows_c w s.size hn w0
  generalize rowsb w s.size = b at *
  go_enter Tryz.func52, Tryz.ntmps52
  go_wp2_with fail
  refine (R _).mono ?_
  rintro e w1 ⟨rfl, hk1⟩
  go_wp2_with fail
  go_ret
  exact ⟨rfl, kept_trans ka hk1⟩
end Go.Proofs.YtdejablhpljdfaaGreat
namespace Go.Proofs.YtdejablhpljdfaaGreat
open Go.RowKit BG
attribute [local go_sem ↓] Go.wp_at_zero Go.wp_at_succ
set_option linter.unusedVariables false
def mayb (W : Int) (xs : List Int) (n : Nat) : Bool := rowsb W n && decide (0 < n) && !contv xs n zerov
set_option maxHeartbeats 2000000 in
theorem may_c (W : Int) (A : Option Addr) (cap n : Nat) (xs : List Int) (hu : U64 xs) (hl : xs.length = 4 * n) (w : World) (hr : Rd .u64 w A xs) : Calls Tryz.prog 53 #[maskV W A n cap] w (Ret (.bool (mayb W xs n)) w) := by
  have hm := hr.1
  have ka := kept_alloc (kept_refl w) (.cells #[.int .i64 W, .slice A n cap] 73)
  have hb := blk_new w (.cells #[.int .i64 W, .slice A n cap] 73)
  have R := fun w1 => gridrows_c W n (by omega) w1
  have C := fun w1 h => contains_c A cap n xs zerov hl w1 h
  unfold mayb
  generalize rowsb W n = rb at *
  generalize contv xs n zerov = cv at *
  unfold zerov at C
  dsimp only [Cl.v] at C
  go_enter Tryz.func53, Tryz.ntmps53
  go_wp2_with fail
  refine (R _).mono ?_
  rintro e w1 ⟨rfl, hk1⟩
  replace hb := blk_kept hk1 hb
  have hk := kept_trans ka hk1
  have c1 : w1.cell? ⟨w.heap.size, 1, none⟩ = some (.slice A n cap) := blk_cell hb 1
  clear R ka hk1
  cases rb
  · go_wp2_with fail
    go_ret
    exact ⟨by first | (simp; done) | simp [hn] | (simp; omega), hk⟩
  · by_cases hn : 0 < n
    · have hd : decide (0 < (n : Int)) = true := decide_eq_true (by omega)
      rw [decide_eq_true hn]
      go_wp2_with fail
      refine (C _ (hr.kept hk)).mono ?_
      rintro e w2 ⟨rfl, hk2⟩
      clear C c1
      go_wp2_with fail
      go_ret
      exact ⟨by simp [hn], kept_trans hk hk2⟩
    · have hd : decide (0 < (n : Int)) = false := decide_eq_false (by omega)
      rw [decide_eq_false hn]
      clear C
      go_wp2_with fail
      go_ret
      exact ⟨by first | (simp; done) | simp [hn] | (simp; omega), hk⟩
end Go.Proofs.YtdejablhpljdfaaGreat
namespace Go.Proofs.YtdejablhpljdfaaGreat
open Go.RowKit BG
attribute [local go_sem ↓] Go.wp_at_zero Go.wp_at_succ
set_option linter.unusedVariables false
def markOf (s : ByteArray) (x : Cl) (i : Nat) : Int := if hasv x (byteAt s i) = true then 1 else 0
def marksT (s : ByteArray) (x : Cl) (n q : Nat) : List Int := mk n fun i => if i < q then markOf s x i else 0
def marksv (s : ByteArray) (x : Cl) : List Int := mk s.size (markOf s x)
theorem marksT_zero (s : ByteArray) (x : Cl) (n : Nat) : marksT s x n 0 = mk n fun _ => 0 := mk_congr fun t _ => if_neg (Nat.not_lt_zero t)
theorem marksT_all (s : ByteArray) (x : Cl) : marksT s x s.size s.size = marksv s x := mk_congr fun t h => if_pos h
theorem marksT_len (s : ByteArray) (x : Cl) (n q : Nat) : (marksT s x n q).length = n := mk_length _ _
theorem marksT_yes {s : ByteArray} {x : Cl} {n q : Nat} (h : q < n) (hy : hasv x (byteAt s q) = true) : (marksT s x n q).set q 1 = marksT s x n (q + 1) := by
  unfold marksT
  rw [mk_set _ h]
  refine mk_congr fun t _ => ?_
  by_cases h1 : t = q
  · rw [if_pos h1, if_pos (by omega), h1]; unfold markOf; rw [if_pos hy]
  · rw [if_neg h1]
    by_cases h2 : t < q
    · rw [if_pos h2, if_pos (by omega)]
    · rw [if_neg h2, if_neg (by omega)]
theorem marksT_no {s : ByteArray} {x : Cl} {n q : Nat} (hy : ¬ hasv x (byteAt s q) = true) : marksT s x n (q + 1) = marksT s x n q := by
  unfold marksT
  refine mk_congr fun t _ => ?_
  by_cases h1 : t = q
  · rw [if_pos (by omega), if_neg (by omega), h1]; unfold markOf; rw [if_neg hy]
  · by_cases h2 : t < q
    · rw [if_pos h2, if_pos (by omega)]
    · rw [if_neg h2, if_neg (by omega)]
set_option maxHeartbeats 2000000 in
theorem marks1_c (s : ByteArray) (x : Cl) (hx : x.ok) (i gc gt : Nat) (hi : i < s.size) (hs : s.size ≤ 9223372036854775807) (w : World) (hc : w.heap[gc]? = some x.cells) (ht : w.cell? ⟨gt, 0, none⟩ = some (.string s)) : Calls Tryz.prog 108 #[.int .i64 (i : Int), .pointer (some ⟨gc, 0, none⟩), .pointer (some ⟨gt, 0, none⟩)] w (Ret (.bool (hasv x (byteAt s i))) w) := by
  have H := has_c x hx (byteAt s i) (byteAt_lt s i)
  have hbt := byteAt_eq hi
  have hb := cl_cells hc
  have hx1 : 0 ≤ (i : Int) := by omega
  have hx2 : (i : Int) < (s.size : Int) := by omega
  have hx3 : (i : Int).toNat = i := by omega
  generalize hasv x (byteAt s i) = y at *
  generalize byteAt s i = bb at *
  obtain ⟨x0, x1, x2, x3⟩ := x
  dsimp only [Cl.v, Cl.cells] at hb H
  obtain ⟨c0, c1, c2, c3⟩ := hb
  go_enter Tryz.func108, Tryz.ntmps108
  go_wp2_with fail
  have ks_0 := fun s => kw_cell s c0
  have ks_1 := fun s => kw_cell s c1
  have ks_2 := fun s => kw_cell s c2
  have ks_3 := fun s => kw_cell s c3
  have ks_4 := fun s => kw_cell s ht
  refine wp_region_kept (by kernel_rfl) (by kernel_rfl) ?_
  repeat (first | go_big_quiet_skip | (go_big_quiet_want; go_big_quiet_op; first | go_big_quiet_on | (apply Exists.intro; refine ⟨fun s => ?_, ?_⟩; (first | (go_at_call 93; exact call_kept (H _))); go_big_quiet_on)))
  refine wpQuiet_nil ?_
  rintro w7 ⟨⟨_, hk7⟩, rfl⟩
  clear ks_0 ks_1 ks_2 ks_3 ks_4 c0 c1 c2 c3 H
  go_wp2_with fail
  go_ret
  exact ⟨rfl, hk7⟩
set_option maxRecDepth 100000 in
set_option maxHeartbeats 8000000 in
theorem marksrow_c (s : ByteArray) (x : Cl) (hx : x.ok) (gc gt : Nat) (hs : s.size ≤ 1000000) (w : World) (hc : w.heap[gc]? = some x.cells) (ht : w.heap[gt]? = some (.cells #[.string s] 9 (0, 0))) : Calls Tryz.prog 107 #[.int .i64 (s.size : Nat), .func (.func 108) #[] #[.pointer (some ⟨gc, 0, none⟩), .pointer (some ⟨gt, 0, none⟩)]] w fun e w' => ∃ v, e = .returned v ∧ (Own .u64 108 w.heap.size w' v (marksv s x) ∧ Kept w w') := by
  obtain ⟨i1, hif1, hy0, hy1, hy2⟩ := info_parts info_u64n
  have M := fun i hi w1 a b => marks1_c s x hx i gc gt hi (by omega) w1 a b
  have hyes := fun q hq => marksT_yes (s := s) (x := x) (n := s.size) (q := q) hq
  have hno := fun q => marksT_no (s := s) (x := x) (n := s.size) (q := q)
  have hz := marksT_zero s x s.size
  have hall := marksT_all s x
  have hlen := marksT_len s x s.size
  have HYES := Lib.hid hyes
  have HNO := Lib.hid hno
  have HZ := Lib.hid hz
  have HALL := Lib.hid hall
  have HLEN := Lib.hid hlen
  clear hyes hno hz hall hlen
  generalize marksv s x = mv at *
  generalize marksT s x s.size = mt at *
  generalize hn : s.size = n at *
  have HN := Lib.hid hn
  clear hn
  go_enter Tryz.func107, Tryz.ntmps107
  go_wp2_with (refine wpList_make_full _ rfl (.tmp 7) (.tmp 7) 123 rfl w.heap.size 108 i1 (.int .u64 0) 1 Tryz.underlying123 hif1 hy0 hy1 .i64 .i64 _ _ n rfl rfl (by simp) (by simp) ?b2 ?b3 ?b4 ?_)
  case b2 => rw [hy2]; omega
  case b3 => unfold maxLen; omega
  case b4 => exact Nat.le_refl _
  intro w4 hown4 hgrow
  have K4 : Kept w w4 := (kept_refl w).grown hgrow (Nat.le_refl _) (fun k h => by cases h)
  rw [toList_madeCells_one] at hown4
  have hown5 : w4.ownsRow w.heap.size 108 1 (.slice (some ⟨w.heap.size, 0, none⟩) n n) n ((mt 0).map (Value.int .u64)) := by
    rw [HZ.out, mk_zero']; exact hown4
  clear hown4 hgrow HZ
  have hbz : Hid (w.heap.size ≤ w.heap.size) := Lib.hid (Nat.le_refl _)
  go_wp2_with fail
  go_loopw [11] (fun i wr => ∃ q : Nat, q ≤ n ∧ i = .int .i64 q ∧ wr.ownsRow w.heap.size 108 1 (.slice (some ⟨w.heap.size, 0, none⟩) n n) n ((mt q).map (Value.int .u64)) ∧ Kept w wr) (fun i _ => n - (intOf i).toNat)
  case atStart => exact ⟨0, Nat.zero_le _, rfl, hown5, K4⟩
  case round =>
    clear hown5 K4
    obtain ⟨q, hq, rfl, hown, hk⟩ := hrel
    by_cases hlt : q < n
    · have M := M q hlt wr (blk_kept hk hc) (blk_cell (blk_kept hk ht) 0)
      have hy := HYES.out q hlt
      have hno := HNO.out q
      have HY := Lib.hid hy
      have HO := Lib.hid hno
      clear hy hno HYES HNO HALL
      generalize hasv x (byteAt s q) = y at *
      cases y
      · have HO2 := Lib.hid (HO.out (by decide))
        clear HO HY
        go_wp2_with fail
        refine M.mono ?_
        rintro e w1 ⟨rfl, hk1⟩
        have hown1 := rowKept hown hk1
        clear M hown
        go_wp2_with fail
        exact ⟨⟨q + 1, by omega, by go_num, by rw [HO2.out]; exact hown1, kept_trans hk hk1⟩, by simp [intOf]; omega⟩
      · have HY2 := Lib.hid (HY.out rfl)
        clear HO HY
        go_wp2_with fail
        refine M.mono ?_
        rintro e w1 ⟨rfl, hk1⟩
        have hown1 := rowKept hown hk1
        have hkA := kept_trans hk hk1
        clear M hown hk hk1
        have d0 := World.ownsRow.cellAt hown1 q (by omega)
        rw [List.getElem?_map, List.getElem?_eq_getElem (by rw [HLEN.out]; omega), Option.map_some] at d0
        have f0 := World.ownsRow.frozenAt hown1 q
        have S := World.ownsRow.stored hown1 q (.int .u64 1)
        rw [← List.map_set, HY2.out] at S
        generalize (mt q)[q]'(by rw [HLEN.out]; omega) = old at *
        have ea : (⟨w.heap.size, 0, none⟩ : Addr).add q = ⟨w.heap.size, q, none⟩ := by unfold Addr.add; split <;> simp_all
        go_wp2_with fail
        exact ⟨⟨q + 1, by omega, by go_num, S.1, kept_grown hkA hown1 hbz.out S.2⟩, by simp [intOf]; omega⟩
    · obtain rfl : q = n := by omega
      rw [HALL.out] at hown
      clear M HYES HNO
      go_wp2_with fail
      go_ret
      exact ⟨_, rfl, by unfold Own; rw [show mv.length = q by rw [← HALL.out, HLEN.out]]; exact hown, hk⟩
theorem marks_c (s : ByteArray) (x : Cl) (hx : x.ok) (hs : s.size ≤ 1000000) (w : World) : Calls Tryz.prog 58 #[.string s, x.v] w fun e w' => ∃ v, e = .returned v ∧ (Own .u64 108 w.heap.size w' v (marksv s x) ∧ Kept w w') := by
  have ka := kept_alloc (kept_alloc (kept_refl w) (.cells #[.string s] 9)) x.cells
  have hc := blk_new1 w (.cells #[.string s] 9) x.cells
  have ht := blk_alloc (blk_new w (.cells #[.string s] 9)) x.cells
  have R := marksrow_c s x hx (w.heap.size + 1) w.heap.size hs _ hc ht
  generalize marksv s x = mv at *
  obtain ⟨x0, x1, x2, x3⟩ := x
  dsimp only [Cl.v, Cl.cells] at *
  go_enter Tryz.func58, Tryz.ntmps58
  go_wp2_with fail
  refine R.mono ?_
  rintro e w1 ⟨v1, rfl, own1, hk1⟩
  have o1 := own1.less ka.size
  clear R hc ht own1
  go_wp2_with fail
  go_ret
  exact ⟨_, rfl, o1, kept_trans ka hk1⟩
end Go.Proofs.YtdejablhpljdfaaGreat
namespace Go.Proofs.YtdejablhpljdfaaGreat
open Go.RowKit BG
attribute [local go_sem ↓] Go.wp_at_zero Go.wp_at_succ
set_option linter.unusedVariables false
def atP (F V x y i : Nat) : Nat := (y + i / V) * F + x + i % V
theorem tdiv_nat (j V : Nat) : (j : Int).tdiv (V : Int) = ((j / V : Nat) : Int) := by rw [Int.tdiv_eq_ediv_of_nonneg (by omega), Int.natCast_ediv]
theorem tmod_nat (j V : Nat) : (j : Int).tmod (V : Int) = ((j % V : Nat) : Int) := by rw [Int.tmod_eq_emod_of_nonneg (by omega), Int.natCast_emod]
theorem wrap_nat {n : Nat} (h : n ≤ 9223372036854775807) : wrap64 (n : Int) = (n : Int) := by unfold wrap64; omega
theorem wdiv_nat (j V : Nat) (h : j ≤ 9223372036854775807) : wrap64 ((j : Int) / (V : Int)) = ((j / V : Nat) : Int) := by
  rw [← Int.natCast_ediv]
  exact wrap_nat (Nat.le_trans (Nat.div_le_self _ _) h)
def standsv (xs : List Int) (n : Nat) (s : ByteArray) (F V x y : Nat) : Bool := (List.range n).all fun i => hasv (cls xs i) (byteAt s (atP F V x y i))
end Go.Proofs.YtdejablhpljdfaaGreat
namespace Go.Proofs.YtdejablhpljdfaaGreat
open Go.RowKit BG
attribute [local go_sem ↓] Go.wp_at_zero Go.wp_at_succ
set_option linter.unusedVariables false
def kindsC (xs : List Int) : Nat → List Cl
  | 0 => []
  | n + 1 => if cls xs n = fullv then kindsC xs n else if cls xs n ∈ kindsC xs n then kindsC xs n else kindsC xs n ++ [cls xs n]
def flatC (l : List Cl) : List Int := l.flatMap clL
theorem flatC_length (l : List Cl) : (flatC l).length = 4 * l.length := by
  unfold flatC
  induction l with
  | nil => rfl
  | cons a l ih => rw [List.flatMap_cons, List.length_append, ih, List.length_cons]; simp [clL]; omega
theorem flatC_append (l : List Cl) (x : Cl) : flatC (l ++ [x]) = flatC l ++ clL x := by unfold flatC; rw [List.flatMap_append]; simp
theorem flatC_cls (l : List Cl) : ∀ j (h : j < l.length), cls (flatC l) j = l[j] := by
  induction l with
  | nil => intro j h; exact absurd h (Nat.not_lt_zero j)
  | cons a l ih =>
    intro j h
    have e : flatC (a :: l) = clL a ++ flatC l := by unfold flatC; rw [List.flatMap_cons]
    rw [e]
    have hl : (clL a).length = 4 := rfl
    cases j with
    | zero =>
      unfold cls
      rw [nth_append_l (by rw [hl]; decide), nth_append_l (by rw [hl]; decide), nth_append_l (by rw [hl]; decide), nth_append_l (by rw [hl]; decide)]
      rfl
    | succ j =>
      have := ih j (by simpa using h)
      unfold cls at this ⊢
      rw [nth_append_r (by rw [hl]; omega), nth_append_r (by rw [hl]; omega), nth_append_r (by rw [hl]; omega), nth_append_r (by rw [hl]; omega), hl, show (j + 1) * 4 - 4 = j * 4 by omega, show (j + 1) * 4 + 1 - 4 = j * 4 + 1 by omega, show (j + 1) * 4 + 2 - 4 = j * 4 + 2 by omega, show (j + 1) * 4 + 3 - 4 = j * 4 + 3 by omega]
      exact this
theorem flatC_cont (l : List Cl) (x : Cl) : contv (flatC l) l.length x = decide (x ∈ l) := by
  by_cases h : x ∈ l
  · obtain ⟨j, hj, e⟩ := List.mem_iff_getElem.1 h
    rw [decide_eq_true h]
    exact contv_yes hj (by rw [flatC_cls l j hj]; exact e)
  · rw [decide_eq_false h]
    exact contv_no fun j hj e => h (by rw [flatC_cls l j hj] at e; rw [← e]; exact List.getElem_mem _)
theorem kindsC_le (xs : List Int) : ∀ n, (kindsC xs n).length ≤ n
  | 0 => Nat.le_refl _
  | n + 1 => by
    have := kindsC_le xs n
    unfold kindsC
    split
    · omega
    · split
      · omega
      · rw [List.length_append]; simp; omega
theorem kindsC_full {xs : List Int} {n : Nat} (h : decide (cls xs n = fullv) = true) : kindsC xs (n + 1) = kindsC xs n := by
  show (if cls xs n = fullv then kindsC xs n else _) = _
  rw [if_pos (of_decide_eq_true h)]
theorem kindsC_in {xs : List Int} {n : Nat} (h : decide (cls xs n = fullv) = false) (hc : contv (flatC (kindsC xs n)) (kindsC xs n).length (cls xs n) = true) : kindsC xs (n + 1) = kindsC xs n := by
  show (if cls xs n = fullv then kindsC xs n else if cls xs n ∈ kindsC xs n then kindsC xs n else _) = _
  rw [flatC_cont] at hc
  rw [if_neg (of_decide_eq_false h), if_pos (of_decide_eq_true hc)]
theorem kindsC_new {xs : List Int} {n : Nat} (h : decide (cls xs n = fullv) = false) (hc : contv (flatC (kindsC xs n)) (kindsC xs n).length (cls xs n) = false) : kindsC xs (n + 1) = kindsC xs n ++ [cls xs n] := by
  show (if cls xs n = fullv then kindsC xs n else if cls xs n ∈ kindsC xs n then kindsC xs n else _) = _
  rw [flatC_cont] at hc
  rw [if_neg (of_decide_eq_false h), if_neg (of_decide_eq_false hc)]
set_option maxRecDepth 100000 in
set_option maxHeartbeats 8000000 in
theorem kinds_c (W : Int) (A : Option Addr) (cap n : Nat) (xs : List Int) (hu : U64 xs) (hl : xs.length = 4 * n) (hn : n ≤ 1000000) (w : World) (hr : Rd .u64 w A xs) : Calls Tryz.prog 56 #[maskV W A n cap] w fun e w' => ∃ v, e = .returned v ∧ w'.ownsRow w.heap.size 110 4 v (kindsC xs n).length ((flatC (kindsC xs n)).map (Value.int .u64)) ∧ Kept w w' := by
  obtain ⟨i1, hif1, hy0, hy1, hy2⟩ := info_parts info_class
  have ka := kept_alloc (kept_refl w) (.cells #[.int .i64 W, .slice A n cap] 73)
  have hb := blk_new w (.cells #[.int .i64 W, .slice A n cap] 73)
  go_enter Tryz.func56, Tryz.ntmps56
  go_wp2_with fail
  go_loopw [3, 9] (fun v i wr => ∃ j : Nat, j ≤ n ∧ i = .int .i64 j ∧ wr.ownsRow w.heap.size 110 4 v (kindsC xs j).length ((flatC (kindsC xs j)).map (Value.int .u64)) ∧ Kept w wr) (fun _ i _ => n - (intOf i).toNat)
  case atStart => exact ⟨0, Nat.zero_le _, rfl, World.ownsRow_nil _ _ _ _, ka⟩
  case round =>
    clear ka hb
    obtain ⟨j, hj, rfl, hown, hkw⟩ := hrel
    have hkl := kindsC_le xs j
    have hfl := flatC_length (kindsC xs j)
    by_cases hlt : j < n
    · obtain ⟨A', cap', rfl, hc', rd'⟩ := ownN_rd hown hfl (by omega)
      have F := fun w1 => full_c w1
      have E := fun w1 => eqCl (cls xs j) fullv w1
      have C := fun w1 h => contains_c A' cap' (kindsC xs j).length (flatC (kindsC xs j)) (cls xs j) hfl w1 h
      obtain ⟨ad, rfl, d0, d1, d2, d3⟩ := (hr.kept hkw).cl hl hlt
      have hK1 := kindsC_full (xs := xs) (n := j)
      have hK2 := kindsC_in (xs := xs) (n := j)
      have hK3 := fun h h2 => by have := kindsC_new (xs := xs) (n := j) h h2; have h3 := congrArg flatC this; rw [flatC_append] at h3; exact (⟨congrArg List.length this, h3⟩ : _ ∧ _)
      rw [List.length_append] at hK3
      have HK1 := Lib.hid hK1
      have HK2 := Lib.hid hK2
      have HK3 := Lib.hid hK3
      clear hK1 hK2 hK3
      generalize decide (cls xs j = fullv) = b at *
      generalize contv (flatC (kindsC xs j)) (kindsC xs j).length (cls xs j) = cv at *
      have hbase := hkw.size
      generalize hx : cls xs j = x at *
      clear hx
      have kb := kept_alloc (kept_refl wr) x.cells
      have hb := blk_new wr x.cells
      have HC := Lib.hid (rfl : clL x = clL x)
      obtain ⟨x0, x1, x2, x3⟩ := x
      dsimp only [Cl.v, fullv, Cl.cells] at d0 d1 d2 d3 E F C kb hb
      have c0 := blk_cell hb 0
      have c1 := blk_cell hb 1
      have c2 := blk_cell hb 2
      have c3 := blk_cell hb 3
      generalize hmm : (kindsC xs j).length = m at *
      generalize hff : flatC (kindsC xs j) = fl at *
      have HM := Lib.hid (⟨hmm, hff⟩ : _ ∧ _)
      clear hmm hff
      have rdb := rd'.kept kb
      cases b
      · go_wp2_with fail
        have ks_0 := fun s => kw_cell s c0
        have ks_1 := fun s => kw_cell s c1
        have ks_2 := fun s => kw_cell s c2
        have ks_3 := fun s => kw_cell s c3
        refine wp_region_kept (by kernel_rfl) (by kernel_rfl) ?_
        repeat (first | go_big_quiet_skip | (go_big_quiet_want; go_big_quiet_op; first | go_big_quiet_on | (apply Exists.intro; refine ⟨fun s => ?_, ?_⟩; (first | (go_at_call 95; exact call_kept (F _)) | (go_at_call 45; exact call_kept (C _ (rdb.kept s.kept)))); go_big_quiet_on)))
        refine wpQuiet_nil ?_
        rintro w7 ⟨⟨_, hk7⟩, rfl⟩
        clear ks_0 ks_1 ks_2 ks_3 c0 c1 c2 c3 E F C rdb
        have hbk := kept_trans kb hk7
        replace hkw := kept_trans hkw hbk
        replace hb := blk_kept hk7 hb
        have own7 := rowKept hown hbk
        have hs7 : w.heap.size ≤ w7.heap.size := hkw.size
        cases cv
        · obtain ⟨hK3a, hK3b⟩ := HK3.out (by first | rfl | trivial) (by first | rfl | trivial)
          have HKA := Lib.hid hK3a
          have HKB := Lib.hid hK3b
          clear HK1 HK2 HK3 hK3a hK3b d0 d1 d2 d3 kb hbk hown
          have c0 : w7.cell? ⟨wr.heap.size, 0, none⟩ = some (.int .u64 x0) := blk_cell hb 0
          have c1 : w7.cell? ⟨wr.heap.size, 1, none⟩ = some (.int .u64 x1) := blk_cell hb 1
          have c2 : w7.cell? ⟨wr.heap.size, 2, none⟩ = some (.int .u64 x2) := blk_cell hb 2
          have c3 : w7.cell? ⟨wr.heap.size, 3, none⟩ = some (.int .u64 x3) := blk_cell hb 3
          go_wp2_with (at_builtin; refine wpList_append_lies _ rfl _ _ 59 rfl w.heap.size 110 i1 _ 4 32 Tryz.underlying59 hif1 hy0 hy1 hy2 rfl (by decide) _ _ _ rfl (own7.alloc _) ⟨w7.heap.size, 0, none⟩ 1 1 [.int .u64 x0, .int .u64 x1, .int .u64 x2, .int .u64 x3] rfl rfl ?c1 ?c2 ?c3 ?c4 ?c5 ?c6 (w7.heap.size + 1) ?c7 ?_)
          case c1 => exact World.news_of_block (cs := #[.int .u64 x0, .int .u64 x1, .int .u64 x2, .int .u64 x3]) (t := 110) (fr := (0, 0)) (heap_alloc_new w7 _)
          case c2 => simp [Value.oneCell']
          case c3 => decide
          case c4 => unfold maxLen; omega
          case c5 => omega
          case c6 => simp; omega
          case c7 => simp
          intro g capn wn own9 hgrow hat hlt9
          have K9 := kept_grown (kept_alloc hkw _) (own7.alloc _) (Nat.le_refl _) hgrow
          have own10 : wn.ownsRow w.heap.size 110 4 (.slice (some ⟨g, 0, none⟩) (m + 1) capn) (kindsC xs (j + 1)).length ((flatC (kindsC xs (j + 1))).map (Value.int .u64)) := by
            rw [HKA.out, HKB.out, List.map_append]; exact own9
          clear own7 own9 hgrow hat hlt9 hkw c0 c1 c2 c3 hb HKA HKB hif1 hy0 hy1 hy2
          go_wp2_with fail
          exact ⟨⟨j + 1, by omega, by go_num, own10, K9⟩, by simp [intOf]; omega⟩
        · have hK2 := HK2.out (by first | rfl | trivial) (by first | rfl | trivial)
          have HO := Lib.hid (⟨hK2, own7⟩ : _ ∧ _)
          clear HK1 HK2 HK3 hK2 d0 d1 d2 d3 kb hbk hown hb own7
          go_wp2_with fail
          exact ⟨⟨j + 1, by omega, by go_num, by rw [HO.out.1, HM.out.1, HM.out.2]; exact HO.out.2, hkw⟩, by simp [intOf]; omega⟩
      · go_wp2_with fail
        have ks_0 := fun s => kw_cell s c0
        have ks_1 := fun s => kw_cell s c1
        have ks_2 := fun s => kw_cell s c2
        have ks_3 := fun s => kw_cell s c3
        refine wp_region_kept (by kernel_rfl) (by kernel_rfl) ?_
        repeat (first | go_big_quiet_skip | (go_big_quiet_want; go_big_quiet_op; first | go_big_quiet_on | (apply Exists.intro; refine ⟨fun s => ?_, ?_⟩; (first | (go_at_call 95; exact call_kept (F _))); go_big_quiet_on)))
        refine wpQuiet_nil ?_
        rintro w7 ⟨⟨_, hk7⟩, rfl⟩
        clear ks_0 ks_1 ks_2 ks_3 c0 c1 c2 c3 E F C rdb
        have hbk := kept_trans kb hk7
        replace hkw := kept_trans hkw hbk
        have own7 := rowKept hown hbk
        have hK1 := HK1.out (by first | rfl | trivial)
        have HO := Lib.hid (⟨hK1, own7⟩ : _ ∧ _)
        clear HK1 HK2 HK3 hK1 d0 d1 d2 d3 kb hbk hown hb own7
        go_wp2_with fail
        exact ⟨⟨j + 1, by omega, by go_num, by rw [HO.out.1, HM.out.1, HM.out.2]; exact HO.out.2, hkw⟩, by simp [intOf]; omega⟩
    · obtain rfl : j = n := by omega
      go_wp2_with fail
      go_ret
      exact ⟨_, rfl, hown, hkw⟩
end Go.Proofs.YtdejablhpljdfaaGreat
