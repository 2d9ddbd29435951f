/-
  Texts of one claim, joined: TSymb2, WWild1, WWild2, WWild3, WildP.
-/
import Derived.Laws.AppendOwnNone
import Derived.Laws.IdiomStrings
import Derived.Test.YtdejablhpljdfaaGreatQ14
import Derived.Test.YtdejablhpljdfaaGreatQ13
import Derived.Test.YtdejablhpljdfaaGreatQ10
import Derived.Test.YtdejablhpljdfaaGreatQ05
namespace Go.Proofs.YtdejablhpljdfaaGreat
open Go.RowKit BG
attribute [local go_sem] Oper.semAt_some
attribute [local go_sem ↓] Go.wp_at_zero Go.wp_at_succ
set_option linter.unusedVariables false
structure KpX (X : Nat → Prop) (W W' : World) : Prop where
  size : W.heap.size ≤ W'.heap.size
  same : ∀ (g : Nat) (o : Obj), W.heap[g]? = some o → o.isCells = true → ¬ X g → W'.heap[g]? = some o
theorem KpX.refl (X : Nat → Prop) (W : World) : KpX X W W := ⟨Nat.le_refl _, fun _ _ h _ _ => h⟩
theorem KpX.trans {X : Nat → Prop} {A B C : World} (h : KpX X A B) (k : KpX X B C) : KpX X A C := ⟨Nat.le_trans h.size k.size, fun g o a b c => k.same g o (h.same g o a b c) b c⟩
theorem KpX.of_kept {X : Nat → Prop} {A B : World} (h : Kept A B) : KpX X A B := ⟨h.size, fun g o a _ _ => blk_kept h a⟩
theorem kpX_b {X : Nat → Prop} {n0 : Nat} (W : World) (l : Nat) (o o' : Obj) (_ : n0 ≤ l) (h : W.heap[l]? = some o) (hc : o.isCells = false) (_ : o.isWalk = false) : KpX X W (W.putObj l o') :=
  ⟨by simp [World.putObj], fun g o2 a b c => by
    by_cases e : g = l
    · subst e; rw [h] at a; cases a; rw [hc] at b; cases b
    · exact (World.putObj_heap_other (by omega)).trans a⟩
theorem cell_cells {w : World} {a : Addr} {v : Value} (h : w.cell? a = some v) : ∃ o, w.heap[a.block]? = some o ∧ o.isCells = true := by
  unfold World.cell? at h
  cases e : w.heap[a.block]? with
  | none => rw [e] at h; simp at h
  | some o => rw [e] at h; cases o <;> first | exact ⟨_, rfl, rfl⟩ | (simp at h; done)
theorem KpX.cell {X : Nat → Prop} {W W' : World} (h : KpX X W W') {a : Addr} {v : Value} (hc : W.cell? a = some v) (hx : ¬ X a.block) : W'.cell? a = some v := by
  obtain ⟨o, ho, hi⟩ := cell_cells hc
  exact (World.cell?_of_block ((h.same _ _ ho hi hx).trans ho.symm)).trans hc
theorem add_block (ad : Addr) (j : Nat) : (ad.add j).block = ad.block := by unfold Addr.add; split <;> rfl
theorem Rd.kpx {X : Nat → Prop} {W W' : World} {k : IntKind} {A : Option Addr} {xs : List Int} (h : Rd k W A xs) (hk : KpX X W W') (hA : ∀ ad, A = some ad → ¬ X ad.block) : Rd k W' A xs :=
  ⟨h.1, fun h0 => by
    obtain ⟨ad, e, hc⟩ := h.2 h0
    exact ⟨ad, e, fun j hj => hk.cell (hc j hj) (by rw [add_block]; exact hA ad e)⟩⟩
abbrev KI (m : Nat) := BI m × (Option Addr × Nat)
def kencs (m L0 : Nat) (C0 : Int) (x : KI m) : Array Value := #[.slice x.2.1 L0 x.2.2, .int .i64 C0]
def kindR (X : Nat → Prop) (xs : List Int) (n : Nat) (s : ByteArray) (x : KI (kindsC xs n).length) (W : World) : Prop := Rd .u64 W x.2.1 (mk (s.size + 1 - n) fun i => ((hitN xs n s (cls (flatC (kindsC xs n)) x.1.1) i : Nat) : Int)) ∧ ∀ ad, x.2.1 = some ad → ¬ X ad.block
theorem own_ad {k : IntKind} {e : TypeId} {base n c : Nat} {w : World} {ad : Addr} {xs : List Int} (h : Own k e base w (.slice (some ad) n c) xs) : base ≤ ad.block := by
  rcases h.2 with ⟨h6, _⟩ | ⟨g, cap', cur, h6, hg, _⟩
  · cases h6
  · simp only [Value.slice.injEq] at h6; have := Option.some.inj h6.1; subst this; exact hg
theorem symkinds_c (A : Option Addr) (cap n : Nat) (xs : List Int) (K : Int) (s : ByteArray) (size : Int) (w : World) : Calls Tryz.prog 147 #[leafV A n cap K, .string s, .int .i64 size] w fun e w' => e = .returned (.func (.func 196) #[] #[.pointer (some ⟨w.heap.size, 0, none⟩), .pointer (some ⟨w.heap.size + 1, 0, none⟩), .pointer (some ⟨w.heap.size + 2, 0, none⟩)]) ∧ w'.heap[w.heap.size]? = some (.cells #[.slice A n cap, .int .i64 K] 61) ∧ w'.heap[w.heap.size + 1]? = some (.cells #[.string s] 9) ∧ w'.heap[w.heap.size + 2]? = some (.cells #[.int .i64 size] 3) ∧ Kept w w' := by
  go_enter Tryz.func147, Tryz.ntmps147
  go_wp2_with fail
  go_ret
  exact ⟨rfl, blk_alloc (blk_alloc (blk_new w (.cells #[.slice A n cap, .int .i64 K] 61)) _) _, blk_alloc (blk_new1 w (.cells #[.slice A n cap, .int .i64 K] 61) (.cells #[.string s] 9)) _, blk_new2 w (.cells #[.slice A n cap, .int .i64 K] 61) (.cells #[.string s] 9) (.cells #[.int .i64 size] 3), kept_alloc (kept_alloc (kept_alloc (kept_refl w) _) _) _⟩
set_option maxRecDepth 100000 in
set_option maxHeartbeats 8000000 in
theorem kinds_seqR (f B1 B2 B3 : Nat) (A : Option Addr) (cap n : Nat) (xs : List Int) (K : Int) (s : ByteArray) (size : Int) (hu : U64 xs) (hl : xs.length = 4 * n) (hn : n ≤ 1000000) (hsz : s.size ≤ 1000000) (hn1 : 1 ≤ n) (hn64 : n ≤ 64) (hz : n ≤ s.size → szb n size = true) (hf : 1 ≤ f) (X : Nat → Prop) (w : World) (hX : ∀ g, X g → g < w.heap.size) (x1 : ¬ X B1) (x2 : ¬ X B2) (x3 : ¬ X B3) (hA : ∀ ad, A = some ad → ¬ X ad.block) (hr : Rd .u64 w A xs) (h1 : w.heap[B1]? = some (.cells #[.slice A n cap, .int .i64 K] 61)) (h2 : w.heap[B2]? = some (.cells #[.string s] 9)) (h3 : w.heap[B3]? = some (.cells #[.int .i64 size] 3)) :
    SeqR Fence.wide f Tryz.prog 196 #[.pointer (some ⟨B1, 0, none⟩), .pointer (some ⟨B2, 0, none⟩), .pointer (some ⟨B3, 0, none⟩)] (kencs (kindsC xs n).length (s.size + 1 - n) (cntC n s.size size)) (kindR X xs n s) (KpX X) (fun ys => ys.map (fun x => x.1.1) = List.range (kindsC xs n).length) (kindsC xs n).length w := by
  intro l J W hW hJ hY h0
  have KN := fun w1 h => lkinds_c A cap n xs K hu hl hn w1 h
  have PL := fun x w1 h => plc_c A cap n xs K x hl hn w1 h
  have MK := fun x hx w1 => marks_c s x hx hsz w1
  have hBV := fun x => bval_hits (xs := xs) (n := n) (s := s) (x := x) (size := size) hn1 hn64 hsz hz
  have hku := kinds_u64 hu n
  have hfl := flatC_length (kindsC xs n)
  have hkl := kindsC_le xs n
  have hcl := flatC_cls (kindsC xs n)
  have e1 := blk_kept hW h1
  have e2 := blk_kept hW h2
  have e3 := blk_kept hW h3
  have C0 : W.cell? ⟨B1, 0, none⟩ = some (.slice A n cap) := blk_cell e1 0
  have C1 : W.cell? ⟨B1, 1, none⟩ = some (.int .i64 K) := blk_cell e1 1
  have hsw := hW.size
  have hrW := hr.kept hW
  unfold kindR at hY
  generalize kindsC xs n = ks at *
  have hKO : ∀ q, q < ks.length → (cls (flatC ks) q).ok := fun q hq => by rw [hcl q hq]; exact hku _ (List.getElem_mem _)
  clear hcl hku
  generalize hmm : ks.length = m at *
  clear hmm
  refine callsIn_of_wp Tryz.func196 rfl trivial ?_ rfl
  simp only [Tryz.ntmps196, List.size_toArray, List.length_cons, List.length_nil, Nat.reduceAdd, Nat.reduceSub, Array.replicate_succ, Array.replicate_zero, List.push_toArray, List.append_toArray, List.nil_append, List.cons_append]
  gi_wp2_with fail
  refine ⟨trivial, (callsIn_wide.2 (KN _ hrW)).mono ?_⟩
  rintro e W1 ⟨vk, rfl, ownk, hk1⟩
  obtain ⟨AK, ck, rfl, hck, rdk⟩ := ownN_rd ownk hfl (by omega)
  have hXk : ∀ ad, AK = some ad → ¬ X ad.block := fun ad e hx => by
    have h5 := hX _ hx
    rcases ownk.2 with ⟨h6, _⟩ | ⟨g, cap', cur, h6, hg, _⟩
    · simp only [Value.slice.injEq] at h6; rw [e] at h6; cases h6.1
    · simp only [Value.slice.injEq] at h6; rw [e] at h6; have := Option.some.inj h6.1; subst this; dsimp only at h5; omega
  have hj0 : J [] W1 := hJ [] W W1 none h0 ⟨hk1.os, hk1.tape, hk1.output, hk1.size, fun i hi _ => hk1.block i hi⟩ (by rintro k h; cases h)
  replace e1 := blk_kept hk1 e1
  replace e2 := blk_kept hk1 e2
  replace e3 := blk_kept hk1 e3
  have hsw1 : W.heap.size ≤ W1.heap.size := hk1.size
  have hr1 := hrW.kept hk1
  clear KN C0 C1 hrW h0 ownk hr h1 h2 h3 hW
  gi_wp2_with fail
  gi_loopw [13] (fun p wr => ∃ q : Nat, q ≤ m ∧ p = .int .i64 ((q : Nat) : Int) ∧ KpX X W1 wr ∧ ∃ ys : List (KI m), ys.map (fun x => x.1.1) = List.range q ∧ J ys wr) (fun p _ => m - (intOf p).toNat)
  case atStart => exact ⟨0, Nat.zero_le _, by simp, KpX.refl _ _, [], rfl, hj0⟩
  case round =>
    obtain ⟨q, hq, rfl, hk, ys, hys, hj⟩ := hrel
    by_cases hlt : q < m
    · have r1 := hk.same _ _ e1 rfl x1
      have r2 := hk.same _ _ e2 rfl x2
      have r3 := hk.same _ _ e3 rfl x3
      have hrr := hr1.kpx hk hA
      obtain ⟨ad, hAK, d0, d1, d2, d3⟩ := (rdk.kpx hk hXk).cl hfl hlt
      have ho := hKO q hlt
      have PL := PL (cls (flatC ks) q)
      have MK := MK (cls (flatC ks) q) ho
      obtain ⟨hb1, hb2⟩ := hBV (cls (flatC ks) q)
      have hpl := plcv_len xs n (cls (flatC ks) q)
      have hml := marksv_len s (cls (flatC ks) q)
      have hpu : U64 (plcv xs n (cls (flatC ks) q)) := (small_row (rowN_small xs 1 1 _ n n)).1
      have hmu : U64 (marksv s (cls (flatC ks) q)) := (small_row (marksv_small s _)).1
      have CR := fun A B ca cb hcb w1 (a : Rd .u64 w1 A (plcv xs n (cls (flatC ks) q))) (b : Rd .u64 w1 B (marksv s (cls (flatC ks) q))) => correlate_c5 A B ca cb _ _ size hpu hmu (by rw [hpl]; omega) (by rw [hml]; omega) hcb w1 a b
      rw [hb1, hb2, hpl, hml] at CR
      have hY := fun Ad cp => hY ys (⟨q, hlt⟩, Ad, cp)
      dsimp only at hY
      have hylen : ys.length = q := by have := congrArg List.length hys; simpa using this
      have HYS := Lib.hid hys
      subst hAK
      have hhl : (mk (s.size + 1 - n) fun i => ((hitN xs n s (cls (flatC ks) q) i : Nat) : Int)).length = s.size + 1 - n := mk_length _ _
      unfold Ans3 at CR
      rw [hhl] at CR
      clear hKO hBV hb1 hb2 hpu hmu hys
      generalize (mk (s.size + 1 - n) fun i => ((hitN xs n s (cls (flatC ks) q) i : Nat) : Int)) = hv at *
      generalize berrv (plcv xs n (cls (flatC ks) q)) (marksv s (cls (flatC ks) q)) size = ber at *
      generalize plcv xs n (cls (flatC ks) q) = pv at *
      generalize marksv s (cls (flatC ks) q) = mv at *
      generalize cls (flatC ks) q = x at *
      have kx := kept_alloc (kept_refl wr) x.cells
      have hbx := blk_new wr x.cells
      have r1 := blk_alloc r1 x.cells
      have r2 := blk_alloc r2 x.cells
      have r3 := blk_alloc r3 x.cells
      obtain ⟨z0, z1, z2, z3⟩ := x
      dsimp only [Cl.v, Cl.cells] at d0 d1 d2 d3 kx hbx r1 r2 r3 PL MK
      gi_wp2_with fail
      generalize hWx : wr.alloc (.cells #[.int .u64 z0, .int .u64 z1, .int .u64 z2, .int .u64 z3] 110) = Wx at *
      have c0 : Wx.cell? ⟨B1, 0, none⟩ = some (.slice A n cap) := blk_cell r1 0
      have c1 : Wx.cell? ⟨B1, 1, none⟩ = some (.int .i64 K) := blk_cell r1 1
      have c2 : Wx.cell? ⟨B2, 0, none⟩ = some (.string s) := blk_cell r2 0
      have c3 : Wx.cell? ⟨B3, 0, none⟩ = some (.int .i64 size) := blk_cell r3 0
      have q0 : Wx.cell? ⟨wr.heap.size, 0, none⟩ = some (.int .u64 z0) := blk_cell hbx 0
      have q1 : Wx.cell? ⟨wr.heap.size, 1, none⟩ = some (.int .u64 z1) := blk_cell hbx 1
      have q2 : Wx.cell? ⟨wr.heap.size, 2, none⟩ = some (.int .u64 z2) := blk_cell hbx 2
      have q3 : Wx.cell? ⟨wr.heap.size, 3, none⟩ = some (.int .u64 z3) := blk_cell hbx 3
      have kr := kept_refl Wx
      have hrr := hrr.kept kx
      refine wpIn_wide.2 ?_
      go_region_held3 (fun w' => w'.cell? ⟨B1, 0, none⟩ = some (.slice A n cap) ∧ w'.cell? ⟨B1, 1, none⟩ = some (.int .i64 K) ∧ w'.cell? ⟨B2, 0, none⟩ = some (.string s) ∧ w'.cell? ⟨B3, 0, none⟩ = some (.int .i64 size) ∧ w'.cell? ⟨wr.heap.size, 0, none⟩ = some (.int .u64 z0) ∧ w'.cell? ⟨wr.heap.size, 1, none⟩ = some (.int .u64 z1) ∧ w'.cell? ⟨wr.heap.size, 2, none⟩ = some (.int .u64 z2) ∧ w'.cell? ⟨wr.heap.size, 3, none⟩ = some (.int .u64 z3)) (first | exact ⟨by assumption, by assumption, by assumption, by assumption, by assumption, by assumption, by assumption, by assumption⟩ | exact ⟨kept_cell hk3 c0, kept_cell hk3 c1, kept_cell hk3 c2, kept_cell hk3 c3, kept_cell hk3 q0, kept_cell hk3 q1, kept_cell hk3 q2, kept_cell hk3 q3⟩ | exact ⟨kept_cell hk2 c0, kept_cell hk2 c1, kept_cell hk2 c2, kept_cell hk2 c3, kept_cell hk2 q0, kept_cell hk2 q1, kept_cell hk2 q2, kept_cell hk2 q3⟩ | exact ⟨kept_cell hk1 c0, kept_cell hk1 c1, kept_cell hk1 c2, kept_cell hk1 c3, kept_cell hk1 q0, kept_cell hk1 q1, kept_cell hk1 q2, kept_cell hk1 q3⟩) (first | (go_at_call 151; refine (PL _ (hrr.kept (kept_drew kr))).mono ?_; rintro e w1 ⟨v1, rfl, own1, hk1⟩; replace hk1 := kept_trans (kept_drew kr) hk1; obtain ⟨A1, cp1, hv1, _, _, rd1⟩ := own1.rd; rw [hpl] at hv1; subst hv1) | (go_at_call 58; refine (MK _).mono ?_; rintro e w2 ⟨v2, rfl, own2, hk2⟩; replace rd1 := rd1.kept hk2; replace hk2 := kept_trans hk1 hk2; obtain ⟨A2, cp2, hv2, hcp2, _, rd2⟩ := own2.rd; rw [hml] at hv2 hcp2; subst hv2) | (go_at_call 57; refine (CR A1 A2 cp1 cp2 hcp2 _ rd1 rd2).mono ?_; rintro e w3 ⟨A3, cp3, rfl, rd3, hk3, _, _, own3⟩; have hXa : ∀ ad, A3 = some ad → ¬ X ad.block := (fun ad e hx => by (subst e; have h7 := own_ad own3; have h8 := hX _ hx; have h9 := hk2.size; have h10 := kx.size; have h11 := hk.size; omega)); replace hk3 := kept_trans hk2 hk3))
      have kr3 : Kept wr _ := kept_trans kx hk3
      have hJ3 : J ys _ := hJ ys wr _ none hj ⟨kr3.os, kr3.tape, kr3.output, kr3.size, fun i hi _ => kr3.block i hi⟩ (by rintro k h; cases h)
      have hY := hY A3 cp3 _ hJ3 ⟨rd3, hXa⟩ (by omega)
      unfold kencs at hY
      dsimp only at hY
      have hk3' := KpX.trans hk (KpX.of_kept kr3)
      clear hJ3 c0 c1 c2 c3 q0 q1 q2 q3 PL MK CR hk1 hk2 hk3 kr hrr kx rd1 rd2 rd3 kr3 hj
      obtain ⟨fn, tmps, assign, body, hy, hR⟩ := hY
      gi_wp2
      refine hR.mono ?_
      rintro e W3 ⟨rfl, hJ4, hk4⟩
      have hk5 := KpX.trans hk3' hk4
      gi_wp2
      exact ⟨⟨q + 1, by omega, by go_num, hk5, ys ++ [(⟨q, hlt⟩, A3, cp3)], by rw [List.map_append, HYS.out, List.range_succ]; rfl, hJ4⟩, by simp [intOf]; omega⟩
    · obtain rfl : q = m := by omega
      gi_wp2
      go_end0
      exact ⟨⟨_, rfl⟩, ys, hys, hj⟩
end Go.Proofs.YtdejablhpljdfaaGreat
namespace Go.Proofs.YtdejablhpljdfaaGreat
open Go.RowKit BG
attribute [local go_sem ↓] Go.wp_at_zero Go.wp_at_succ
set_option linter.unusedVariables false
def valv (x : Cl) : Nat := if (sgl x).2 = true then (sgl x).1 + 1 else 0
theorem valv_le (x : Cl) : valv x ≤ 256 := by
  have := sgl_lt x
  unfold valv; split <;> omega
def cube (v : Nat) : Int := (v : Int) * (v : Int) * (v : Int)
theorem cube_bd {v : Nat} (h : v ≤ 256) : 0 ≤ cube v ∧ cube v ≤ 16777216 := by
  have h1 : v * v ≤ 256 * 256 := Nat.mul_le_mul h h
  have h2 : v * v * v ≤ 256 * 256 * 256 := Nat.mul_le_mul h1 h
  have e : cube v = ((v * v * v : Nat) : Int) := by unfold cube; rw [Int.natCast_mul, Int.natCast_mul]
  rw [e]
  omega
def wtT (xs : List Int) (j : Nat) : Int := sumTo j fun q => cube (valv (cls xs q))
def weightv (xs : List Int) (n : Nat) : Int := wtT xs n
theorem wtT_succ (xs : List Int) (j : Nat) : wtT xs (j + 1) = wtT xs j + cube (valv (cls xs j)) := rfl
theorem wtT_bd (xs : List Int) : ∀ j, 0 ≤ wtT xs j ∧ wtT xs j ≤ 16777216 * (j : Int) := by
  intro j
  induction j with
  | zero => exact ⟨Int.le_refl 0, Int.le_refl 0⟩
  | succ j ih =>
    have := cube_bd (valv_le (cls xs j))
    rw [wtT_succ]
    omega
set_option maxHeartbeats 2000000 in
theorem value_c (x : Cl) (hx : x.ok) (w : World) : Calls Tryz.prog 190 #[x.v] w (Ret (.int .u64 (valv x : Nat)) w) := by
  have S := single_c x hx
  have hs := sgl_lt x
  unfold valv
  have hb := cl_cells (blk_new w x.cells)
  have ka := kept_alloc (kept_refl w) x.cells
  generalize sgl x = sg at *
  obtain ⟨s1, s2⟩ := sg
  obtain ⟨x0, x1, x2, x3⟩ := x
  dsimp only [Cl.v, Cl.cells] at hb ka S hs ⊢
  obtain ⟨c0, c1, c2, c3⟩ := hb
  cases s2
  · rw [if_neg (by decide)]
    go_enter Tryz.func190, Tryz.ntmps190
    go_wp2_with fail
    refine (S _).mono ?_
    rintro e w1 ⟨rfl, hk1⟩
    clear S c0 c1 c2 c3
    go_wp2_with fail
    go_ret
    exact ⟨rfl, kept_trans ka hk1⟩
  · rw [if_pos rfl]
    go_enter Tryz.func190, Tryz.ntmps190
    go_wp2_with fail
    refine (S _).mono ?_
    rintro e w1 ⟨rfl, hk1⟩
    clear S c0 c1 c2 c3
    go_wp2_with fail
    go_ret
    exact ⟨by simp, kept_trans ka hk1⟩
set_option maxRecDepth 100000 in
set_option maxHeartbeats 4000000 in
theorem weight_c (A : Option Addr) (cap n : Nat) (xs : List Int) (K : Int) (hu : U64 xs) (hl : xs.length = 4 * n) (hn : n ≤ 1000000) (w : World) (hr : Rd .u64 w A xs) : Calls Tryz.prog 194 #[leafV A n cap K] w (Ret (.int .u64 (weightv xs n)) w) := by
  have hm := hr.1
  have hb := blk_new w (.cells #[.slice A n cap, .int .i64 K] 61)
  have ka := kept_alloc (kept_refl w) (.cells #[.slice A n cap, .int .i64 K] 61)
  have V := fun j w1 => value_c (cls xs j) (cls_ok hu j) w1
  have hs := wtT_succ xs
  have hbd := wtT_bd xs
  have hv := fun j => valv_le (cls xs j)
  have h0 : wtT xs 0 = 0 := rfl
  have HS := Lib.hid hs
  have HB := Lib.hid hbd
  have H0 := Lib.hid h0
  unfold weightv
  clear hs hbd h0
  generalize wtT xs = wt at *
  go_enter Tryz.func194, Tryz.ntmps194
  go_wp2_with fail
  go_loopw [3, 10] (fun v iv wr => ∃ j : Nat, j ≤ n ∧ iv = .int .i64 j ∧ v = .int .u64 (wt j) ∧ wr.heap[w.heap.size]? = some (.cells #[.slice A n cap, .int .i64 K] 61 (0, 0)) ∧ Kept w wr) (fun _ iv _ => n - (intOf iv).toNat)
  case atStart => exact ⟨0, Nat.zero_le _, rfl, by rw [H0.out], hb, ka⟩
  case round =>
    clear hb ka
    obtain ⟨j, hj, rfl, rfl, hb, hkw⟩ := hrel
    have c0 : wr.cell? ⟨w.heap.size, 0, none⟩ = some (.slice A n cap) := blk_cell hb 0
    by_cases hlt : j < n
    · have V := V j
      have hv := hv j
      have hs := HS.out j
      have hbj := HB.out j
      have hc := cube_bd hv
      obtain ⟨ad, rfl, d0, d1, d2, d3⟩ := (hr.kept hkw).cl hl hlt
      have HS2 := Lib.hid hs
      have hcu : (valv (cls xs j) : Int) * (valv (cls xs j) : Int) * (valv (cls xs j) : Int) = cube (valv (cls xs j)) := rfl
      have hsq : 0 ≤ (valv (cls xs j) : Int) * (valv (cls xs j) : Int) ∧ (valv (cls xs j) : Int) * (valv (cls xs j) : Int) ≤ 65536 := by
        have h1 : valv (cls xs j) * valv (cls xs j) ≤ 256 * 256 := Nat.mul_le_mul hv hv
        have e : (valv (cls xs j) : Int) * (valv (cls xs j) : Int) = ((valv (cls xs j) * valv (cls xs j) : Nat) : Int) := (Int.natCast_mul _ _).symm
        rw [e]; omega
      clear HS HB H0 hs
      generalize cube (valv (cls xs j)) = cu at *
      generalize valv (cls xs j) = vl at *
      generalize cls xs j = x at *
      generalize wt j = t at *
      have wr1 : IntKind.u64.wrap ((vl : Int) * (vl : Int)) = (vl : Int) * (vl : Int) := by rw [IntKind.wrap_u64]; omega
      have wr2 : IntKind.u64.wrap ((vl : Int) * (vl : Int) * (vl : Int)) = cu := by rw [hcu, IntKind.wrap_u64]; omega
      have wr3 : IntKind.u64.wrap (t + cu) = t + cu := by rw [IntKind.wrap_u64]; omega
      obtain ⟨x0, x1, x2, x3⟩ := x
      dsimp only [Cl.v] at d0 d1 d2 d3 V
      have hkb := kept_alloc (kept_refl wr) (.cells #[.int .u64 x0, .int .u64 x1, .int .u64 x2, .int .u64 x3] 110)
      have HW1 := Lib.hid wr1
      have HW2 := Lib.hid wr2
      have HW3 := Lib.hid wr3
      clear hcu hsq wr1 wr2 wr3
      go_wp2_with fail
      refine (V _).mono ?_
      rintro e w1 ⟨rfl, hk1⟩
      replace hb := blk_kept (kept_trans hkb hk1) hb
      replace hkw := kept_trans hkw (kept_trans hkb hk1)
      clear V d0 d1 d2 d3 c0 hkb
      go_wp2_with fail
      exact ⟨⟨j + 1, by omega, by go_num, by rw [HW1.out, HW2.out, HW3.out, HS2.out], hb, hkw⟩, by simp [intOf]; omega⟩
    · obtain rfl : j = n := by omega
      clear V HS HB H0 hv
      go_wp2_with fail
      go_ret
      exact ⟨rfl, hkw⟩
end Go.Proofs.YtdejablhpljdfaaGreat
namespace Go.Proofs.YtdejablhpljdfaaGreat
open Go.RowKit BG
attribute [local go_sem ↓] Go.wp_at_zero Go.wp_at_succ
set_option linter.unusedVariables false
theorem power_c2 (w : World) : Calls Tryz.prog 187 #[.int .i64 2] w fun e w' => e = .returned (.func (.func 188) #[] #[.pointer (some ⟨w.heap.size, 0, none⟩)]) ∧ w'.cell? ⟨w.heap.size, 0, none⟩ = some (.int .i64 2) ∧ Kept w w' := by
  go_enter Tryz.func187, Tryz.ntmps187
  go_wp2_with fail
  go_ret
  exact ⟨rfl, blk_cell (blk_new w (.cells #[.int .i64 2] 3)) 0, kept_alloc (kept_refl w) _⟩
theorem square_c (v : Int) (h0 : 0 ≤ v) (h1 : v ≤ 65536) (g : Nat) (w : World) (hc : w.cell? ⟨g, 0, none⟩ = some (.int .i64 2)) : Calls Tryz.prog 188 #[.int .u64 v, .pointer (some ⟨g, 0, none⟩)] w (Ret (.int .u64 (v * v)) w) := by
  have hs : 0 ≤ v * v ∧ v * v ≤ 4294967296 := by
    refine ⟨Int.mul_nonneg h0 h0, ?_⟩
    have := Int.mul_le_mul h1 h1 h0 (by decide)
    exact Int.le_trans this (by decide)
  have w1 : IntKind.u64.wrap (v * v) = v * v := by rw [IntKind.wrap_u64]; omega
  have w2 : IntKind.u64.wrap v = v := by rw [IntKind.wrap_u64]; omega
  have W1 := Lib.hid w1
  have W2 := Lib.hid w2
  clear w1 w2 hs
  go_enter Tryz.func188, Tryz.ntmps188
  go_wp2_with fail
  refine wp_loop_rounds 3 ?_
  rw [rounds_succ]
  go_wp2_with fail
  rw [rounds_succ]
  go_wp2_with fail
  rw [rounds_succ]
  go_wp2_with fail
  go_ret
  exact ⟨by first | rfl | (show Ending.returned (Value.int .u64 _) = _; rw [W1.out]) | (show Ending.returned (Value.int .u64 _) = _; rw [W2.out, W1.out]), kept_refl _⟩
theorem next_c (b : Int) (h0 : 0 ≤ b) (h1 : b ≤ 255) (w : World) : Calls Tryz.prog 192 #[.int .u8 b] w (Ret (.int .u64 (b + 1)) w) := by
  go_enter Tryz.func192, Tryz.ntmps192
  go_wp2_with fail
  go_ret
  exact ⟨rfl, kept_refl _⟩
set_option maxRecDepth 100000 in
set_option maxHeartbeats 4000000 in
theorem madeC_c (A : Option Addr) (cap n : Nat) (xs : List Int) (hu : U64 xs) (hl : xs.length = 4 * n) (hn : n ≤ 1000000) (w : World) (hr : Rd .u64 w A xs) : Calls Tryz.prog 189 #[.slice A n cap, .func (.func 190) #[] #[]] w fun e w' => ∃ v, e = .returned v ∧ (Own .u64 108 w.heap.size w' v (mk n fun j => (valv (cls xs j) : Int)) ∧ Kept w w') := by
  obtain ⟨i1, hif1, hy0, hy1, hy2⟩ := info_parts info_u64
  have hm := hr.1
  have hsu := fun j => mk_succ j fun j => (valv (cls xs j) : Int)
  have HSU := Lib.hid hsu
  clear hsu
  go_enter Tryz.func189, Tryz.ntmps189
  go_wp2_with fail
  go_loopw [5, 10] (fun v iv wr => ∃ j : Nat, j ≤ n ∧ iv = .int .i64 j ∧ Own .u64 108 w.heap.size wr v (mk j fun j => (valv (cls xs j) : Int)) ∧ Kept w wr) (fun _ iv _ => n - (intOf iv).toNat)
  case atStart => exact ⟨0, Nat.zero_le _, rfl, Own.nil _ _ _ _, kept_refl _⟩
  case round =>
    obtain ⟨j, hj, rfl, hown, hkw⟩ := hrel
    by_cases hlt : j < n
    · obtain ⟨ad, rfl, d0, d1, d2, d3⟩ := (hr.kept hkw).cl hl hlt
      have V := value_c (cls xs j) (cls_ok hu j)
      have hvl := valv_le (cls xs j)
      have hown2 : World.ownsRow _ _ _ _ _ _ _ := hown
      rw [mk_length] at hown2
      have HS := Lib.hid (HSU.out j)
      clear HSU
      generalize valv (cls xs j) = vl at *
      generalize cls xs j = x at *
      obtain ⟨x0, x1, x2, x3⟩ := x
      dsimp only [Cl.v] at d0 d1 d2 d3 V
      have hkb := kept_alloc (kept_refl wr) (.cells #[.int .u64 x0, .int .u64 x1, .int .u64 x2, .int .u64 x3] 110)
      go_wp2_with fail
      refine (V _).mono ?_
      rintro e w1 ⟨rfl, hk1⟩
      replace hk1 := kept_trans hkb hk1
      replace hown2 := rowKept hown2 hk1
      replace hkw := kept_trans hkw hk1
      have hbase := hkw.size
      clear hown hk1 V d0 d1 d2 d3 hkb
      go_wp2_with (at_builtin; refine wpList_append_own _ rfl _ _ 123 rfl w.heap.size 108 i1 (.int .u64 0) 1 8 Tryz.underlying123 hif1 hy0 hy1 hy2 rfl (by decide) _ _ _ rfl (hown2.alloc _) ⟨w1.heap.size, 0, none⟩ 1 1 [.int .u64 (vl : Int)] rfl rfl ?c1 ?c2 ?c3 ?c4 ?c5 ?_)
      case c1 =>
        intro q u hq
        match q, hq with
        | 0, hq => simp at hq; subst hq; simp [Addr.add]
      case c2 => intro u hu; simp at hu; subst hu; rfl
      case c3 => unfold maxLen; omega
      case c4 => omega
      case c5 => simp; omega
      · intro v' w5 hown' hgrow _
        have o5 : Own .u64 108 w.heap.size w5 v' (mk (j + 1) fun j => (valv (cls xs j) : Int)) := by
          unfold Own
          rw [mk_length, HS.out, List.map_append]
          exact hown'
        have K5 := kept_grown (kept_alloc hkw _) (hown2.alloc _) (Nat.le_refl _) hgrow
        clear hown' hgrow hown2
        go_wp2_with fail
        exact ⟨⟨j + 1, by omega, by go_num, o5, K5⟩, by simp [intOf]; omega⟩
    · obtain rfl : j = n := by omega
      clear HSU
      go_wp2_with fail
      go_ret
      exact ⟨_, rfl, hown, hkw⟩
set_option maxRecDepth 100000 in
set_option maxHeartbeats 4000000 in
theorem madeB_c (A : Option Addr) (cap n : Nat) (ys : List Int) (hu : ∀ j, 0 ≤ nth ys j ∧ nth ys j ≤ 255) (hl : ys.length = n) (hn : n ≤ 1000000) (w : World) (hr : Rd .u8 w A ys) : Calls Tryz.prog 191 #[.slice A n cap, .func (.func 192) #[] #[]] w fun e w' => ∃ v, e = .returned v ∧ (Own .u64 108 w.heap.size w' v (mk n fun j => nth ys j + 1) ∧ Kept w w') := by
  obtain ⟨i1, hif1, hy0, hy1, hy2⟩ := info_parts info_u64
  have hm := hr.1
  have hsu := fun j => mk_succ j fun j => nth ys j + 1
  have HSU := Lib.hid hsu
  clear hsu
  go_enter Tryz.func191, Tryz.ntmps191
  go_wp2_with fail
  go_loopw [5, 10] (fun v iv wr => ∃ j : Nat, j ≤ n ∧ iv = .int .i64 j ∧ Own .u64 108 w.heap.size wr v (mk j fun j => nth ys j + 1) ∧ Kept w wr) (fun _ iv _ => n - (intOf iv).toNat)
  case atStart => exact ⟨0, Nat.zero_le _, rfl, Own.nil _ _ _ _, kept_refl _⟩
  case round =>
    obtain ⟨j, hj, rfl, hown, hkw⟩ := hrel
    by_cases hlt : j < n
    · obtain ⟨ad, rfl, d0⟩ := (hr.kept hkw).at_ (j := j) (by omega)
      have V := next_c (nth ys j) (hu j).1 (hu j).2
      have hvl := hu j
      have hown2 : World.ownsRow _ _ _ _ _ _ _ := hown
      rw [mk_length] at hown2
      have HS := Lib.hid (HSU.out j)
      clear HSU
      generalize nth ys j = y at *
      go_wp2_with fail
      refine (V _).mono ?_
      rintro e w1 ⟨rfl, hk1⟩
      replace hown2 := rowKept hown2 hk1
      replace hkw := kept_trans hkw hk1
      have hbase := hkw.size
      clear hown hk1 V d0
      go_wp2_with (at_builtin; refine wpList_append_own _ rfl _ _ 123 rfl w.heap.size 108 i1 (.int .u64 0) 1 8 Tryz.underlying123 hif1 hy0 hy1 hy2 rfl (by decide) _ _ _ rfl (hown2.alloc _) ⟨w1.heap.size, 0, none⟩ 1 1 [.int .u64 (y + 1)] rfl rfl ?c1 ?c2 ?c3 ?c4 ?c5 ?_)
      case c1 =>
        intro q u hq
        match q, hq with
        | 0, hq => simp at hq; subst hq; simp [Addr.add]
      case c2 => intro u hu; simp at hu; subst hu; rfl
      case c3 => unfold maxLen; omega
      case c4 => omega
      case c5 => simp; omega
      · intro v' w5 hown' hgrow _
        have o5 : Own .u64 108 w.heap.size w5 v' (mk (j + 1) fun j => nth ys j + 1) := by
          unfold Own
          rw [mk_length, HS.out, List.map_append]
          exact hown'
        have K5 := kept_grown (kept_alloc hkw _) (hown2.alloc _) (Nat.le_refl _) hgrow
        clear hown' hgrow hown2
        go_wp2_with fail
        exact ⟨⟨j + 1, by omega, by go_num, o5, K5⟩, by simp [intOf]; omega⟩
    · obtain rfl : j = n := by omega
      clear HSU
      go_wp2_with fail
      go_ret
      exact ⟨_, rfl, hown, hkw⟩
set_option maxRecDepth 100000 in
set_option maxHeartbeats 4000000 in
theorem madeU_c (A : Option Addr) (cap n g : Nat) (ys : List Int) (hu : ∀ j, 0 ≤ nth ys j ∧ nth ys j ≤ 256) (hl : ys.length = n) (hn : n ≤ 1000000) (w : World) (hr : Rd .u64 w A ys) (hg : w.cell? ⟨g, 0, none⟩ = some (.int .i64 2)) : Calls Tryz.prog 193 #[.slice A n cap, .func (.func 188) #[] #[.pointer (some ⟨g, 0, none⟩)]] w fun e w' => ∃ v, e = .returned v ∧ (Own .u64 108 w.heap.size w' v (mk n fun j => nth ys j * nth ys j) ∧ Kept w w') := by
  obtain ⟨i1, hif1, hy0, hy1, hy2⟩ := info_parts info_u64
  have hm := hr.1
  have hsu := fun j => mk_succ j fun j => nth ys j * nth ys j
  have HSU := Lib.hid hsu
  clear hsu
  go_enter Tryz.func193, Tryz.ntmps193
  go_wp2_with fail
  go_loopw [5, 10] (fun v iv wr => ∃ j : Nat, j ≤ n ∧ iv = .int .i64 j ∧ Own .u64 108 w.heap.size wr v (mk j fun j => nth ys j * nth ys j) ∧ Kept w wr) (fun _ iv _ => n - (intOf iv).toNat)
  case atStart => exact ⟨0, Nat.zero_le _, rfl, Own.nil _ _ _ _, kept_refl _⟩
  case round =>
    obtain ⟨j, hj, rfl, hown, hkw⟩ := hrel
    by_cases hlt : j < n
    · obtain ⟨ad, rfl, d0⟩ := (hr.kept hkw).at_ (j := j) (by omega)
      have V := square_c (nth ys j) (hu j).1 (by have := (hu j).2; omega) g wr (kept_cell hkw hg)
      have hvl := hu j
      have hown2 : World.ownsRow _ _ _ _ _ _ _ := hown
      rw [mk_length] at hown2
      have HS := Lib.hid (HSU.out j)
      clear HSU
      generalize nth ys j = y at *
      go_wp2_with fail
      refine V.mono ?_
      rintro e w1 ⟨rfl, hk1⟩
      replace hown2 := rowKept hown2 hk1
      replace hkw := kept_trans hkw hk1
      have hbase := hkw.size
      clear hown hk1 V d0
      go_wp2_with (at_builtin; refine wpList_append_own _ rfl _ _ 123 rfl w.heap.size 108 i1 (.int .u64 0) 1 8 Tryz.underlying123 hif1 hy0 hy1 hy2 rfl (by decide) _ _ _ rfl (hown2.alloc _) ⟨w1.heap.size, 0, none⟩ 1 1 [.int .u64 (y * y)] rfl rfl ?c1 ?c2 ?c3 ?c4 ?c5 ?_)
      case c1 =>
        intro q u hq
        match q, hq with
        | 0, hq => simp at hq; subst hq; simp [Addr.add]
      case c2 => intro u hu; simp at hu; subst hu; rfl
      case c3 => unfold maxLen; omega
      case c4 => omega
      case c5 => simp; omega
      · intro v' w5 hown' hgrow _
        have o5 : Own .u64 108 w.heap.size w5 v' (mk (j + 1) fun j => nth ys j * nth ys j) := by
          unfold Own
          rw [mk_length, HS.out, List.map_append]
          exact hown'
        have K5 := kept_grown (kept_alloc hkw _) (hown2.alloc _) (Nat.le_refl _) hgrow
        clear hown' hgrow hown2
        go_wp2_with fail
        exact ⟨⟨j + 1, by omega, by go_num, o5, K5⟩, by simp [intOf]; omega⟩
    · obtain rfl : j = n := by omega
      clear HSU
      go_wp2_with fail
      go_ret
      exact ⟨_, rfl, hown, hkw⟩
end Go.Proofs.YtdejablhpljdfaaGreat
namespace Go.Proofs.YtdejablhpljdfaaGreat
open Go.RowKit BG
attribute [local go_sem ↓] Go.wp_at_zero Go.wp_at_succ
set_option linter.unusedVariables false
def bytesL (s : ByteArray) : List Int := mk s.size fun i => (byteAt s i : Int)
theorem bytesL_length (s : ByteArray) : (bytesL s).length = s.size := mk_length _ _
theorem bytesL_at {s : ByteArray} {i : Nat} (h : i < s.size) : nth (bytesL s) i = byteAt s i := nth_mk h
theorem bytesL_bd (s : ByteArray) (i : Nat) : 0 ≤ nth (bytesL s) i ∧ nth (bytesL s) i ≤ 255 := by
  by_cases h : i < s.size
  · rw [bytesL_at h]; have := byteAt_lt s i; omega
  · unfold nth; rw [List.getD_eq_getElem?_getD, List.getElem?_eq_none (by rw [bytesL_length]; omega)]; exact ⟨Int.le_refl 0, by decide⟩
theorem bytesRow_at {s : ByteArray} {cap i : Nat} (h : i < s.size) : (bytesRow s cap)[i]? = some (.int .u8 (byteAt s i : Nat)) := by
  unfold bytesRow
  have hd : i < s.data.size := h
  rw [Array.getElem?_append_left (by simpa using hd), Array.getElem?_map, Array.getElem?_eq_getElem hd, ← byteAt_eq h]
  rfl
theorem bytes_rd {w : World} {g cap : Nat} {t : TypeId} {fr : Nat × Nat} {s : ByteArray} (h : w.heap[g]? = some (.cells (bytesRow s cap) t fr)) (hsz : s.size ≤ 9223372036854775807) : Rd .u8 w (some ⟨g, 0, none⟩) (bytesL s) := by
  refine ⟨by rw [bytesL_length]; exact hsz, fun _ => ⟨_, rfl, fun j hj => ?_⟩⟩
  rw [bytesL_length] at hj
  have e : (⟨g, 0, none⟩ : Addr).add j = ⟨g, j, none⟩ := by unfold Addr.add; split <;> simp_all
  rw [e, cell_of_row w g j _ t fr h, bytesRow_at hj, bytesL_at hj]
theorem wpList_bytes {P : Program} {w : World} {ops : Array Oper} {rest : List Oper} {o : Oper} {a : Act} {Q : Exit → Act → World → Prop} (hgd : o.guard = none) (x : Operand) (src dst e : TypeId)
    (ho : o.op = .convert src dst x) (s : ByteArray) (hx : a.eval x = .string s) (hs : P.underlying src = some .string) (hd : P.underlying dst = some (.slice e)) (he : P.underlying e = some (.int .u8)) (hsz : s.size ≤ 9223372036854775807)
    (h : ∀ cap w', Rd .u8 w' (some ⟨w.heap.size, 0, none⟩) (bytesL s) → Kept w w' → wpList P ops Q rest (a.put o.dst (.slice (some ⟨w.heap.size, 0, none⟩) s.size cap)) w') : wpList P ops Q (o :: rest) a w := by
  refine wpList_plain hgd fun K hK => ?_
  have hrun := run_bytes_of_string (P := P) w src dst e s hs hd he
  unfold Oper.wp
  simp only [execOp, ho, hx, Sem.run_bind, hrun, Result.andThen_ok, Sem.run_pure]
  exact hK _ _ (h _ _ (bytes_rd (blk_new w.drew _) hsz) (kept_alloc (kept_drew (kept_refl w)) _))
end Go.Proofs.YtdejablhpljdfaaGreat
namespace Go.Proofs.YtdejablhpljdfaaGreat
open Go.RowKit BG
set_option linter.unusedVariables false
def pV (xs : List Int) (n : Nat) : List Int := mk n fun j => (valv (cls xs j) : Int)
def tV (s : ByteArray) : List Int := mk s.size fun j => nth (bytesL s) j + 1
def sqL (n : Nat) (ys : List Int) : List Int := mk n fun j => nth ys j * nth ys j
theorem pV_len (xs : List Int) (n : Nat) : (pV xs n).length = n := mk_length _ _
theorem tV_len (s : ByteArray) : (tV s).length = s.size := mk_length _ _
theorem sqL_len (n : Nat) (ys : List Int) : (sqL n ys).length = n := mk_length _ _
theorem nth_out {xs : List Int} {j : Nat} (h : xs.length ≤ j) : nth xs j = 0 := by unfold nth; rw [List.getD_eq_getElem?_getD, List.getElem?_eq_none h]; rfl
theorem pV_bd (xs : List Int) (n j : Nat) : 0 ≤ nth (pV xs n) j ∧ nth (pV xs n) j ≤ 256 := by
  by_cases h : j < n
  · unfold pV; rw [nth_mk h]; have := valv_le (cls xs j); omega
  · rw [nth_out (by rw [pV_len]; omega)]; decide
theorem tV_bd (s : ByteArray) (j : Nat) : 0 ≤ nth (tV s) j ∧ nth (tV s) j ≤ 256 := by
  by_cases h : j < s.size
  · unfold tV; rw [nth_mk h]; have := bytesL_bd s j; omega
  · rw [nth_out (by rw [tV_len]; omega)]; decide
theorem sq_bd {a : Int} (h0 : 0 ≤ a) (h : a ≤ 256) : 0 ≤ a * a ∧ a * a ≤ 65536 := by
  refine ⟨Int.mul_nonneg h0 h0, ?_⟩
  exact Int.le_trans (Int.mul_le_mul h h h0 (by decide)) (by decide)
theorem sqL_bd {n : Nat} {ys : List Int} (hy : ∀ j, 0 ≤ nth ys j ∧ nth ys j ≤ 256) (j : Nat) : 0 ≤ nth (sqL n ys) j ∧ nth (sqL n ys) j ≤ 65536 := by
  by_cases h : j < n
  · unfold sqL; rw [nth_mk h]; exact sq_bd (hy j).1 (hy j).2
  · rw [nth_out (by rw [sqL_len]; omega)]; decide
theorem u64_of_bd {ys : List Int} {c : Int} (hc : c ≤ 18446744073709551615) (h : ∀ j, 0 ≤ nth ys j ∧ nth ys j ≤ c) : U64 ys := fun j => ⟨(h j).1, Int.le_trans (h j).2 hc⟩
theorem greatest_of {ys : List Int} {c : Int} (hc : 0 ≤ c) (h : ∀ j, 0 ≤ nth ys j ∧ nth ys j ≤ c) : 0 ≤ greatest ys ∧ greatest ys ≤ c := ⟨grT_nonneg _ _, grT_le hc (fun j => (h j).2) _⟩
def errW (n m : Nat) (size : Int) : Int := if slb n m = true then (if szb n size = true then 0 else 50) else 0
theorem ovr_no2 {x y : Int} (hx : 0 ≤ x) (h : x * y ≤ 18446744073709551615) : ovr x y = false := by
  unfold ovr
  rw [decide_eq_false_iff_not]
  rintro ⟨h0, h1⟩
  have hp : 0 < x := by omega
  have := (Int.ediv_lt_iff_lt_mul hp).1 h1
  rw [Int.mul_comm] at this
  omega
theorem berr_small {ps ts : List Int} {size : Int} {c d : Int} (hc : 0 ≤ c) (hd : 0 ≤ d) (hcd : c * d * 64 ≤ 18446744073709551615) (hp : ∀ j, 0 ≤ nth ps j ∧ nth ps j ≤ c) (ht : ∀ j, 0 ≤ nth ts j ∧ nth ts j ≤ d) (hn : ps.length ≤ 64) : berrv ps ts size = errW ps.length ts.length size := by
  have g1 := greatest_of hc hp
  have g2 := greatest_of hd ht
  unfold berrv berr errW
  have h1 : greatest ps * greatest ts ≤ c * d := Int.mul_le_mul g1.2 g2.2 g2.1 hc
  have h0 := Int.mul_nonneg g1.1 g2.1
  have h2 : greatest ps * greatest ts * (ps.length : Int) ≤ c * d * 64 := Int.mul_le_mul h1 (by omega) (by omega) (Int.mul_nonneg hc hd)
  have h3 := Int.mul_nonneg hc hd
  rw [ovr_no2 g1.1 (by omega), ovr_no2 h0 (by omega)]
  simp
theorem bval_of {ps ts : List Int} {size : Int} (h : berrv ps ts size = 0) : bval ps ts size = if slb ps.length ts.length = true then slidev (nth ps) (nth ts) ps.length ts.length else [] := by
  by_cases hs : slb ps.length ts.length = true
  · rw [if_pos hs]; exact (bval_good ⟨h, hs⟩).1
  · rw [if_neg hs]; exact (bval_bad fun h => hs h.2).1
theorem bcnt_of {ps ts : List Int} {size : Int} (h : berrv ps ts size = 0) (hn : ts.length ≤ 1099511627776) : bcnt ps ts size = countv ps.length ts.length size := by
  by_cases hs : slb ps.length ts.length = true
  · exact (bval_good ⟨h, hs⟩).2
  · rw [(bval_bad fun h => hs h.2).2]
    unfold countv
    rw [if_neg]
    rintro ⟨h1, _⟩
    rw [show min ((ts.length : Nat) : Int) 1099511627776 = (ts.length : Int) by omega] at h1
    exact hs h1
def termW (xs : List Int) (s : ByteArray) (i j : Nat) : Int := (valv (cls xs j) : Int) * ((valv (cls xs j) : Int) - ((byteAt s (i + j) : Int) + 1)) * ((valv (cls xs j) : Int) - ((byteAt s (i + j) : Int) + 1))
def sumW (xs : List Int) (n : Nat) (s : ByteArray) (i : Nat) : Int := sumTo n (termW xs s i)
theorem term_id (p b : Int) : p * p * p - 2 * (p * p * b) + p * (b * b) = p * (p - b) * (p - b) := by
  have e : p * (p - b) * (p - b) = p * p * p - p * p * b - (p * p * b - p * (b * b)) := by
    simp only [Int.mul_sub, Int.mul_comm, Int.mul_left_comm]
  rw [e]
  omega
theorem nn_sq (p d : Int) (h : 0 ≤ p) : 0 ≤ p * d * d := by
  rw [Int.mul_assoc]
  exact Int.mul_nonneg h (by
    rcases Int.le_total 0 d with h | h
    · exact Int.mul_nonneg h h
    · have := Int.mul_nonneg (show 0 ≤ -d by omega) (show 0 ≤ -d by omega)
      rwa [Int.neg_mul_neg] at this)
theorem sum_id (xs : List Int) (s : ByteArray) (i : Nat) : ∀ n, i + n ≤ s.size → ∀ N, n ≤ N → wtT xs n - 2 * sumTo n (fun j => nth (sqL N (pV xs N)) j * nth (tV s) (i + j)) + sumTo n (fun j => nth (pV xs N) j * nth (sqL s.size (tV s)) (i + j)) = sumTo n (termW xs s i) := by
  intro n
  induction n with
  | zero => intro _ _ _; rfl
  | succ n ih =>
    intro h N hN
    have := ih (by omega) N (by omega)
    have e1 : nth (sqL N (pV xs N)) n = (valv (cls xs n) : Int) * (valv (cls xs n) : Int) := by unfold sqL pV; rw [nth_mk (by omega), nth_mk (by omega)]
    have e2 : nth (tV s) (i + n) = (byteAt s (i + n) : Int) + 1 := by unfold tV; rw [nth_mk (by omega), bytesL_at (by omega)]
    have e3 : nth (pV xs N) n = (valv (cls xs n) : Int) := by unfold pV; rw [nth_mk (by omega)]
    have e4 : nth (sqL s.size (tV s)) (i + n) = ((byteAt s (i + n) : Int) + 1) * ((byteAt s (i + n) : Int) + 1) := by unfold sqL; rw [nth_mk (by omega), e2]
    have e5 := term_id (valv (cls xs n) : Int) ((byteAt s (i + n) : Int) + 1)
    show wtT xs n + cube (valv (cls xs n)) - 2 * (sumTo n _ + nth (sqL N (pV xs N)) n * nth (tV s) (i + n)) + (sumTo n _ + nth (pV xs N) n * nth (sqL s.size (tV s)) (i + n)) = sumTo n _ + termW xs s i n
    rw [e1, e2, e3, e4, ← this]
    unfold cube termW
    rw [show ((byteAt s (i + n) : Nat) : Int) + 1 = ((byteAt s (i + n) : Nat) : Int) + 1 from rfl]
    generalize ((byteAt s (i + n) : Nat) : Int) + 1 = b at *
    generalize ((valv (cls xs n) : Nat) : Int) = p at *
    rw [← e5]
    generalize p * p * p = u1
    generalize p * p * b = u2
    generalize p * (b * b) = u3
    omega
theorem sumW_bd (xs : List Int) (s : ByteArray) (i : Nat) : ∀ n, 0 ≤ sumTo n (termW xs s i) ∧ sumTo n (termW xs s i) ≤ 16777216 * (n : Int) := by
  intro n
  induction n with
  | zero => exact ⟨Int.le_refl 0, Int.le_refl 0⟩
  | succ n ih =>
    have h0 : 0 ≤ termW xs s i n := nn_sq _ _ (Int.natCast_nonneg _)
    have h1 : termW xs s i n ≤ 16777216 := by
      have hv := valv_le (cls xs n)
      have hb := byteAt_lt s (i + n)
      unfold termW
      generalize valv (cls xs n) = v at *
      generalize byteAt s (i + n) = b at *
      rw [Int.mul_assoc]
      have hd : ((v : Int) - ((b : Int) + 1)) * ((v : Int) - ((b : Int) + 1)) ≤ 65536 := by
        rcases Int.le_total 0 ((v : Int) - ((b : Int) + 1)) with h | h
        · exact (sq_bd h (by omega)).2
        · have := (sq_bd (a := -((v : Int) - ((b : Int) + 1))) (by omega) (by omega)).2
          rwa [Int.neg_mul_neg] at this
      have hd0 := nn_sq 1 ((v : Int) - ((b : Int) + 1)) (by decide)
      rw [Int.one_mul] at hd0
      exact Int.le_trans (Int.mul_le_mul (show (v : Int) ≤ 256 by omega) hd hd0 (by decide)) (by decide)
    show 0 ≤ sumTo n _ + termW xs s i n ∧ sumTo n _ + termW xs s i n ≤ _
    omega
def resW (wt a b : Int) : Int := IntKind.u64.wrap (IntKind.u64.wrap (wt - IntKind.u64.wrap (2 * a)) + b)
theorem resW_eq {wt a b : Int} (h0 : 0 ≤ wt - 2 * a + b) (h1 : wt - 2 * a + b ≤ 18446744073709551615) : resW wt a b = wt - 2 * a + b := by
  unfold resW
  rw [IntKind.wrap_u64, IntKind.wrap_u64, IntKind.wrap_u64]
  omega
def resL (xs : List Int) (n : Nat) (s : ByteArray) : List Int := if slb n s.size = true then mk (s.size - n + 1) (sumW xs n s) else []
theorem res_law {xs : List Int} {n : Nat} {s : ByteArray} {size : Int} (hn : n ≤ 64) (hsz : s.size ≤ 1000000) (he : errW n s.size size = 0) :
    berrv (sqL n (pV xs n)) (tV s) size = 0 ∧ berrv (pV xs n) (sqL s.size (tV s)) size = 0 ∧ (bval (sqL n (pV xs n)) (tV s) size).length = (resL xs n s).length ∧ (bval (pV xs n) (sqL s.size (tV s)) size).length = (resL xs n s).length ∧
      ∀ i, i < (resL xs n s).length → resW (weightv xs n) (nth (bval (sqL n (pV xs n)) (tV s) size) i) (nth (bval (pV xs n) (sqL s.size (tV s)) size) i) = nth (resL xs n s) i := by
  have b1 : berrv (sqL n (pV xs n)) (tV s) size = 0 := by
    rw [berr_small (c := 65536) (d := 256) (by decide) (by decide) (by decide) (sqL_bd (pV_bd xs n)) (tV_bd s) (by rw [sqL_len]; exact hn), sqL_len, tV_len]; exact he
  have b2 : berrv (pV xs n) (sqL s.size (tV s)) size = 0 := by
    rw [berr_small (c := 256) (d := 65536) (by decide) (by decide) (by decide) (pV_bd xs n) (sqL_bd (tV_bd s)) (by rw [pV_len]; exact hn), sqL_len, pV_len]; exact he
  refine ⟨b1, b2, ?_⟩
  rw [bval_of b1, bval_of b2, sqL_len, tV_len, pV_len, sqL_len]
  unfold resL
  by_cases hs : slb n s.size = true
  · have hs2 : 1 ≤ (n : Int) ∧ (n : Int) ≤ s.size := of_decide_eq_true hs
    rw [if_pos hs, if_pos hs, if_pos hs]
    unfold slidev
    rw [mk_length, mk_length, mk_length]
    refine ⟨rfl, rfl, fun i hi => ?_⟩
    rw [nth_mk hi, nth_mk hi, nth_mk hi]
    have hid := sum_id xs s i n (by omega) n (Nat.le_refl _)
    have hbd := sumW_bd xs s i n
    have m1 : 0 ≤ sl (nth (sqL n (pV xs n))) (nth (tV s)) n i ∧ sl (nth (sqL n (pV xs n))) (nth (tV s)) n i ≤ 16777216 * (n : Int) :=
      ⟨sumTo_nonneg fun j _ => Int.mul_nonneg (sqL_bd (pV_bd xs n) j).1 (tV_bd s _).1, sumTo_le (m := 16777216) fun j _ => Int.le_trans (Int.mul_le_mul (sqL_bd (pV_bd xs n) j).2 (tV_bd s _).2 (tV_bd s _).1 (by decide)) (by decide)⟩
    have m2 : 0 ≤ sl (nth (pV xs n)) (nth (sqL s.size (tV s))) n i ∧ sl (nth (pV xs n)) (nth (sqL s.size (tV s))) n i ≤ 16777216 * (n : Int) :=
      ⟨sumTo_nonneg fun j _ => Int.mul_nonneg (pV_bd xs n j).1 (sqL_bd (tV_bd s) _).1, sumTo_le (m := 16777216) fun j _ => Int.le_trans (Int.mul_le_mul (pV_bd xs n j).2 (sqL_bd (tV_bd s) _).2 (sqL_bd (tV_bd s) _).1 (by decide)) (by decide)⟩
    have id2 : weightv xs n - 2 * sl (nth (sqL n (pV xs n))) (nth (tV s)) n i + sl (nth (pV xs n)) (nth (sqL s.size (tV s))) n i = sumW xs n s i := hid
    have hbd2 : 0 ≤ sumW xs n s i ∧ sumW xs n s i ≤ 16777216 * (n : Int) := hbd
    rw [Int.emod_eq_of_lt m1.1 (by omega), Int.emod_eq_of_lt m2.1 (by omega), resW_eq (by rw [id2]; exact hbd2.1) (by rw [id2]; omega), id2]
  · rw [if_neg hs, if_neg hs, if_neg hs]
    exact ⟨rfl, rfl, fun i hi => absurd hi (Nat.not_lt_zero i)⟩
def sumsE (xs : List Int) (n : Nat) (K : Int) (m : Nat) (size : Int) : Int := if (rightv xs n K && plainv xs n) = true then errW n m size else 170
def sumsL (xs : List Int) (n : Nat) (K : Int) (s : ByteArray) (size : Int) : List Int := if sumsE xs n K s.size size = 0 then resL xs n s else []
def sumsN (xs : List Int) (n : Nat) (K : Int) (m : Nat) (size : Int) : Int := if sumsE xs n K m size = 0 then 2 * countv n m size else 0
theorem rightv_n {xs : List Int} {n : Nat} {K : Int} (h : rightv xs n K = true) : 1 ≤ n ∧ n ≤ 64 ∧ contv xs n zerov = false ∧ 0 ≤ K ∧ K ≤ 64 := by
  unfold rightv at h
  simp at h
  exact ⟨by omega, by omega, h.1.1.2, by omega, by omega⟩
end Go.Proofs.YtdejablhpljdfaaGreat
