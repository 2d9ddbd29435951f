/-
  Texts of one claim, joined: TPar1, TPar2, TPar3, TTok3, TTok4, TTok5.
-/
import Derived.Laws.Rows
import Derived.Test.YtdejablhpljdfaaGreatQ27
import Derived.Test.YtdejablhpljdfaaGreatQ06
namespace Go.Proofs.YtdejablhpljdfaaGreat
open Go.RowKit BG
attribute [local go_sem ↓] Go.wp_at_zero Go.wp_at_succ run_max_at run_min_at
set_option linter.unusedVariables false
structure Tk where
  k : Int
  p : Int
  n : Int
  A : Option Addr
  m : Nat
  cap : Nat
  xs : List Int
abbrev Tk.v (x : Tk) : Value := .agg #[.int .i64 x.k, .int .i64 x.p, .int .i64 x.n, .slice x.A x.m x.cap]
def TkAt (w : World) (ad : Addr) (x : Tk) : Prop := w.cell? ad = some (.int .i64 x.k) ∧ w.cell? ⟨ad.block, ad.off + 1, none⟩ = some (.int .i64 x.p) ∧ w.cell? ⟨ad.block, ad.off + 2, none⟩ = some (.int .i64 x.n) ∧ w.cell? ⟨ad.block, ad.off + 3, none⟩ = some (.slice x.A x.m x.cap)
theorem TkAt.chg {X : Nat → Prop} {w w1 : World} {ad : Addr} {x : Tk} (h : TkAt w ad x) (hc : Chg X w w1) (hb : ¬ X ad.block) : TkAt w1 ad x := ⟨hc.cell h.1 hb, hc.cell h.2.1 hb, hc.cell h.2.2.1 hb, hc.cell h.2.2.2 hb⟩
def RdT (w : World) (A : Option Addr) (l : List Tk) : Prop := 0 < l.length → ∃ ad, A = some ad ∧ ∀ j x, l[j]? = some x → TkAt w (ad.add (j * 4)) x
theorem RdT.chg {X : Nat → Prop} {w w1 : World} {A : Option Addr} {l : List Tk} (h : RdT w A l) (hc : Chg X w w1) (hb : ∀ ad, A = some ad → ¬ X ad.block) : RdT w1 A l := fun h0 => by
  obtain ⟨ad, e, hd⟩ := h h0
  exact ⟨ad, e, fun j x hx => (hd j x hx).chg hc (by rw [ad_block]; exact hb ad e)⟩
theorem RdT.tail {w : World} {ad : Addr} {x : Tk} {l : List Tk} (h : RdT w (some ad) (x :: l)) : RdT w (some ⟨ad.block, ad.off + 4, none⟩) l := fun h0 => by
  obtain ⟨ad', e, hd⟩ := h (by simp)
  cases e
  refine ⟨_, rfl, fun j y hy => ?_⟩
  have := hd (j + 1) y (by simpa using hy)
  have e2 : ad.add ((j + 1) * 4) = (⟨ad.block, ad.off + 4, none⟩ : Addr).add (j * 4) := by
    unfold Addr.add
    by_cases hj : j = 0
    · subst hj; simp
    · rw [if_neg (by omega), if_neg (by omega)]; simp; omega
  rwa [e2] at this
abbrev psO (A : Option Addr) (n c : Nat) (en at_ no : Int) : Obj := .cells #[.slice A n c, .int .i64 en, .int .i64 at_, .int .i64 no] 175
def PsS (B : Nat) (l : List Tk) (en at_ no : Int) (w : World) : Prop := ∃ A c, w.heap[B]? = some (psO A l.length c en at_ no) ∧ RdT w A l ∧ (∀ ad, A = some ad → ad.block ≠ B) ∧ l.length ≤ c ∧ c ≤ 9223372036854775807
theorem PsS.kept {B : Nat} {l : List Tk} {en at_ no : Int} {w w1 : World} (h : PsS B l en at_ no w) (hk : Kept w w1) : PsS B l en at_ no w1 := by
  obtain ⟨A, c, h1, h2, h3, h4⟩ := h
  exact ⟨A, c, blk_kept hk h1, h2.chg (X := fun _ => False) (Chg.of_kept hk) (fun _ _ h => h), h3, h4⟩
def nextK (l : List Tk) (k : Int) : Bool := match l with
  | [] => false
  | x :: _ => decide (x.k = k)
set_option maxRecDepth 100000 in
set_option maxHeartbeats 2000000 in
theorem pnext_no (B : Nat) (l : List Tk) (en at_ no k : Int) (hn : nextK l k = false) (w : World) (h : PsS B l en at_ no w) : Calls Tryz.prog 213 #[.pointer (some ⟨B, 0, none⟩), .int .i64 k] w (Ret (.tuple #[.agg #[.int .i64 0, .int .i64 0, .int .i64 0, .slice none 0 0], .bool false]) w) := by
  obtain ⟨A, c, hB, hr, hA, h1, h2⟩ := h
  have q0 := blk_cell hB 0
  have hlB := blk_lt hB
  have ka := kept_alloc (kept_refl w) (.cells #[.int .i64 0, .int .i64 0, .int .i64 0, .slice none 0 0] 224)
  cases l with
  | nil =>
    have q0 : w.cell? ⟨B, 0, none⟩ = some (.slice A 0 c) := q0
    clear hB hr hA h1 hn
    go_enter Tryz.func213, Tryz.ntmps213
    go_wp2_with fail
    exact bodyPost_ret (v := .tuple #[.agg #[.int .i64 0, .int .i64 0, .int .i64 0, .slice none 0 0], .bool false]) (by simp [results, Tryz.results213, go_sem]) rfl ⟨rfl, ka⟩
  | cons x r =>
    have q0 : w.cell? ⟨B, 0, none⟩ = some (.slice A (r.length + 1) c) := q0
    obtain ⟨ad, rfl, hd⟩ := hr (by simp)
    obtain ⟨e0, e1, e2, e3⟩ := hd 0 x rfl
    rw [Nat.zero_mul, ad0] at e0 e1 e2 e3
    have hlA := World.block_lt_of_cell? w ad e0
    have hne : (x.k != k) = true := by
      unfold nextK at hn
      exact bne_iff_ne.2 (of_decide_eq_false hn)
    generalize x.k = kx at *
    clear hB hr hA h1 hn hd e1 e2 e3
    go_enter Tryz.func213, Tryz.ntmps213
    go_wp2_with fail
    exact bodyPost_ret (v := .tuple #[.agg #[.int .i64 0, .int .i64 0, .int .i64 0, .slice none 0 0], .bool false]) (by simp [results, Tryz.results213, go_sem]) rfl ⟨rfl, ka⟩
set_option maxRecDepth 100000 in
set_option maxHeartbeats 4000000 in
theorem pnext_yes (B : Nat) (x : Tk) (r : List Tk) (en at_ no : Int) (hrl : r.length ≤ 1000000) (w : World) (h : PsS B (x :: r) en at_ no w) : Calls Tryz.prog 213 #[.pointer (some ⟨B, 0, none⟩), .int .i64 x.k] w fun e w' => e = .returned (.tuple #[x.v, .bool true]) ∧ PsS B r en at_ no w' ∧ w.grownBy w' (some B) := by
  obtain ⟨A, c, hB, hr, hA, h1, h2⟩ := h
  obtain ⟨ad, rfl, hd⟩ := hr (by simp)
  obtain ⟨e0, e1, e2, e3⟩ := hd 0 x rfl
  rw [Nat.zero_mul, ad0] at e0 e1 e2 e3
  have hlB := blk_lt hB
  have hlA := World.block_lt_of_cell? w ad e0
  have hAB := hA ad rfl
  have h1 : r.length + 1 ≤ c := h1
  have hB : w.heap[B]? = some (psO (some ad) (r.length + 1) c en at_ no) := hB
  have RT := hr.tail
  have HRT := Lib.hid (⟨RT, hB⟩ : _ ∧ _)
  clear hd hA hr RT
  obtain ⟨k, p, n, xA, m, cap, xs⟩ := x
  dsimp only at e0 e1 e2 e3 ⊢
  have hT0 := blk_new w (.cells #[.int .i64 0, .int .i64 0, .int .i64 0, .slice none 0 0] 224)
  have ka := kept_alloc (kept_refl w) (.cells #[.int .i64 0, .int .i64 0, .int .i64 0, .slice none 0 0] 224)
  have kb := kept_alloc ka (.cells #[.int .i64 k, .int .i64 p, .int .i64 n, .slice xA m cap] 224)
  have b0 := blk_kept kb hB
  have q0 := blk_cell hB 0
  have qb := blk_cell b0 0
  have fb := blk_frozen b0 0
  go_enter Tryz.func213, Tryz.ntmps213
  go_wp2_with fail
  · have hc : r.length = 0 := by omega
    obtain rfl : r = [] := List.length_eq_zero_iff.1 hc
    have b1 := blk_set HRT.out.2 0 (.slice (some ad) 0 0)
    have G := (Chg.refl (fun g => g = B) w).set (p := ⟨B, 0, none⟩) rfl (.slice (some ad) 0 0)
    have k2 := kept_alloc (kept_alloc (kept_refl (w.setCell ⟨B, 0, none⟩ (.slice (some ad) 0 0))) (.cells #[.int .i64 k, .int .i64 p, .int .i64 n, .slice xA m cap] 224)) (.cells #[.int .i64 k, .int .i64 p, .int .i64 n, .slice xA m cap] 224)
    exact bodyPost_ret (v := .tuple #[.agg #[.int .i64 k, .int .i64 p, .int .i64 n, .slice xA m cap], .bool true]) (by simp [results, Tryz.results213, go_sem]) rfl ⟨rfl, ⟨some ad, 0, (blk_kept k2 b1).trans (by simp), fun h => absurd h (by simp), fun ad' e => by cases e; exact hAB, by simp, by omega⟩, grown_trans (setCell_grown w ⟨B, 0, none⟩ _) (grown_of_kept k2)⟩
  · have b1 := blk_set HRT.out.2 0 (.slice (some ⟨ad.block, ad.off + 4, none⟩) r.length (c - 1))
    have G := (Chg.refl (fun g => g = B) w).set (p := ⟨B, 0, none⟩) rfl (.slice (some ⟨ad.block, ad.off + 4, none⟩) r.length (c - 1))
    have k2 := kept_alloc (kept_alloc (kept_refl (w.setCell ⟨B, 0, none⟩ (.slice (some ⟨ad.block, ad.off + 4, none⟩) r.length (c - 1)))) (.cells #[.int .i64 k, .int .i64 p, .int .i64 n, .slice xA m cap] 224)) (.cells #[.int .i64 k, .int .i64 p, .int .i64 n, .slice xA m cap] 224)
    exact bodyPost_ret (v := .tuple #[.agg #[.int .i64 k, .int .i64 p, .int .i64 n, .slice xA m cap], .bool true]) (by simp [results, Tryz.results213, go_sem]) rfl ⟨rfl, ⟨some ⟨ad.block, ad.off + 4, none⟩, c - 1, (blk_kept k2 b1).trans (by simp), HRT.out.1.chg (G.trans (Chg.of_kept k2)) (fun ad' e h => by cases e; exact hAB h), fun ad' e => by cases e; exact hAB, by omega, by omega⟩, grown_trans (setCell_grown w ⟨B, 0, none⟩ _) (grown_of_kept k2)⟩
end Go.Proofs.YtdejablhpljdfaaGreat
namespace Go.Proofs.YtdejablhpljdfaaGreat
open Go.RowKit BG
attribute [local go_sem ↓] Go.wp_at_zero Go.wp_at_succ run_max_at run_min_at
set_option linter.unusedVariables false
def ParQ (B : Nat) (x : Nd) (en at_ : Int) (w : World) (e : Ending) (w' : World) : Prop := ∃ v, e = .returned v ∧ w'.ownsRow w.heap.size 95 4 v 1 (nds [x]) ∧ PsS B [] en at_ 0 w' ∧ w.grownBy w' (some B)
abbrev patN (A : Option Addr) (m cap : Nat) (xs : List Int) : Nd := ⟨1, 0, A, m, cap, 0, xs⟩
set_option maxRecDepth 100000 in
set_option maxHeartbeats 2000000 in
theorem pfind1_c (B : Nat) (k p n : Int) (A : Option Addr) (m cap : Nat) (xs : List Int) (en at_ : Int) (w : World) (h : PsS B [] en at_ 0 w) : Calls Tryz.prog 234 #[.pointer (some ⟨B, 0, none⟩), .agg #[.int .i64 k, .int .i64 p, .int .i64 n, .slice A m cap]] w (ParQ B (patN A m cap xs) en at_ w) := by
  have NX := fun w1 h => pnext_no B [] en at_ 0 7 rfl w1 h
  have hb := blk_new w (.cells #[.int .i64 k, .int .i64 p, .int .i64 n, .slice A m cap] 224)
  have ka := kept_alloc (kept_refl w) (.cells #[.int .i64 k, .int .i64 p, .int .i64 n, .slice A m cap] 224)
  have h1 := h.kept ka
  obtain ⟨PA, pc, hB, -⟩ := h1
  have q0 : (w.alloc (.cells #[.int .i64 k, .int .i64 p, .int .i64 n, .slice A m cap] 224)).cell? ⟨B, 0, none⟩ = some (.slice PA 0 pc) := blk_cell hB 0
  have h1 := h.kept ka
  clear hB
  go_enter Tryz.func234, Tryz.ntmps234
  go_wp2_with fail
  refine (NX _ h1).mono ?_
  rintro e w2 ⟨rfl, hk2⟩
  have hb2 := blk_kept hk2 hb
  have c3 := blk_cell hb2 3
  have hlt := blk_lt hb2
  have k2 := kept_trans ka hk2
  have h2 := h.kept k2
  have HH := Lib.hid (⟨k2, h2⟩ : _ ∧ _)
  have hsz := k2.size
  clear NX q0 h1 ka hb hb2 hk2 k2 h2
  go_wp2_with fail
  go_ret
  have hr1 := blk_new (w2.alloc (.cells #[.int .i64 0, .int .i64 0, .int .i64 0, .slice none 0 0] 224)) (patN A m cap xs).box
  have hz : (w2.alloc (.cells #[.int .i64 0, .int .i64 0, .int .i64 0, .slice none 0 0] 224)).heap.size = w2.heap.size + 1 := by simp
  rw [hz] at hr1
  have k3 := kept_alloc (kept_alloc (kept_refl w2) (.cells #[.int .i64 0, .int .i64 0, .int .i64 0, .slice none 0 0] 224)) (patN A m cap xs).box
  refine ⟨_, rfl, ⟨by simp [nds, ndL], .inr ⟨w2.heap.size + 1, 1, _, rfl, by omega, hr1, Nat.le_refl _, by unfold maxLen; omega, rfl, rfl⟩⟩, HH.out.2.kept k3, grown_of_kept (kept_trans HH.out.1 k3)⟩
set_option maxRecDepth 100000 in
set_option maxHeartbeats 4000000 in
theorem pitem1_c (B : Nat) (p n : Int) (A : Option Addr) (m cap : Nat) (xs : List Int) (en at_ : Int) (w : World) (h : PsS B [⟨8, p, n, A, m, cap, xs⟩] en at_ 0 w) : Calls Tryz.prog 215 #[.pointer (some ⟨B, 0, none⟩)] w (ParQ B (patN A m cap xs) en at_ w) := by
  have N5 := fun w1 h => pnext_no B [⟨8, p, n, A, m, cap, xs⟩] en at_ 0 5 rfl w1 h
  have N6 := fun w1 h => pnext_no B [⟨8, p, n, A, m, cap, xs⟩] en at_ 0 6 rfl w1 h
  have N8 := fun w1 h => pnext_yes B ⟨8, p, n, A, m, cap, xs⟩ [] en at_ 0 (by simp) w1 h
  have FI := fun w1 h => pfind1_c B 8 p n A m cap xs en at_ w1 h
  dsimp only [Tk.v] at N8
  go_enter Tryz.func215, Tryz.ntmps215
  go_wp2_with fail
  refine (N5 _ h).mono ?_
  rintro e w1 ⟨rfl, hk1⟩
  have ka := kept_alloc hk1 (.cells #[.int .i64 0, .int .i64 0, .int .i64 0, .slice none 0 0] 224)
  have ha := h.kept ka
  clear N5 h
  go_wp2_with fail
  refine (N6 _ ha).mono ?_
  rintro e w2 ⟨rfl, hk2⟩
  replace ka := kept_alloc (kept_trans ka hk2) (.cells #[.int .i64 0, .int .i64 0, .int .i64 0, .slice none 0 0] 224)
  replace ha := (ha.kept hk2).kept (kept_alloc (kept_refl w2) (.cells #[.int .i64 0, .int .i64 0, .int .i64 0, .slice none 0 0] 224))
  clear N6 hk2 hk1
  go_wp2_with fail
  refine (N8 _ ha).mono ?_
  rintro e w3 ⟨rfl, hp3, hg3⟩
  have hb := blk_new w3 (.cells #[.int .i64 8, .int .i64 p, .int .i64 n, .slice A m cap] 224)
  have c0 := blk_cell hb 0
  have c1 := blk_cell hb 1
  have c2 := blk_cell hb 2
  have c3 := blk_cell hb 3
  have kb := kept_alloc (kept_refl w3) (.cells #[.int .i64 8, .int .i64 p, .int .i64 n, .slice A m cap] 224)
  have hp4 := hp3.kept kb
  have G := Lib.hid (grown_trans (grown_trans (grown_of_kept ka) hg3) (grown_of_kept kb))
  clear N8 ha hp3 hg3 hb kb
  go_wp2_with fail
  refine (FI _ hp4).mono ?_
  rintro e w5 ⟨v, rfl, own, hp5, hg5⟩
  have hsz := G.out.size
  have HO := Lib.hid (⟨ownsRow_less own hsz, hp5, grown_trans G.out hg5⟩ : _ ∧ _ ∧ _)
  clear FI own hp5 hg5 c0 c1 c2 c3 hp4 G hsz
  go_wp2_with fail
  go_ret
  exact ⟨_, rfl, HO.out.1, HO.out.2.1, HO.out.2.2⟩
end Go.Proofs.YtdejablhpljdfaaGreat
namespace Go.Proofs.YtdejablhpljdfaaGreat
open Go.RowKit BG
attribute [local go_sem ↓] Go.wp_at_zero Go.wp_at_succ run_max_at run_min_at
set_option linter.unusedVariables false
theorem own_ps {B n size base : Nat} {e : TypeId} {v : Value} {xs : List Value} {w w1 : World} (h : w.ownsRow base e size v n xs) (hg : w.grownBy w1 (some B)) (hB : B < base) : w1.ownsRow base e size v n xs :=
  row_chg (X := fun g => g = B) h (Chg.of_grown hg fun g e => (Option.some.inj e).symm) fun g hg' hx => by have := (World.ownsRow.lt h g hg').1; omega
set_option maxRecDepth 100000 in
set_option maxHeartbeats 4000000 in
theorem pchainA_c (B : Nat) (p n : Int) (A : Option Addr) (m cap : Nat) (xs : List Int) (en at_ : Int) (w : World) (h : PsS B [⟨8, p, n, A, m, cap, xs⟩] en at_ 0 w) : Calls Tryz.prog 166 #[.pointer (some ⟨B, 0, none⟩), .func (.func 215) #[.pointer (some ⟨B, 0, none⟩)] #[], .int .i64 3, .int .i64 2] w (ParQ B (patN A m cap xs) en at_ w) := by
  have ON := fun w1 h => pitem1_c B p n A m cap xs en at_ w1 h
  have NX := fun w1 h => pnext_no B [] en at_ 0 3 rfl w1 h
  go_enter Tryz.func166, Tryz.ntmps166
  go_wp2_with fail
  refine (ON _ h).mono ?_
  rintro e w1 ⟨v, rfl, own, hp1, hg1⟩
  obtain ⟨vA, vc, rfl, -, -, -⟩ : ∃ A c, v = .slice A 1 c ∧ True ∧ True ∧ True := by
    rcases own.2 with ⟨h1, h2⟩ | ⟨g, cap, _, h1, _⟩
    · cases h2
    · exact ⟨_, cap, h1, trivial, trivial, trivial⟩
  have hp1' := hp1
  obtain ⟨PA, pc, hB, -⟩ := hp1'
  have q3 := blk_cell hB 3
  have HO := Lib.hid (⟨own, hg1⟩ : _ ∧ _)
  clear ON h own hg1 hB
  go_wp2_with fail
  refine wp_loop_rounds 1 ?_
  rw [rounds_succ]
  go_wp2_with fail
  refine (NX _ hp1).mono ?_
  rintro e w2 ⟨rfl, hk2⟩
  have hp2 := (hp1.kept hk2).kept (kept_alloc (kept_refl w2) (.cells #[.int .i64 0, .int .i64 0, .int .i64 0, .slice none 0 0] 224))
  have k3 := kept_alloc hk2 (.cells #[.int .i64 0, .int .i64 0, .int .i64 0, .slice none 0 0] 224)
  have HP := Lib.hid (⟨rowKept HO.out.1 k3, hp2, grown_trans HO.out.2 (grown_of_kept k3)⟩ : _ ∧ _ ∧ _)
  clear NX q3 hp1 hk2 hp2 k3 HO
  go_wp2_with fail
  go_ret
  exact ⟨_, rfl, HP.out.1, HP.out.2.1, HP.out.2.2⟩
set_option maxRecDepth 100000 in
set_option maxHeartbeats 1000000 in
theorem ppart1_c (B : Nat) (p n : Int) (A : Option Addr) (m cap : Nat) (xs : List Int) (en at_ : Int) (w : World) (h : PsS B [⟨8, p, n, A, m, cap, xs⟩] en at_ 0 w) : Calls Tryz.prog 167 #[.pointer (some ⟨B, 0, none⟩)] w (ParQ B (patN A m cap xs) en at_ w) := by
  have CH := fun w1 h => pchainA_c B p n A m cap xs en at_ w1 h
  go_enter Tryz.func167, Tryz.ntmps167
  go_wp2_with fail
  refine (CH _ h).mono ?_
  rintro e w1 ⟨v, rfl, own, hp1, hg1⟩
  have HO := Lib.hid (⟨own, hp1, hg1⟩ : _ ∧ _ ∧ _)
  clear CH h own hp1 hg1
  go_wp2_with fail
  go_ret
  exact ⟨_, rfl, HO.out.1, HO.out.2.1, HO.out.2.2⟩
set_option maxRecDepth 100000 in
set_option maxHeartbeats 4000000 in
theorem pchainO_c (B : Nat) (p n : Int) (A : Option Addr) (m cap : Nat) (xs : List Int) (en at_ : Int) (w : World) (h : PsS B [⟨8, p, n, A, m, cap, xs⟩] en at_ 0 w) : Calls Tryz.prog 166 #[.pointer (some ⟨B, 0, none⟩), .func (.func 167) #[.pointer (some ⟨B, 0, none⟩)] #[], .int .i64 4, .int .i64 3] w (ParQ B (patN A m cap xs) en at_ w) := by
  have ON := fun w1 h => ppart1_c B p n A m cap xs en at_ w1 h
  have NX := fun w1 h => pnext_no B [] en at_ 0 4 rfl w1 h
  go_enter Tryz.func166, Tryz.ntmps166
  go_wp2_with fail
  refine (ON _ h).mono ?_
  rintro e w1 ⟨v, rfl, own, hp1, hg1⟩
  obtain ⟨vA, vc, rfl, -, -, -⟩ : ∃ A c, v = .slice A 1 c ∧ True ∧ True ∧ True := by
    rcases own.2 with ⟨h1, h2⟩ | ⟨g, cap, _, h1, _⟩
    · cases h2
    · exact ⟨_, cap, h1, trivial, trivial, trivial⟩
  have hp1' := hp1
  obtain ⟨PA, pc, hB, -⟩ := hp1'
  have q3 := blk_cell hB 3
  have HO := Lib.hid (⟨own, hg1⟩ : _ ∧ _)
  clear ON h own hg1 hB
  go_wp2_with fail
  refine wp_loop_rounds 1 ?_
  rw [rounds_succ]
  go_wp2_with fail
  refine (NX _ hp1).mono ?_
  rintro e w2 ⟨rfl, hk2⟩
  have hp2 := (hp1.kept hk2).kept (kept_alloc (kept_refl w2) (.cells #[.int .i64 0, .int .i64 0, .int .i64 0, .slice none 0 0] 224))
  have k3 := kept_alloc hk2 (.cells #[.int .i64 0, .int .i64 0, .int .i64 0, .slice none 0 0] 224)
  have HP := Lib.hid (⟨rowKept HO.out.1 k3, hp2, grown_trans HO.out.2 (grown_of_kept k3)⟩ : _ ∧ _ ∧ _)
  clear NX q3 hp1 hk2 hp2 k3 HO
  go_wp2_with fail
  go_ret
  exact ⟨_, rfl, HP.out.1, HP.out.2.1, HP.out.2.2⟩
set_option maxRecDepth 100000 in
set_option maxHeartbeats 1000000 in
theorem pquery1_c (B : Nat) (p n : Int) (A : Option Addr) (m cap : Nat) (xs : List Int) (en at_ : Int) (w : World) (h : PsS B [⟨8, p, n, A, m, cap, xs⟩] en at_ 0 w) : Calls Tryz.prog 110 #[.pointer (some ⟨B, 0, none⟩)] w (ParQ B (patN A m cap xs) en at_ w) := by
  have CH := fun w1 h => pchainO_c B p n A m cap xs en at_ w1 h
  go_enter Tryz.func110, Tryz.ntmps110
  go_wp2_with fail
  refine (CH _ h).mono ?_
  rintro e w1 ⟨v, rfl, own, hp1, hg1⟩
  have HO := Lib.hid (⟨own, hp1, hg1⟩ : _ ∧ _ ∧ _)
  clear CH h own hp1 hg1
  go_wp2_with fail
  go_ret
  exact ⟨_, rfl, HO.out.1, HO.out.2.1, HO.out.2.2⟩
end Go.Proofs.YtdejablhpljdfaaGreat
namespace Go.Proofs.YtdejablhpljdfaaGreat
open Go.RowKit BG
attribute [local go_sem ↓] Go.wp_at_zero Go.wp_at_succ run_max_at run_min_at
set_option linter.unusedVariables false
theorem wp_scope_jumps2 {P : Program} {a : Act} {w : World} {Q : Exit → Act → World → Prop} {c body : Code} (l : Nat) (J : Act → World → Prop) (μ : Act → World → Nat) (hf : findLabel c l = some (Code.skip.seq body))
    (pass : ∀ a w, J a w → body.wp P (Exit.jump l (fun a' w' => J a' w' ∧ μ a' w' < μ a w) Q) a w)
    (first : (∀ a w, J a w → body.wp P (Exit.jump l J Q) a w) → c.wp P (Exit.jump l J Q) a w) : (Code.scope c).wp P Q a w :=
  wp_scope_jumps l J μ hf (first fun a w h => Code.wp_mono (fun e a' w' h' => by cases e <;> first | exact h' | exact ⟨h'.1, h'.2.1⟩) (pass a w h)) fun a w h => wp_seq (wp_skip (pass a w h))
def patT (s : ByteArray) (a n : Nat) : List Int := (List.range n).flatMap fun j => clL (onlyv (byteAt s (a + j)))
theorem patT_succ (s : ByteArray) (a n : Nat) : patT s a (n + 1) = patT s a n ++ clL (onlyv (byteAt s (a + n))) := by unfold patT; rw [List.range_succ, List.flatMap_append]; simp
def PatFrame (B : Nat) (v : Value) (a : Act) : Prop := ∃ u : Nat → Value, u 0 = .pointer (some ⟨B, 0, none⟩) ∧ u 3 = v ∧ a = ⟨((List.range 88).map u).toArray, []⟩
theorem pat_frame {B : Nat} {v : Value} (a : Act) (hd : a.defers = []) (hs : a.tmps.size = 88) (h0 : a.tmps.getD 0 undef = .pointer (some ⟨B, 0, none⟩)) (h3 : a.tmps.getD 3 undef = v) : PatFrame B v a := by
  refine ⟨fun i => a.tmps.getD i undef, h0, h3, ?_⟩
  obtain ⟨tm, d⟩ := a
  dsimp only at hd hs
  subst hd
  congr 1
  apply Array.ext
  · simp [hs]
  · intro i h1 h2
    simp [h1]
theorem pat_lit {B : Nat} {v : Value} {u : Nat → Value} (h0 : u 0 = .pointer (some ⟨B, 0, none⟩)) (h3 : u 3 = v) : ((List.range 88).map u).toArray = #[.pointer (some ⟨B, 0, none⟩), u 1, u 2, v, u 4, u 5, u 6, u 7, u 8, u 9, u 10, u 11, u 12, u 13, u 14, u 15, u 16, u 17, u 18, u 19, u 20, u 21, u 22, u 23, u 24, u 25, u 26, u 27, u 28, u 29, u 30, u 31, u 32, u 33, u 34, u 35, u 36, u 37, u 38, u 39, u 40, u 41, u 42, u 43, u 44, u 45, u 46, u 47, u 48, u 49, u 50, u 51, u 52, u 53, u 54, u 55, u 56, u 57, u 58, u 59, u 60, u 61, u 62, u 63, u 64, u 65, u 66, u 67, u 68, u 69, u 70, u 71, u 72, u 73, u 74, u 75, u 76, u 77, u 78, u 79, u 80, u 81, u 82, u 83, u 84, u 85, u 86, u 87] := by
  show #[u 0, u 1, u 2, u 3, u 4, u 5, u 6, u 7, u 8, u 9, u 10, u 11, u 12, u 13, u 14, u 15, u 16, u 17, u 18, u 19, u 20, u 21, u 22, u 23, u 24, u 25, u 26, u 27, u 28, u 29, u 30, u 31, u 32, u 33, u 34, u 35, u 36, u 37, u 38, u 39, u 40, u 41, u 42, u 43, u 44, u 45, u 46, u 47, u 48, u 49, u 50, u 51, u 52, u 53, u 54, u 55, u 56, u 57, u 58, u 59, u 60, u 61, u 62, u 63, u 64, u 65, u 66, u 67, u 68, u 69, u 70, u 71, u 72, u 73, u 74, u 75, u 76, u 77, u 78, u 79, u 80, u 81, u 82, u 83, u 84, u 85, u 86, u 87] = _
  rw [h0, h3]
def PatJ (B : Nat) (s : ByteArray) (a m : Nat) (w : World) (a' : Act) (w' : World) : Prop :=
  ∃ (j : Nat) (v : Value), PatFrame B v a' ∧ j ≤ m ∧ ScS B s (a + j) 0 w' ∧ w'.ownsRow w.heap.size 110 4 v j ((patT s a j).map (Value.int .u64)) ∧ w.grownBy w' (some B)
def patMu (m : Nat) (a' : Act) : Nat := match a'.tmps.getD 3 undef with
  | .slice _ n _ => m - n
  | _ => 0
set_option maxRecDepth 100000 in
set_option maxHeartbeats 8000000 in
theorem tpat_c (B : Nat) (s : ByteArray) (a m : Nat) (hm1 : 1 ≤ m) (hm : m ≤ 64) (hs : s.size ≤ 1000000) (hend : a + m < s.size) (hq : byteAt s (a + m) = 34) (hpl : ∀ j, j < m → signv (byteAt s (a + j)) = true ∧ byteAt s (a + j) ≠ 34 ∧ byteAt s (a + j) ≠ 63 ∧ byteAt s (a + j) ≠ 91 ∧ byteAt s (a + j) ≠ 92) (w : World) (h : ScS B s a 0 w) :
    Calls Tryz.prog 209 #[.pointer (some ⟨B, 0, none⟩)] w fun e w' => ∃ v, e = .returned v ∧ w'.ownsRow w.heap.size 110 4 v m ((patT s a m).map (Value.int .u64)) ∧ ScS B s (a + m + 1) 0 w' ∧ w.grownBy w' (some B) := by
  have hBl : B < w.heap.size := blk_lt h
  have HPL := Lib.hid (⟨hpl, hq⟩ : _ ∧ _)
  clear hpl hq
  go_enter Tryz.func209, Tryz.ntmps209
  go_wp2_with fail
  refine wp_scope_jumps2 0 (PatJ B s a m w) (fun a' _ => patMu m a') rfl ?pass ?first
  case first =>
    intro R
    go_wp2_with fail
    refine wp_label ?_
    rename_i K hK
    refine hK _ _ ?_
    refine R _ _ ⟨0, .slice none 0 0, pat_frame _ rfl rfl rfl rfl, Nat.zero_le _, h, ⟨by simp [patT], .inl ⟨rfl, rfl⟩⟩, grown_of_kept (kept_refl _)⟩
  case pass =>
    clear h
    rintro a' w0 ⟨j, v, ⟨u, v0, v3, rfl⟩, hj, hsc, own, hg⟩
    rw [pat_lit v0 v3]
    clear v0 v3
    obtain ⟨vA, vc, rfl⟩ : ∃ A c, v = .slice A j c := by
      rcases own.2 with ⟨h1, h2⟩ | ⟨g, cap, _, h1, _⟩
      · exact ⟨none, 0, by rw [h1, h2]⟩
      · exact ⟨_, cap, h1⟩
    have hlt : a + j < s.size := by omega
    have hbt := byteAt_eq hlt
    have hi1 : (0 : Int) ≤ ((a + j : Nat) : Int) := by omega
    have hi2 : ((a + j : Nat) : Int) < (s.size : Int) := by omega
    have EN := fun w1 h => tend_c B s (a + j) 0 w1 h
    rw [decide_eq_false (by omega : ¬ s.size ≤ a + j)] at EN
    have q2 := blk_cell hsc 2
    by_cases hjm : j < m
    · obtain ⟨p1, p2, p3, p4, p5⟩ := HPL.out.1 j hjm
      have HQ := fun w1 h => thas_c B s (a + j) 63 0 (by decide) hs w1 h
      have HB := fun w1 h => thas_c B s (a + j) 91 0 (by decide) hs w1 h
      have hn1 : hasB s (a + j) 63 = false := by unfold hasB; rw [decide_eq_false p3, Bool.and_false]
      have hn2 : hasB s (a + j) 91 = false := by unfold hasB; rw [decide_eq_false p4, Bool.and_false]
      rw [hn1, if_neg (by decide)] at HQ
      rw [hn2, if_neg (by decide)] at HB
      have ON := fun w1 h => tone_plain B s (a + j) 0 130 ⟨#[]⟩ hs hlt p5 p1 rfl w1 h
      have yb := byteAt_lt s (a + j)
      have b1 : (((byteAt s (a + j) : Nat) : Int) == 34) = false := by rw [beq_eq_false_iff_ne]; omega
      have b2 : ((byteAt s (a + j)) == 34) = false := by rw [beq_eq_false_iff_ne]; exact p2
      have HP := Lib.hid (patT_succ s a j)
      clear p1 p2 p3 p4 p5 hn1 hn2
      generalize hy : byteAt s (a + j) = y at *
      clear hy
      generalize hN : a + j = N at *
      have HN := Lib.hid hN
      clear hN
      go_wp2_with fail
      refine (EN _ hsc).mono ?_
      rintro e w1 ⟨rfl, hk1⟩
      have hs1 := hsc.kept hk1
      have q0 := blk_cell hs1 0
      have q1 := blk_cell hs1 1
      have b3 : ((j : Int) == 64) = false := by rw [beq_eq_false_iff_ne]; omega
      have b4 : (j == 64) = false := by rw [beq_eq_false_iff_ne]; omega
      clear EN q2
      go_wp2_with fail
      go_quiet (fail)
      have kd := kept_drewN (kept_refl w1) nq
      have hs2 := hs1.kept kd
      have k2 := kept_trans hk1 kd
      clear kd q0 q1 hs1
      generalize w1.drewN nq = w2 at *
      have q0 := blk_cell hs2 0
      have q1 := blk_cell hs2 1
      go_wp2_with fail
      go_quiet (fail)
      have kd := kept_drewN (kept_refl w2) nq
      have hs3 := hs2.kept kd
      have k3 := kept_trans k2 kd
      clear kd q0 q1 hs2 k2 b1 b2 hbt
      generalize w2.drewN nq = w3 at *
      go_wp2_with fail
      refine (HQ _ hs3).mono ?_
      rintro e w4 ⟨rfl, hs4, hg4⟩
      clear HQ hs3
      go_wp2_with fail
      refine (HB _ hs4).mono ?_
      rintro e w5 ⟨rfl, hs5, hg5⟩
      clear HB hs4 b3 b4
      go_wp2_with fail
      refine (ON _ hs5).mono ?_
      rintro e w6 ⟨rfl, hs6, hg6⟩
      have G6 := grown_trans (grown_trans (grown_trans (grown_of_kept k3) hg4) hg5) hg6
      have hyn : (UInt8.ofNat y).toNat = y := by simp; omega
      have hof : ofT ⟨[UInt8.ofNat y].toArray⟩ (ByteArray.size ⟨[UInt8.ofNat y].toArray⟩) = onlyv y := by
        show withv zerov (byteAt ⟨[UInt8.ofNat y].toArray⟩ 0) = _
        have : byteAt ⟨[UInt8.ofNat y].toArray⟩ 0 = y := by
          unfold byteAt
          rw [dif_pos (by show (0 : Nat) < 1; decide)]
          exact hyn
        rw [this]; rfl
      have CO := fun w1 => classOf_c ⟨[UInt8.ofNat y].toArray⟩ (by show (1 : Nat) ≤ 1000000000; decide) w1
      rw [hof] at CO
      have own6 := own_ps own G6 hBl
      have kb := kept_alloc (kept_refl w6) (.cells #[.int .u8 (y : Nat)] 5)
      have hb6 := blk_new w6 (.cells #[.int .u8 (y : Nat)] 5)
      have d0 := blk_cell hb6 0
      have HC := Lib.hid (⟨G6, hs6, own6, hg⟩ : _ ∧ _ ∧ _ ∧ _)
      have hsz6 := G6.size
      have hsz0 := hg.size
      generalize onlyv y = cl at *
      obtain ⟨x0, x1, x2, x3⟩ := cl
      dsimp only [Cl.v] at CO
      have HY := Lib.hid hyn
      clear ON hs5 hg4 hg5 hg6 k3 hyn hof G6 hs6 own6 hg own hsc hb6
      go_wp2_with (refine wpList_str [UInt8.ofNat y] rfl rfl rfl rfl ?cc ?_)
      case cc =>
        intro j' hj'
        obtain rfl : j' = 0 := by simp at hj'; omega
        rw [add_head]
        simp [HY.out]
      go_wp2_with fail
      refine (CO _).mono ?_
      rintro e w8 ⟨rfl, hk8⟩
      have k8 := kept_trans kb hk8
      have hsz8 := k8.size
      have own8 := rowKept HC.out.2.2.1 k8
      clear CO kb hk8 d0
      obtain ⟨i1, hif1, hy0, hy1, hy2⟩ := info_parts info_class
      go_wp2_with (at_builtin; refine app_row0 (ev := [.int .u64 x0, .int .u64 x1, .int .u64 x2, .int .u64 x3]) Tryz.underlying59 hif1 hy0 hy1 hy2 rfl (by decide) (by decide) rfl rfl rfl rfl (by simp) own8 rfl ?c0 ?c1 ?c2 ?_)
      case c0 => intro u' hu'; simp at hu'; rcases hu' with rfl | rfl | rfl | rfl <;> rfl
      case c1 => omega
      case c2 => omega
      intro g cap' w9 own9 hg9 hat9 hlt9
      have hB8 : ScS B s (N + 1) 0 w8 := HC.out.2.1.kept k8
      have hB9 : ScS B s (N + 1) 0 w9 := grown_blk hg9 hB8 (fun e => by have := (World.ownsRow.lt own8 B e.symm).1; omega)
      have G9 : w.grownBy w9 (some B) := by
        have h1 := grown_trans (grown_trans HC.out.2.2.2 HC.out.1) (grown_of_kept k8)
        exact ⟨hg9.os.trans h1.os, hg9.tape.trans h1.tape, hg9.output.trans h1.output, Nat.le_trans h1.size hg9.size, fun i hi hne => (hg9.block i (Nat.lt_of_lt_of_le hi h1.size) (fun e => by have := (World.ownsRow.lt own8 i e.symm).1; omega)).trans (h1.block i hi hne)⟩
      have HE := Lib.hid (⟨hB9, own9, G9⟩ : _ ∧ _ ∧ _)
      clear hB8 hB9 G9 own9 hg9 hat9 hlt9 own8 hif1 hy0 hy1 hy2
      go_wp2_with fail
      go_step3
      refine ⟨rfl, ⟨j + 1, _, pat_frame _ rfl rfl rfl rfl, by omega, ?_, ?_, HE.out.2.2⟩, ?_⟩
      · rw [← Nat.add_assoc, HN.out]; exact HE.out.1
      · rw [HP.out, List.map_append]; exact HE.out.2.1
      · show m - (j + 1) < m - j; omega
    · obtain rfl : j = m := by omega
      have hq := HPL.out.2
      have b1 : (((byteAt s (a + j) : Nat) : Int) == 34) = true := by rw [hq]; rfl
      have b2 : ((byteAt s (a + j)) == 34) = true := by rw [hq]; rfl
      have d1 : decide ((0 : Int) < (j : Int)) = true := decide_eq_true (by omega)
      have d2 : decide (0 < j) = true := decide_eq_true (by omega)
      clear hq
      generalize hy : byteAt s (a + j) = y at *
      clear hy
      generalize hN : a + j = N at *
      have HN := Lib.hid hN
      clear hN
      go_wp2_with fail
      refine (EN _ hsc).mono ?_
      rintro e w1 ⟨rfl, hk1⟩
      have hs1 := hsc.kept hk1
      have q0 := blk_cell hs1 0
      have q1 := blk_cell hs1 1
      clear EN q2
      go_wp2_with fail
      go_quiet (fail)
      have kd := kept_drewN (kept_refl w1) nq
      have hs2 := hs1.kept kd
      have k2 := kept_trans hk1 kd
      clear kd q0 q1 hs1
      generalize w1.drewN nq = w2 at *
      have q1 := blk_cell hs2 1
      have f1 := blk_frozen hs2 1
      have b10 := blk_set hs2 1 (.int .i64 ((N : Int) + 1))
      have G := grown_trans (grown_trans hg (grown_of_kept k2)) (setCell_grown w2 ⟨B, 1, none⟩ (.int .i64 ((N : Int) + 1)))
      have own2 := own_ps (rowKept own k2) (setCell_grown w2 ⟨B, 1, none⟩ (.int .i64 ((N : Int) + 1))) hBl
      have HE := Lib.hid (⟨b10, G, own2⟩ : _ ∧ _ ∧ _)
      clear b10 G own2 own hg hsc hs2 b1 b2 hbt
      go_wp2_with fail
      simp only [Exit.jump]
      go_ret
      exact ⟨_, rfl, HE.out.2.2, by rw [HN.out]; exact HE.out.1, HE.out.2.1⟩
end Go.Proofs.YtdejablhpljdfaaGreat
namespace Go.Proofs.YtdejablhpljdfaaGreat
open Go.RowKit BG
attribute [local go_sem ↓] Go.wp_at_zero Go.wp_at_succ run_max_at run_min_at
set_option linter.unusedVariables false
theorem set_new {w w2 : World} {B : Nat} (h : w.grownBy w2 (some B)) (p : Addr) (u : Value) (hp : w.heap.size ≤ p.block) : w.grownBy (w2.setCell p u) (some B) :=
  ⟨h.os, h.tape, h.output, by simpa using h.size, fun i hi hne => (Below.heap_setCell w2 p u i (by omega)).trans (h.block i hi hne)⟩
theorem tok_sets {w w1 w2 : World} {B m : Nat} {s : ByteArray} {at_ : Nat} {v : Value} {xs : List Value} (v0 v1 u0 u1 u2 u3 : Value) (hBl : B < w.heap.size) (hs2 : ScS B s at_ 0 w2) (own : w2.ownsRow w1.heap.size 110 4 v m xs) (h2 : w.heap.size + 2 ≤ w1.heap.size) (G2 : w.grownBy w2 (some B)) {z0 z1 z2 z3 : Value} (hR : w2.heap[w.heap.size]? = some (.cells #[z0, z1, z2, z3] 224 (0, 0))) :
    let W := (((((w2.setCell ⟨w.heap.size + 1, 0, none⟩ v0).setCell ⟨w.heap.size + 1, 3, none⟩ v1).setCell ⟨w.heap.size, 0, none⟩ u0).setCell ⟨w.heap.size, 1, none⟩ u1).setCell ⟨w.heap.size, 2, none⟩ u2).setCell ⟨w.heap.size, 3, none⟩ u3
    W.heap[w.heap.size]? = some (.cells #[u0, u1, u2, u3] 224 (0, 0)) ∧ W.ownsRow w.heap.size 110 4 v m xs ∧ ScS B s at_ 0 W ∧ w.grownBy W (some B) := by
  intro W
  refine ⟨?_, ?_, ?_, ?_⟩
  · exact blk_set (blk_set (blk_set (blk_set (blk_far (blk_far hR (by dsimp only; omega) _) (by dsimp only; omega) _) 0 u0) 1 u1) 2 u2) 3 u3
  · refine ownsRow_less (base := w1.heap.size) ?_ (by omega)
    exact own_ps (own_ps (own_ps (own_ps (own_ps (own_ps own (setCell_grown _ _ _) (by dsimp only; omega)) (setCell_grown _ _ _) (by dsimp only; omega)) (setCell_grown _ _ _) (by dsimp only; omega)) (setCell_grown _ _ _) (by dsimp only; omega)) (setCell_grown _ _ _) (by dsimp only; omega)) (setCell_grown _ _ _) (by dsimp only; omega)
  · exact blk_far (blk_far (blk_far (blk_far (blk_far (blk_far hs2 (by dsimp only; omega) _) (by dsimp only; omega) _) (by dsimp only; omega) _) (by dsimp only; omega) _) (by dsimp only; omega) _) (by dsimp only; omega) _
  · exact set_new (set_new (set_new (set_new (set_new (set_new G2 _ _ (by dsimp only; omega)) _ _ (by dsimp only; omega)) _ _ (by dsimp only; omega)) _ _ (by dsimp only; omega)) _ _ (by dsimp only; omega)) _ _ (by dsimp only; omega)
set_option maxRecDepth 100000 in
set_option maxHeartbeats 4000000 in
theorem ttok_c (B : Nat) (s : ByteArray) (a m : Nat) (hm1 : 1 ≤ m) (hm : m ≤ 64) (hs : s.size ≤ 1000000) (hend : a + 1 + m < s.size) (h34 : byteAt s a = 34) (hq : byteAt s (a + 1 + m) = 34) (hpl : ∀ j, j < m → signv (byteAt s (a + 1 + j)) = true ∧ byteAt s (a + 1 + j) ≠ 34 ∧ byteAt s (a + 1 + j) ≠ 63 ∧ byteAt s (a + 1 + j) ≠ 91 ∧ byteAt s (a + 1 + j) ≠ 92) (w : World) (h : ScS B s a 0 w) :
    Calls Tryz.prog 165 #[.pointer (some ⟨B, 0, none⟩)] w fun e w' => ∃ v, e = .returned (.agg #[.int .i64 8, .int .i64 (a : Nat), .int .i64 0, v]) ∧ w'.ownsRow w.heap.size 110 4 v m ((patT s (a + 1) m).map (Value.int .u64)) ∧ ScS B s (a + 1 + m + 1) 0 w' ∧ w.grownBy w' (some B) := by
  have hBl : B < w.heap.size := blk_lt h
  have HQ := fun w1 h => thas_c B s a 34 0 (by decide) hs w1 h
  have hn1 : hasB s a 34 = true := by unfold hasB; rw [decide_eq_true h34, decide_eq_true (by omega : a < s.size)]; rfl
  rw [hn1, if_pos rfl] at HQ
  have PA := fun w1 h => tpat_c B s (a + 1) m hm1 hm hs hend hq hpl w1 h
  have hz : (.agg #[.int .i64 0, .int .i64 0, .int .i64 0, .slice none 0 0] : Value) = .agg #[.int .i64 0, .int .i64 0, .int .i64 0, .slice none 0 0] := rfl
  have ka := kept_alloc (kept_refl w) (.cells #[.int .i64 0, .int .i64 0, .int .i64 0, .slice none 0 0] 224)
  have ha := h.kept ka
  have q1 := blk_cell ha 1
  clear hz hpl hq h34 hn1
  go_enter Tryz.func165, Tryz.ntmps165
  have hT := blk_new (w.alloc (.cells #[.int .i64 0, .int .i64 0, .int .i64 0, .slice none 0 0] 224)) (.cells #[.int .i64 0, .int .i64 (a : Nat), .int .i64 0, .slice none 0 0] 224)
  have hR : ((w.alloc (.cells #[.int .i64 0, .int .i64 0, .int .i64 0, .slice none 0 0] 224)).alloc (.cells #[.int .i64 0, .int .i64 (a : Nat), .int .i64 0, .slice none 0 0] 224)).heap[w.heap.size]? = _ := blk_kept (kept_alloc (kept_refl _) _) (blk_new w (.cells #[.int .i64 0, .int .i64 0, .int .i64 0, .slice none 0 0] 224))
  have kb := kept_alloc ka (.cells #[.int .i64 0, .int .i64 (a : Nat), .int .i64 0, .slice none 0 0] 224)
  have hb := h.kept kb
  have hz : (w.alloc (.cells #[.int .i64 0, .int .i64 0, .int .i64 0, .slice none 0 0] 224)).heap.size = w.heap.size + 1 := by simp
  rw [hz] at hT
  clear hz
  go_wp2_with fail
  refine (HQ _ hb).mono ?_
  rintro e w1 ⟨rfl, hs1, hk1⟩
  have hT1 := grown_blk hk1 hT (fun e => absurd (Option.some.inj e) (by omega))
  have hR1 := grown_blk hk1 hR (fun e => absurd (Option.some.inj e) (by omega))
  have G1 := grown_trans (grown_of_kept kb) hk1
  have hs12 : w.heap.size + 2 ≤ w1.heap.size := by have := hk1.size; simpa using this
  clear HQ hb hT hR kb ka ha q1 hk1 h
  go_wp2_with fail
  refine (PA _ hs1).mono ?_
  rintro e w2 ⟨v, rfl, own, hs2, hg2⟩
  have hT2 := grown_blk hg2 hT1 (fun e => absurd (Option.some.inj e) (by omega))
  have hR2 := grown_blk hg2 hR1 (fun e => absurd (Option.some.inj e) (by omega))
  obtain ⟨vA, vc, rfl⟩ : ∃ A c, v = .slice A m c := by
    rcases own.2 with ⟨h1, h2⟩ | ⟨g, cap, _, h1, _⟩
    · exact ⟨none, 0, by rw [h1, h2]⟩
    · exact ⟨_, cap, h1⟩
  have G2 := grown_trans G1 hg2
  have t0 := blk_cell hT2 0
  have t1 := blk_cell hT2 1
  have t2 := blk_cell hT2 2
  have t3 := blk_cell hT2 3
  have r0 := blk_cell hR2 0
  have r1 := blk_cell hR2 1
  have r2 := blk_cell hR2 2
  have r3 := blk_cell hR2 3
  have ft := blk_frozen hT2 0
  have ft3 := blk_frozen hT2 3
  have fr := blk_frozen hR2 0
  have fr1 := blk_frozen hR2 1
  have fr2 := blk_frozen hR2 2
  have fr3 := blk_frozen hR2 3
  have hW := Lib.hid (tok_sets (.int .i64 8) (.slice vA m vc) (.int .i64 8) (.int .i64 (a : Nat)) (.int .i64 0) (.slice vA m vc) hBl hs2 own hs12 G2 hR2)
  clear PA hs1 hT1 hR1 hg2 own hs2 hT2 hR2 G1 G2
  go_wp2_with fail
  refine bodyPost_ret (results_cell_row rfl _ _ w.heap.size 224 _ (0, 0) _ rfl hW.out.1 rfl rfl rfl) rfl ?_
  exact ⟨_, rfl, hW.out.2⟩
end Go.Proofs.YtdejablhpljdfaaGreat
namespace Go.Proofs.YtdejablhpljdfaaGreat
open Go.RowKit BG
attribute [local go_sem ↓] Go.wp_at_zero Go.wp_at_succ run_max_at run_min_at
set_option linter.unusedVariables false
theorem info_token : (Tryz.prog.info? 224).map (fun i => (i.zero, i.size, i.bytes)) = some (some (.agg #[.int .i64 0, .int .i64 0, .int .i64 0, .slice none 0 0]), 4, 48) := by kernel_rfl
def PatTx (s : ByteArray) (m : Nat) : Prop := s.size = m + 2 ∧ 1 ≤ m ∧ m ≤ 64 ∧ byteAt s 0 = 34 ∧ byteAt s (m + 1) = 34 ∧ ∀ j, j < m → signv (byteAt s (1 + j)) = true ∧ byteAt s (1 + j) ≠ 34 ∧ byteAt s (1 + j) ≠ 63 ∧ byteAt s (1 + j) ≠ 91 ∧ byteAt s (1 + j) ≠ 92
set_option maxRecDepth 100000 in
set_option maxHeartbeats 4000000 in
theorem lex1_c (s : ByteArray) (m : Nat) (hp : PatTx s m) (w : World) :
    Calls Tryz.prog 109 #[.string s] w fun e w' => ∃ g cap v, e = .returned (.tuple #[.slice (some ⟨g, 0, none⟩) 1 cap, .int .i64 (s.size : Nat), .int .i64 0]) ∧ w'.ownsRow w.heap.size 224 4 (.slice (some ⟨g, 0, none⟩) 1 cap) 1 [.int .i64 8, .int .i64 0, .int .i64 0, v] ∧ w'.ownsRow w.heap.size 110 4 v m ((patT s 1 m).map (Value.int .u64)) ∧ Kept w w' := by
  obtain ⟨h1, h2, h3, h4, h5, h6⟩ := hp
  have hB := blk_new w (scO s 0 0)
  have ka := kept_alloc (kept_refl w) (scO s 0 0)
  have hHS : ScS w.heap.size s 0 0 (w.alloc (scO s 0 0)) := hB
  have EN := fun w1 h => tend_c w.heap.size s 0 0 w1 h
  rw [decide_eq_false (by omega : ¬ s.size ≤ 0)] at EN
  have HS := fun w1 h => thas_c w.heap.size s 0 32 0 (by decide) (by omega) w1 h
  have hn : hasB s 0 32 = false := by unfold hasB; rw [h4]; simp
  rw [hn, if_neg (by decide)] at HS
  have TK := fun w1 h => ttok_c w.heap.size s 0 m h2 h3 (by omega) (by omega) h4 (by rw [show 0 + 1 + m = m + 1 by omega]; exact h5) (by simpa using h6) w1 h
  have E2 := fun w1 h => tend_c w.heap.size s (0 + 1 + m + 1) 0 w1 h
  rw [decide_eq_true (by omega : s.size ≤ 0 + 1 + m + 1)] at E2
  have b1 : decide ((1000 : Int) < (s.size : Int)) = false := decide_eq_false (by omega)
  have b2 : decide (1000 < s.size) = false := decide_eq_false (by omega)
  have c1 : ¬ (1000 : Int) < (s.size : Int) := by omega
  have c2 : ¬ 1000 < s.size := by omega
  clear hB h6 hn
  go_enter Tryz.func109, Tryz.ntmps109
  go_wp2_with fail
  refine wp_loop_rounds 2 ?_
  rw [rounds_succ]
  go_wp2_with fail
  refine (EN _ hHS).mono ?_
  rintro e w1 ⟨rfl, hk1⟩
  have hs1 := hHS.kept hk1
  have k1 := kept_trans ka hk1
  have q2 := blk_cell hs1 2
  clear EN hk1 ka hHS
  go_wp2_with fail
  refine (HS _ hs1).mono ?_
  rintro e w2 ⟨rfl, hs2, hg2⟩
  have g2 := kept_grow k1 hg2 (fun k e => by cases e; exact Nat.le_refl _)
  clear HS hs1 q2 k1 hg2
  go_wp2_with fail
  refine (TK _ hs2).mono ?_
  rintro e w3 ⟨v, rfl, own, hs3, hg3⟩
  obtain ⟨vA, vc, rfl⟩ : ∃ A c, v = .slice A m c := by
    rcases own.2 with ⟨h1, h2⟩ | ⟨g, cap, _, h1, _⟩
    · exact ⟨none, 0, by rw [h1, h2]⟩
    · exact ⟨_, cap, h1⟩
  have k3 := kept_grow g2 hg3 (fun k e => by cases e; exact Nat.le_refl _)
  have own' : w3.ownsRow w.heap.size 110 4 (.slice vA m vc) m ((patT s 1 m).map (Value.int .u64)) := ownsRow_less own g2.size
  have own0 : w3.ownsRow w3.heap.size 224 4 (.slice none 0 0) 0 [] := ⟨rfl, .inl ⟨rfl, rfl⟩⟩
  clear TK hs2 hg3 own
  obtain ⟨i1, hif1, hy0, hy1, hy2⟩ := info_parts info_token
  go_wp2_with (at_builtin; refine app_row0 (ev := [.int .i64 8, .int .i64 0, .int .i64 0, .slice vA m vc]) Tryz.underlying170 hif1 hy0 hy1 hy2 rfl (by decide) (by decide) rfl rfl rfl rfl (by simp) own0 rfl ?c0 (by decide) (Nat.le_refl _) ?_)
  case c0 => intro u' hu'; simp at hu'; rcases hu' with rfl | rfl | rfl | rfl <;> rfl
  intro g cap' w4 own4 hg4 hat4 hlt4
  have k34 : Kept w3 w4 := kept_grow (kept_refl w3) hg4 (fun k e => by cases e)
  have k4 := kept_trans k3 k34
  have hs4 := hs3.kept k34
  have own4' := ownsRow_less own4 k3.size
  have ownc := rowKept own' k34
  have HF := Lib.hid (⟨own4', ownc, k4⟩ : _ ∧ _ ∧ _)
  clear own' own0 own4 hg4 hat4 hlt4 k34 k4 own4' ownc k3 g2 hs3
  go_wp2_with fail
  rw [rounds_succ]
  go_wp2_with fail
  refine (E2 _ hs4).mono ?_
  rintro e w5 ⟨rfl, hk5⟩
  have hs5 := hs4.kept hk5
  have q2 := blk_cell hs5 2
  have HG := Lib.hid (⟨rowKept HF.out.1 hk5, rowKept HF.out.2.1 hk5, kept_trans HF.out.2.2 hk5⟩ : _ ∧ _ ∧ _)
  clear E2 hs4 hk5 hs5 HF
  go_wp2_with fail
  go_ret3
  exact ⟨_, _, _, by rw [h1]; rfl, HG.out.1, HG.out.2.1, HG.out.2.2⟩
end Go.Proofs.YtdejablhpljdfaaGreat
