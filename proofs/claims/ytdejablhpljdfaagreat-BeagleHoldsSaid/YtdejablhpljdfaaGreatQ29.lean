/-
  Texts of one claim, joined: TPar4, TStream2, HeldL, TStream3, TEval3.
-/
import Derived.Test.YtdejablhpljdfaaGreatQ28
import Derived.Test.YtdejablhpljdfaaGreatQ26
import Derived.Test.YtdejablhpljdfaaGreatQ27
import Derived.Test.YtdejablhpljdfaaGreatQ01
import Derived.Test.YtdejablhpljdfaaGreatQ24
import Derived.Test.YtdejablhpljdfaaGreatQ03
namespace Go.Proofs.YtdejablhpljdfaaGreat
open Go.RowKit BG
attribute [local go_sem ↓] Go.wp_at_zero Go.wp_at_succ run_max_at run_min_at
set_option linter.unusedVariables false
theorem rdT_own {w : World} {base g cap : Nat} {A : Option Addr} {m c : Nat} (k p n : Int) (xs : List Int) (h : w.ownsRow base 224 4 (.slice (some ⟨g, 0, none⟩) 1 cap) 1 [.int .i64 k, .int .i64 p, .int .i64 n, .slice A m c]) : RdT w (some ⟨g, 0, none⟩) [⟨k, p, n, A, m, c, xs⟩] := fun _ => ⟨_, rfl, fun j x hx => by
  match j, hx with
  | 0, hx =>
    simp at hx
    subst hx
    rw [Nat.zero_mul, add_head]
    exact ⟨World.ownsRow.cells h (g := g) rfl 0 _ rfl, World.ownsRow.cells h (g := g) rfl 1 _ rfl, World.ownsRow.cells h (g := g) rfl 2 _ rfl, World.ownsRow.cells h (g := g) rfl 3 _ rfl⟩
  | j + 1, hx => simp at hx⟩
theorem depth_pat (A : Option Addr) (m cap : Nat) (xs : List Int) : depthv [patN A m cap xs] = 1 := by
  simp [depthv, treeOf, trF, Tr.deep]
theorem patT_length (s : ByteArray) (a : Nat) : ∀ n, (patT s a n).length = 4 * n := by
  intro n
  induction n with
  | zero => rfl
  | succ n ih => rw [patT_succ, List.length_append, ih]; simp [clL]; omega
set_option maxRecDepth 100000 in
set_option maxHeartbeats 8000000 in
theorem parse1_c (s : ByteArray) (m : Nat) (hp : PatTx s m) (hU : U64 (patT s 1 m)) (w : World) :
    Calls Tryz.prog 60 #[.string s] w fun e w' => ∃ v A cap, e = .returned (.tuple #[v, .int .i64 (s.size : Nat), .int .i64 0]) ∧ w'.ownsRow w.heap.size 95 4 v 1 (nds [patN A m cap (patT s 1 m)]) ∧ (patN A m cap (patT s 1 m)).ok w' ∧ Kept w w' := by
  have LX := fun w1 => lex1_c s m hp w1
  have hsz : s.size = m + 2 := hp.1
  have hm : m ≤ 64 := hp.2.2.1
  have hl := patT_length s 1 m
  clear hp
  generalize patT s 1 m = xs at *
  go_enter Tryz.func60, Tryz.ntmps60
  go_wp2_with fail
  refine (LX _).mono ?_
  rintro e w1 ⟨g, gc, v, rfl, own, ownc, k1⟩
  obtain ⟨A, cap, rfl, hc1, hr1⟩ := ownN_rd ownc (by omega) (by omega)
  have hAb : ∀ ad, A = some ad → ad.block < w1.heap.size := fun ad e => (World.ownsRow.lt ownc ad.block (by rw [e]; rfl)).2
  have HM := Lib.hid (⟨hsz, hm, hl, hU⟩ : _ ∧ _ ∧ _ ∧ _)
  clear hsz hm hl hU
  have RT := rdT_own 8 0 0 xs own
  have hg1 := World.ownsRow.lt own g rfl
  have hgc : 1 ≤ gc ∧ gc ≤ 9223372036854775807 := by
    rcases own.2 with ⟨h1, h2⟩ | ⟨g', cap', cur, e1, _, _, h1, h2, _⟩
    · cases h2
    · unfold maxLen at h2
      cases e1
      exact ⟨h1, by omega⟩
  have hPS : PsS w1.heap.size [⟨8, 0, 0, A, m, cap, xs⟩] (s.size : Nat) 0 0 (w1.alloc (psO (some ⟨g, 0, none⟩) 1 gc (s.size : Nat) 0 0)) := by
    have ka := kept_alloc (kept_refl w1) (psO (some ⟨g, 0, none⟩) 1 gc (s.size : Nat) 0 0)
    refine ⟨_, _, blk_new w1 _, RT.chg (X := fun _ => False) (Chg.of_kept ka) (fun _ _ h => h), fun ad e => ?_, hgc.1, hgc.2⟩
    cases e
    exact Nat.ne_of_lt hg1.2
  have ka := kept_alloc k1 (psO (some ⟨g, 0, none⟩) 1 gc (s.size : Nat) 0 0)
  have PQ := fun w1' h => pquery1_c w1.heap.size 0 0 A m cap xs (s.size : Nat) 0 w1' h
  have DP := fun (A' : Option Addr) (c' : Nat) (h1 : 1 ≤ c') (h2 : c' ≤ 9223372036854775807) w1' (h : RdN w1' A' [patN A m cap xs]) => depth_c A' c' [patN A m cap xs] (by simp) h1 h2 w1' h
  rw [depth_pat] at DP
  have HK := Lib.hid (⟨ka, hr1.kept (kept_alloc (kept_refl w1) (psO (some ⟨g, 0, none⟩) 1 gc (s.size : Nat) 0 0)), k1.size, hAb⟩ : _ ∧ _ ∧ _ ∧ _)
  clear LX own ownc RT k1 ka hgc hAb hr1
  go_wp2_with fail
  refine (PQ _ hPS).mono ?_
  rintro e w2 ⟨v, rfl, own2, hP2, hg2⟩
  have k2 : Kept w w2 := kept_grow HK.out.1 hg2 (fun k e => by cases e; exact HK.out.2.2.1)
  have hrA : Rd .u64 w2 A xs := rd_grown HK.out.2.1 hg2 (fun ad e h => by have := HK.out.2.2.2 ad e; have := Option.some.inj h; omega)
  have hok : (patN A m cap xs).ok w2 := ⟨HM.out.2.2.1, HM.out.2.2.2, hrA⟩
  obtain ⟨A2, c2, rfl, h21, h22, rn⟩ := ownN_nd own2 rfl (fun x hx => by rw [List.mem_singleton.1 hx]; exact hok)
  have own2' : w2.ownsRow w.heap.size 95 4 (.slice A2 1 c2) 1 (nds [patN A m cap xs]) := ownsRow_less own2 (by have := HK.out.2.2.1; simp; omega)
  have HE := Lib.hid (⟨own2', hok, k2⟩ : _ ∧ _ ∧ _)
  have hPc := hP2
  obtain ⟨PA, pc, hB, -⟩ := hPc
  have p0 := blk_cell hB 0
  have p3 := blk_cell hB 3
  clear PQ hPS hg2 own2 own2' hok k2 hrA HK hP2 hB
  go_wp2_with fail
  refine (DP A2 c2 h21 h22 _ rn).mono ?_
  rintro e w3 ⟨rfl, hk3⟩
  have HF := Lib.hid (⟨rowKept HE.out.1 hk3, HE.out.2.1.kept hk3, kept_trans HE.out.2.2 hk3⟩ : _ ∧ _ ∧ _)
  clear DP HE hk3 rn p0 p3
  go_wp2_with fail
  go_ret3
  exact ⟨_, _, _, rfl, HF.out.1, HF.out.2.1, HF.out.2.2⟩
end Go.Proofs.YtdejablhpljdfaaGreat
namespace Go.Proofs.YtdejablhpljdfaaGreat
open Go.RowKit BG
attribute [local go_sem ↓] Go.wp_at_zero Go.wp_at_succ run_max_at run_min_at
set_option linter.unusedVariables false
structure Sr where
  bo : Nat
  bs : Nat
  bn : Nat
  bk : Nat
  A : Option Addr
  c : Nat
abbrev Sr.fn (r : Sr) : Value := .func (.func 73) #[] #[.pointer (some ⟨r.bo, 0, none⟩), .pointer (some ⟨r.bs, 0, none⟩), .pointer (some ⟨r.bn, 0, none⟩), .pointer (some ⟨r.bk, 0, none⟩)]
def SrFix (S : Nat) (k : Nat) (x : Nd) (r : Sr) (w : World) : Prop :=
  w.heap[r.bo]? = some (.cells #[.slice r.A x.m r.c, .int .i64 x.K] 61) ∧ w.heap[r.bs]? = some (.cells #[.pointer (some ⟨S, 0, none⟩)] 45) ∧ w.heap[r.bk]? = some (.cells #[.int .i64 (k : Nat)] 3) ∧ Rd .u64 w r.A x.xs
structure SrNew (S k m : Nat) (K : Int) (xs : List Int) (lo : Nat) (r : Sr) (w : World) : Prop where
  o : w.heap[r.bo]? = some (.cells #[.slice r.A m r.c, .int .i64 K] 61)
  s : w.heap[r.bs]? = some (.cells #[.pointer (some ⟨S, 0, none⟩)] 45)
  k : w.heap[r.bk]? = some (.cells #[.int .i64 (k : Nat)] 3)
  n : w.heap[r.bn]? = some (.cells #[.int .i64 0] 3)
  rd : Rd .u64 w r.A xs
  low : lo ≤ r.bo ∧ lo ≤ r.bs ∧ lo ≤ r.bk
  high : r.bo < r.bn ∧ r.bs < r.bn ∧ r.bk < r.bn
  row : ∀ ad, r.A = some ad → lo ≤ ad.block ∧ ad.block < r.bn
theorem row_in {w : World} {base n size m c : Nat} {e : TypeId} {A : Option Addr} {xs : List Value} (h : w.ownsRow base e size (.slice A m c) n xs) : ∀ ad, A = some ad → base ≤ ad.block ∧ ad.block < w.heap.size := fun ad e => World.ownsRow.lt h ad.block (by rw [e]; rfl)
theorem row_rd {w : World} {base m c : Nat} {e : TypeId} {A : Option Addr} {xs : List Int} (h : w.ownsRow base e 4 (.slice A m c) m (xs.map (Value.int .u64))) (hl : xs.length = 4 * m) (hm : m ≤ 1000000) : Rd .u64 w A xs := by
  obtain ⟨A', c', e, -, rd⟩ := ownN_rd h hl (by omega)
  cases e
  exact rd
set_option maxRecDepth 100000 in
set_option maxHeartbeats 4000000 in
theorem mksearch_c (S k : Nat) (A : Option Addr) (m cap : Nat) (K : Int) (xs : List Int) (hm : m ≤ 1000000) (hl : xs.length = 4 * m) (hA : A = none → m = 0 ∧ cap = 0) (w : World) (hr : Rd .u64 w A xs) : Calls Tryz.prog 42 #[.pointer (some ⟨S, 0, none⟩), .int .i64 (k : Nat), leafV A m cap K] w fun e w' => ∃ r : Sr, e = .returned r.fn ∧ Kept w w' ∧ SrNew S k m K xs w.heap.size r w' := by
  have CL := fun w1 h => cloneCl_c A cap m xs hl hm w1 hA h
  go_enter Tryz.func42, Tryz.ntmps42
  go_wp2_with fail
  have hb := blk_new ((w.alloc (.cells #[.pointer (some ⟨S, 0, none⟩)] 45)).alloc (.cells #[.int .i64 (k : Nat)] 3)) (.cells #[.slice A m cap, .int .i64 K] 61)
  have hs := blk_alloc (blk_alloc (blk_new w (.cells #[.pointer (some ⟨S, 0, none⟩)] 45)) (.cells #[.int .i64 (k : Nat)] 3)) (.cells #[.slice A m cap, .int .i64 K] 61)
  have hk := blk_alloc (blk_new (w.alloc (.cells #[.pointer (some ⟨S, 0, none⟩)] 45)) (.cells #[.int .i64 (k : Nat)] 3)) (.cells #[.slice A m cap, .int .i64 K] 61)
  have ka := kept_alloc (kept_alloc (kept_alloc (kept_refl w) (.cells #[.pointer (some ⟨S, 0, none⟩)] 45)) (.cells #[.int .i64 (k : Nat)] 3)) (.cells #[.slice A m cap, .int .i64 K] 61)
  have hs1 : ((((w.alloc (.cells #[.pointer (some ⟨S, 0, none⟩)] 45)).alloc (.cells #[.int .i64 (k : Nat)] 3)).alloc (.cells #[.slice A m cap, .int .i64 K] 61))).heap.size = w.heap.size + 3 := by simp
  have e1 : (w.alloc (.cells #[.pointer (some ⟨S, 0, none⟩)] 45)).heap.size = w.heap.size + 1 := by simp
  have e2 : ((w.alloc (.cells #[.pointer (some ⟨S, 0, none⟩)] 45)).alloc (.cells #[.int .i64 (k : Nat)] 3)).heap.size = w.heap.size + 1 + 1 := by simp
  rw [e2] at hb
  rw [e1] at hk
  clear e1 e2
  generalize ((w.alloc (.cells #[.pointer (some ⟨S, 0, none⟩)] 45)).alloc (.cells #[.int .i64 (k : Nat)] 3)).alloc (.cells #[.slice A m cap, .int .i64 K] 61) = W at *
  have c0 := blk_cell hb 0
  have c1 := blk_cell hb 1
  have hnew : (W.drew.alloc (.cells #[.slice none 0 0, .int .i64 0] 61)).heap[W.heap.size]? = some (.cells #[.slice none 0 0, .int .i64 0] 61) := blk_new W.drew _
  have hrr := hr.kept ka
  have kr := kept_refl W
  clear hb hr
  have HH := Lib.hid (⟨hs, hk, ka, hs1, hnew⟩ : _ ∧ _ ∧ _ ∧ _ ∧ _)
  clear hs hk ka hs1 hnew
  go_region_held3 (fun w' => w'.cell? ⟨w.heap.size + 1 + 1, 0, none⟩ = some (.slice A m cap) ∧ w'.cell? ⟨w.heap.size + 1 + 1, 1, none⟩ = some (.int .i64 K)) (first | exact ⟨by assumption, by assumption⟩ | exact ⟨kept_cell hk2 c0, kept_cell hk2 c1⟩ | exact ⟨kept_cell (kept_alloc hk2 _) c0, kept_cell (kept_alloc hk2 _) c1⟩ | exact ⟨kept_cell (kept_alloc (kept_drew kr) _) c0, kept_cell (kept_alloc (kept_drew kr) _) c1⟩ | exact ⟨kept_cell (kept_trans (kept_alloc (kept_drew kr) _) hk2) c0, kept_cell (kept_trans (kept_alloc (kept_drew kr) _) hk2) c1⟩ | exact ⟨kept_cell (kept_set (kept_set (kept_trans (kept_alloc (kept_drew kr) _) hk2) (Nat.le_refl _) _) (Nat.le_refl _) _) c0, kept_cell (kept_set (kept_set (kept_trans (kept_alloc (kept_drew kr) _) hk2) (Nat.le_refl _) _) (Nat.le_refl _) _) c1⟩ | go_keep) ((go_at_call 72; (first | (refine (CL _ (hrr.kept (kept_drew kr))).mono ?_; rintro e w2 ⟨B, c, rfl, own, hk2⟩) | (refine (CL _ (hrr.kept (kept_alloc (kept_drew kr) _))).mono ?_; rintro e w2 ⟨B, c, rfl, own, hk2⟩; have q := blk_kept hk2 HH.out.2.2.2.2; have q2 := blk_set q 0 (.slice B m c); have n0 := blk_cell q 0; have n1 := blk_cell q 1; have f0 := blk_frozen q 0; have f1 := blk_frozen q 1; have n2 := blk_cell q2 1; have f2 := blk_frozen q2 1; have Q := Lib.hid q; clear q q2))))
  · obtain ⟨hs, hk, ka, hs1, -⟩ := HH.out
    have kx : Kept W (w2.alloc (.cells #[.slice B m c, .int .i64 K] 61)) := kept_trans (kept_drew kr) (kept_alloc hk2 _)
    have hbo := blk_new w2 (.cells #[.slice B m c, .int .i64 K] 61)
    have rin := row_in own
    have hss : W.heap.size ≤ w2.heap.size := by simpa using hk2.size
    have rd := (row_rd own hl hm).kept (kept_alloc (kept_refl w2) (.cells #[.slice B m c, .int .i64 K] 61))
    have hz : (w2.alloc (.cells #[.slice B m c, .int .i64 K] 61)).heap.size = w2.heap.size + 1 := by simp
    have hbn := blk_new (w2.alloc (.cells #[.slice B m c, .int .i64 K] 61)) (.cells #[.int .i64 0] 3)
    rw [hz] at hbn
    have HF : Hid (SrNew S k m K xs w.heap.size ⟨w2.heap.size, w.heap.size, w2.heap.size + 1, w.heap.size + 1, B, c⟩ ((w2.alloc (.cells #[.slice B m c, .int .i64 K] 61)).alloc (.cells #[.int .i64 0] 3)) ∧ Kept w ((w2.alloc (.cells #[.slice B m c, .int .i64 K] 61)).alloc (.cells #[.int .i64 0] 3))) :=
      Lib.hid ⟨⟨blk_alloc hbo _, blk_alloc (blk_kept kx hs) _, blk_alloc (blk_kept kx hk) _, hbn, rd.kept (kept_alloc (kept_refl _) _), ⟨by simp; omega, by simp, by simp⟩, ⟨by simp, by simp; omega, by simp; omega⟩, fun ad e => ⟨by have := (rin ad e).1; simp at this; omega, by have := (rin ad e).2; simp; omega⟩⟩, kept_alloc (kept_trans ka kx) _⟩
    clear hs hk ka kx hbo rin rd own hk2 CL hss hs1 hz hbn
    go_wp2_with fail
    go_ret
    exact ⟨⟨w2.heap.size, w.heap.size, w2.heap.size + 1, w.heap.size + 1, B, c⟩, by simp, HF.out.2, HF.out.1⟩
  · obtain ⟨hs, hk, ka, hs1, -⟩ := HH.out
    have kd := kept_alloc (kept_drew kr) (.cells #[.slice none 0 0, .int .i64 0] 61)
    have kx : Kept W ((w2.setCell ⟨W.heap.size, 0, none⟩ (.slice B m c)).setCell ⟨W.heap.size, 1, none⟩ (.int .i64 K)) := kept_set (kept_set (kept_trans kd hk2) (Nat.le_refl _) _) (Nat.le_refl _) _
    have hbo : ((w2.setCell ⟨W.heap.size, 0, none⟩ (.slice B m c)).setCell ⟨W.heap.size, 1, none⟩ (.int .i64 K)).heap[W.heap.size]? = some (.cells #[.slice B m c, .int .i64 K] 61) := blk_set (blk_set Q.out 0 (.slice B m c)) 1 (.int .i64 K)
    have rin := row_in own
    have hss : W.heap.size + 1 ≤ w2.heap.size := by simpa using hk2.size
    have cg : Chg (fun g => g = W.heap.size) w2 ((w2.setCell ⟨W.heap.size, 0, none⟩ (.slice B m c)).setCell ⟨W.heap.size, 1, none⟩ (.int .i64 K)) := ((Chg.refl (fun g => g = W.heap.size) w2).set (p := ⟨W.heap.size, 0, none⟩) rfl (.slice B m c)).set (p := ⟨W.heap.size, 1, none⟩) rfl (.int .i64 K)
    have rd := (row_rd own hl hm).chg cg (fun ad e => by have := (rin ad e).1; simp at this; omega)
    have hz : ((w2.setCell ⟨W.heap.size, 0, none⟩ (.slice B m c)).setCell ⟨W.heap.size, 1, none⟩ (.int .i64 K)).heap.size = w2.heap.size := by simp
    clear n0 n1 f0 f1 n2 f2 Q kd hk2 CL cg
    generalize (w2.setCell ⟨W.heap.size, 0, none⟩ (.slice B m c)).setCell ⟨W.heap.size, 1, none⟩ (.int .i64 K) = w3 at *
    have hbn := blk_new w3 (.cells #[.int .i64 0] 3)
    have HF : Hid (SrNew S k m K xs w.heap.size ⟨W.heap.size, w.heap.size, w3.heap.size, w.heap.size + 1, B, c⟩ (w3.alloc (.cells #[.int .i64 0] 3)) ∧ Kept w (w3.alloc (.cells #[.int .i64 0] 3))) :=
      Lib.hid ⟨⟨blk_alloc hbo _, blk_alloc (blk_kept kx hs) _, blk_alloc (blk_kept kx hk) _, hbn, rd.kept (kept_alloc (kept_refl _) _), ⟨by simp; omega, by simp, by simp⟩, ⟨by simp; omega, by simp; omega, by simp; omega⟩, fun ad e => ⟨by have := (rin ad e).1; simp at this; omega, by have := (rin ad e).2; simp; omega⟩⟩, kept_alloc (kept_trans ka kx) _⟩
    clear hs hk ka kx hbo rin rd own hss hs1 hz hbn
    go_wp2_with fail
    go_ret
    exact ⟨⟨W.heap.size, w.heap.size, w3.heap.size, w.heap.size + 1, B, c⟩, by simp, HF.out.2, HF.out.1⟩
end Go.Proofs.YtdejablhpljdfaaGreat
namespace Go.Proofs.YtdejablhpljdfaaGreat
open Go.RowKit BG
set_option linter.unusedVariables false
section
variable {P : Program} {ops : Array Oper} {Q : Exit → Act → World → Prop} {md : Region.Mode} {S : World → Prop} {z : Nat}
def wpAnyL (P : Program) (md : Region.Mode) (ops : Array Oper) (Q : Exit → Act → World → Prop) (S : World → Prop) (z : Nat) : Nat → Array Bool → Act → World → Prop
  | 0, listed, a, w => Region.ready md ops listed = [] ∧ Q .normal a w
  | fuel + 1, listed, a, w =>
    (Region.ready md ops listed = [] → Q .normal a w) ∧
    ∀ i ∈ Region.ready md ops listed, wpOp P ops Q i (fun a' w' => (i = z ∨ S w') ∧ wpAnyL P md ops Q S z fuel (listed.setIfInBounds i true) a' w') a w
theorem wpAny_of_L : ∀ (fuel : Nat) (listed : Array Bool) (a : Act) (w : World), wpAnyL P md ops Q S z fuel listed a w → wpAny P md ops Q fuel listed a w
  | 0, _, _, _, h => h
  | fuel + 1, _, _, _, h => ⟨h.1, fun i hi => wpOp_mono (fun a' w' h' => wpAny_of_L fuel _ a' w' h'.2) (h.2 i hi)⟩
def waitsB (md : Region.Mode) (ops : Array Oper) (z i : Nat) : Bool := match ops[z]? with
  | some o => o.after.any fun e => Region.binds md e && e.on == i
  | none => false
theorem wpAnyL_first {i : Nat} {oi : Oper} {v : Value} (hi : ops[i]? = some oi) (hsel : ∀ (j : Nat) (o : Oper) cs b, ops[j]? = some o → o.op ≠ .select cs b)
    (hQ : ∀ c a w, Q (.panic c) (a.put oi.dst v) w → Q (.panic c) a w) (hiz : i ≠ z) (hwz : waitsB md ops z i = true) :
    ∀ (fuel : Nat) (listed : Array Bool) (a : Act) (w : World),
      (∀ j oj, ops[j]? = some oj → j ≠ i → listed.getD j true = false → (∀ e ∈ oj.after, Region.binds md e = true → e.on ≠ i) → oi.apart ops oj = true) →
      i ∈ Region.ready md ops listed → YieldsIf P ops S oi v a → S w →
      wpAnyL P md ops Q S z fuel (listed.setIfInBounds i true) (a.put oi.dst v) w → wpAnyL P md ops Q S z (fuel + 1) listed a w := by
  intro fuel
  induction fuel with
  | zero =>
    intro listed a w _ hr hy hS H
    refine ⟨fun h => (by rw [h] at hr; cases hr), fun j hj => ?_⟩
    by_cases hji : j = i
    · subst hji; exact hy.wpOp hi hS ⟨.inr hS, H⟩
    · have := ready_mono hj hji
      rw [H.1] at this
      cases this
  | succ fuel ih =>
    intro listed a w hfree hr hy hS H
    refine ⟨fun h => (by rw [h] at hr; cases hr), fun j hj => ?_⟩
    by_cases hji : j = i
    · subst hji; exact hy.wpOp hi hS ⟨.inr hS, H⟩
    · have h1 := H.2 j (ready_mono hj hji)
      obtain ⟨hjun, oj, hoj, hall⟩ := mem_ready.1 hj
      have hnot : ∀ e ∈ oj.after, Region.binds md e = true → e.on ≠ i := fun e he hb heq => by
        have h1 := hall e he hb
        have h0 := (mem_ready.1 hr).1
        rw [heq] at h1
        rcases Nat.lt_or_ge i listed.size with h' | h'
        · simp [h'] at h0 h1; rw [h0] at h1; cases h1
        · simp [Array.getElem?_eq_none h'] at h1
      have hjz : j ≠ z := fun h => by
        subst h
        unfold waitsB at hwz
        rw [hoj] at hwz
        dsimp only at hwz
        rw [Array.any_eq_true] at hwz
        obtain ⟨q, hq, hb⟩ := hwz
        simp only [Bool.and_eq_true, beq_iff_eq] at hb
        exact hnot _ (Array.getElem_mem hq) hb.1 hb.2
      have h2 := wpOp_putIf hoj (hfree j oj hoj hji hjun hnot) (fun cs b => hsel i oi cs b hi) (fun cs b => hsel j oj cs b hoj) hQ hy h1
      have hfree' : ∀ k ok, ops[k]? = some ok → k ≠ i → (listed.setIfInBounds j true).getD k true = false →
          (∀ e ∈ ok.after, Region.binds md e = true → e.on ≠ i) → oi.apart ops ok = true := fun k ok hk hki hun hno => by
        refine hfree k ok hk hki ?_ hno
        by_cases hjk : j = k
        · subst hjk; exact hjun
        · rw [getD_set_ne true hjk] at hun; exact hun
      refine wpOp_mono (fun a' w' h3 => ?_) h2
      have hS' : S w' := h3.2.1.resolve_left hjz
      refine ⟨.inr hS', ih (listed.setIfInBounds j true) a' w' hfree' (ready_mono hr (Ne.symm hji)) h3.1 hS' ?_⟩
      rw [Array.setIfInBounds_comm _ _ hji]
      exact h3.2.2
def heldList (P : Program) (ops : Array Oper) (S : World → Prop) (K : Act → Prop) : List Oper → Act → Prop
  | [], a => K a
  | o :: l, a => ∃ v, YieldsIf P ops S o v a ∧ heldList P ops S K l (a.put o.dst v)
theorem heldList_cons {K : Act → Prop} {o : Oper} {l : List Oper} {a : Act} (v : Value) (hy : YieldsIf P ops S o v a) (h : heldList P ops S K l (a.put o.dst v)) : heldList P ops S K (o :: l) a := ⟨v, hy, h⟩
theorem heldList_nil {K : Act → Prop} {a : Act} (h : K a) : heldList P ops S K [] a := h
def lexL (md : Region.Mode) (ops : Array Oper) (z : Nat) : Nat → Nat → Array Bool → Bool
  | 0, _, _ => true
  | m + 1, k, listed => (Region.ready md ops listed).contains k && Region.free md ops listed k && waitsB md ops z k && (k != z) && lexL md ops z m (k + 1) (listed.setIfInBounds k true)
def listN : Nat → Nat → Array Bool → Array Bool
  | 0, _, l => l
  | m + 1, k, l => listN m (k + 1) (l.setIfInBounds k true)
theorem heldL (hsel : Region.noSelect ops = true) (hQ : ∀ c a d v w, Q (.panic c) (Act.put a d v) w → Q (.panic c) a w) {g : Nat} {w : World} (hS : S w) :
    ∀ (l : List Oper) (k : Nat) (listed : Array Bool) (a : Act), (∀ j, j < l.length → l[j]? = ops[k + j]?) → lexL md ops z l.length k listed = true →
    heldList P ops S (fun a' => wpAnyL P md ops Q S z g (listN l.length k listed) a' w) l a → wpAnyL P md ops Q S z (l.length + g) listed a w
  | [], k, listed, a, _, _, h => by rw [List.length_nil, Nat.zero_add]; exact h
  | o :: l, k, listed, a, hl, hB, h => by
    have h0 : ops[k]? = some o := by simpa using (hl 0 (by simp)).symm
    simp only [List.length_cons, lexL, Bool.and_eq_true] at hB
    obtain ⟨⟨⟨⟨hr, hf⟩, hw⟩, hkz⟩, hB'⟩ := hB
    obtain ⟨v, hy, hK⟩ := h
    rw [List.length_cons, show l.length + 1 + g = (l.length + g) + 1 by omega]
    refine wpAnyL_first h0 (Region.noSelect_spec hsel) (fun c a w => hQ c a _ _ w) (bne_iff_ne.1 hkz) hw (l.length + g) listed a w (Region.free_spec h0 hf) (by simpa using hr) hy hS ?_
    exact heldL hsel hQ hS l (k + 1) _ _ (fun j hj => by have := hl (j + 1) (by simp; omega); simpa [Nat.add_assoc, Nat.add_comm 1 j] using this) hB' hK
theorem wp_region_last {id : Nat} {a : Act} {w : World} {l : List Oper} (n g z : Nat) (hm : P.follows .mixedOrders = true) (hB : (Region.noSelect l.toArray && lexL .any l.toArray z (l.take n).length 0 (Array.replicate l.length false)) = true)
    (hQ : ∀ c a d v w, Q (.panic c) (Act.put a d v) w → Q (.panic c) a w) (hn : l.length = n + g) (hS : S w.drew)
    (h : heldList P l.toArray S (fun a' => wpAnyL P .any l.toArray Q S z g (listN n 0 (Array.replicate l.length false)) a' w.drew) (l.take n) a) : (Code.region id l.toArray true).wp P Q a w := by
  rw [Bool.and_eq_true] at hB
  have htl : (l.take n).length = n := by rw [List.length_take]; omega
  refine wp_region_any hm (wpAny_of_L (S := S) (z := z) _ _ _ _ ?_)
  have := heldL (md := .any) (P := P) (Q := Q) (z := z) (g := g) hB.1 hQ hS (l.take n) 0 (Array.replicate l.length false) a (fun j hj => by rw [htl] at hj; simp [hj]) hB.2 (by rw [htl]; exact h)
  rw [htl, ← hn] at this
  simpa using this
theorem wpAnyL_one {i : Nat} {o : Oper} {fuel : Nat} {listed : Array Bool} {a : Act} {w : World} (hr : Region.ready md ops listed = [i]) (ho : ops[i]? = some o)
    (h : ∀ K' : Act → World → Prop, Shut (∀ a w, (i = z ∨ S w) → wpAnyL P md ops Q S z fuel (listed.setIfInBounds i true) a w → K' a w) → if Region.wanted o (yielded ops a.tmps) = true then Oper.wp P o a w K' Q else K' (a.put o.dst undef) w) :
    wpAnyL P md ops Q S z (fuel + 1) listed a w :=
  ⟨fun h0 => (by rw [hr] at h0; cases h0), fun j hj => by
    rw [hr] at hj
    obtain rfl : j = i := by simpa using hj
    exact wpOp_step ho fun K' hK => h K' fun a w hS hW => hK a w ⟨hS, hW⟩⟩
theorem wpAnyL_done {listed : Array Bool} {a : Act} {w : World} (hr : Region.ready md ops listed = []) (h : Q .normal a w) :
    ∀ fuel, wpAnyL P md ops Q S z fuel listed a w
  | 0 => ⟨hr, h⟩
  | _ + 1 => ⟨fun _ => h, by rw [hr]; simp⟩
end
end Go.Proofs.YtdejablhpljdfaaGreat
namespace Go.Proofs.YtdejablhpljdfaaGreat
open Go.RowKit BG
attribute [local go_sem ↓] Go.wp_at_zero Go.wp_at_succ run_max_at run_min_at
set_option linter.unusedVariables false
abbrev strO (seen rounds : Int) (qv : Value) (F Z limit longest : Int) (held : ByteArray) (en : Int) (sv fv : Value) : Obj := .cells #[.int .i64 seen, .int .i64 rounds, qv, .int .i64 F, .int .i64 Z, .int .i64 limit, .int .i64 longest, .string held, .int .i64 en, sv, fv] 56
def vsA (vs : Nat → Value) (q : Nat) : Array Value := ((List.range q).map vs).toArray
theorem vsA_at {vs : Nat → Value} {q k : Nat} (h : k < q) : (vsA vs q)[k]? = some (vs k) := by simp [vsA, h]
def updV (vs : Nat → Value) (k : Nat) (v : Value) : Nat → Value := fun i => if i = k then v else vs i
theorem vsA_set {vs : Nat → Value} {q k : Nat} {v : Value} (h : k < q) : (vsA vs q).setIfInBounds k v = vsA (updV vs k v) q := by
  apply Array.ext_getElem?
  intro i
  rw [Array.getElem?_setIfInBounds]
  by_cases hi : k = i
  · subst hi; simp [vsA, h, updV]
  · rw [if_neg hi]
    by_cases hq : i < q
    · rw [vsA_at hq, vsA_at hq]; unfold updV; rw [if_neg (Ne.symm hi)]
    · simp [vsA, hq]
theorem updV_upd (vs : Nat → Value) (k : Nat) (a b : Value) : updV (updV vs k a) k b = updV vs k b := by
  funext i; unfold updV; split <;> rfl
theorem updV_same (vs : Nat → Value) (k : Nat) : updV vs k (vs k) = vs := by
  funext i; unfold updV; split
  · rename_i h; rw [h]
  · rfl
theorem updV_at (vs : Nat → Value) (k : Nat) (v : Value) : updV vs k v k = v := by unfold updV; rw [if_pos rfl]
def newT (L : List Int) (bs z : Int) (j : Nat) : List Int := ((L.take j).filter fun i => decide (z ≤ bs + i)).map fun i => bs + i
theorem newT_succ {L : List Int} {bs z : Int} {j : Nat} (hj : j < L.length) : newT L bs z (j + 1) = newT L bs z j ++ (if z ≤ bs + nth L j then [bs + nth L j] else []) := by
  unfold newT
  rw [List.take_add_one, List.getElem?_eq_getElem hj, List.filter_append, List.map_append, nth_lt hj]
  by_cases h : z ≤ bs + L[j] <;> simp [h]
theorem hits_bd {ys : List Int} {k : Int} {j : Nat} (h : j < (hitsv ys k).length) : 0 ≤ nth (hitsv ys k) j ∧ nth (hitsv ys k) j < ys.length := by
  rw [nth_lt h]
  have := List.getElem_mem h
  generalize (hitsv ys k)[j] = u at *
  unfold hitsv hitsT at this
  obtain ⟨i, hi, rfl⟩ := List.mem_map.1 this
  have := List.mem_range.1 (List.mem_filter.1 hi).1
  omega
def newL (L : List Int) (bs z : Int) : List Int := newT L bs z L.length
def SrchPost (Fo q k M bn : Nat) (vs : Nat → Value) (f : List Int) (z' : Int) (w : World) (e : Ending) (w' : World) : Prop :=
  ∃ v, e = .returned (.tuple #[]) ∧ Own .i64 3 M w' v f ∧ w'.heap[Fo]? = some (.cells (vsA (updV vs k v) q) 24) ∧ w'.heap[bn]? = some (.cells #[.int .i64 z'] 3) ∧
    Chg (fun g => g = Fo ∨ g = bn ∨ (vs k).ownBlock = some g) w w' ∧ (v.ownBlock = (vs k).ownBlock ∨ ∀ g, v.ownBlock = some g → w.heap.size ≤ g)
set_option maxRecDepth 100000 in
set_option maxHeartbeats 8000000 in
theorem srch_c (S Fo q k M : Nat) (x : Nd) (r : Sr) (F : Nat) (hF : F ≤ 5) (Z : Int) (vs : Nat → Value) (f : List Int) (z : Int) (bs : Nat) (tx : ByteArray) (w : World)
    (seen rounds limit longest : Int) (qv sv : Value) (held : ByteArray) (en : Int)
    (hfix : SrFix S k x r w) (hn : w.heap[r.bn]? = some (.cells #[.int .i64 z] 3))
    (hS : w.heap[S]? = some (strO seen rounds qv F Z limit longest held en sv (.slice (some ⟨Fo, 0, none⟩) q q)))
    (hFo : w.heap[Fo]? = some (.cells (vsA vs q) 24)) (own : Own .i64 3 M w (vs k) f) (hk : k < q)
    (d1 : r.bn ≠ Fo ∧ r.bn ≠ S ∧ r.bn ≠ r.bo ∧ r.bn ≠ r.bs ∧ r.bn ≠ r.bk) (d2 : Fo ≠ S ∧ Fo ≠ r.bo ∧ Fo ≠ r.bs ∧ Fo ≠ r.bk) (d3 : r.bo < M ∧ r.bs < M ∧ r.bk < M ∧ r.bn < M ∧ S < M ∧ Fo < M) (hM : M ≤ w.heap.size)
    (hu : U64 x.xs) (hl : x.xs.length = 4 * x.m) (hrv : rightv x.xs x.m x.K = true) (ht : tx.size ≤ 100000) (hb : bs ≤ 100000) (hf : f.length ≤ 1000000) (hz : -1000000 ≤ z ∧ z ≤ 1000000) :
    Calls Tryz.prog 73 #[.int .i64 (bs : Nat), .string tx, .pointer (some ⟨r.bo, 0, none⟩), .pointer (some ⟨r.bs, 0, none⟩), .pointer (some ⟨r.bn, 0, none⟩), .pointer (some ⟨r.bk, 0, none⟩)] w (SrchPost Fo q k M r.bn vs (f ++ newL (hitsv (countsv x.xs x.m x.K tx) x.K) bs z) (max z ((bs : Int) + tx.size - x.m + 1)) w) := by
  obtain ⟨hbo, hbs, hbk, hrd⟩ := hfix
  obtain ⟨-, hm64, -⟩ := rightv_n hrv
  have EL := fun w1 h => evleaf_c F hF Z r.A r.c x.m x.xs x.K tx hu hl hrv (by omega) w1 h
  have hbd : ∀ j, j < (hitsv (countsv x.xs x.m x.K tx) x.K).length → 0 ≤ nth (hitsv (countsv x.xs x.m x.K tx) x.K) j ∧ nth (hitsv (countsv x.xs x.m x.K tx) x.K) j ≤ 100000 := fun j hj => by
    have h1 := hits_bd hj
    have h2 := countsv_len x.xs x.m x.K tx
    omega
  have hlb : (hitsv (countsv x.xs x.m x.K tx) x.K).length ≤ 100001 := by
    have h1 := hitsT_len (countsv x.xs x.m x.K tx) x.K (countsv x.xs x.m x.K tx).length
    have h2 := countsv_len x.xs x.m x.K tx
    unfold hitsv; omega
  have HBD := Lib.hid hbd
  clear hbd
  generalize hL : hitsv (countsv x.xs x.m x.K tx) x.K = L at *
  obtain ⟨bo, bsx, bn, bk, A, c⟩ := r
  obtain ⟨kk, nn, xA, m, xcap, K, xs⟩ := x
  dsimp only at *
  have a0 := blk_cell hbo 0
  have a1 := blk_cell hbo 1
  have a2 := blk_cell hbs 0
  have a3 := blk_cell hS 3
  have a4 := blk_cell hS 4
  go_enter Tryz.func73, Tryz.ntmps73
  go_wp2_with fail
  have kr := kept_refl w
  go_region_held3 (fun w' => w'.cell? ⟨bo, 0, none⟩ = some (.slice A m c) ∧ w'.cell? ⟨bo, 1, none⟩ = some (.int .i64 K) ∧ w'.cell? ⟨bsx, 0, none⟩ = some (.pointer (some ⟨S, 0, none⟩)) ∧ w'.cell? ⟨S, 3, none⟩ = some (.int .i64 (F : Nat)) ∧ w'.cell? ⟨S, 4, none⟩ = some (.int .i64 Z)) (first | exact ⟨by assumption, by assumption, by assumption, by assumption, by assumption⟩ | exact ⟨kept_cell hk1 a0, kept_cell hk1 a1, kept_cell hk1 a2, kept_cell hk1 a3, kept_cell hk1 a4⟩) ((go_at_call 74; refine (EL _ (hrd.kept (kept_drew kr))).mono ?_; rintro e w1 ⟨B, cB, NN, EE, rfl, rdL, hk1⟩; replace hk1 := kept_trans (kept_drew kr) hk1))
  have hown00 : World.ownsRow _ _ _ _ _ _ _ := own
  have hx1 : Chg (fun g => g = Fo ∨ g = bn ∨ (vs k).ownBlock = some g) w w1 := Chg.of_kept hk1
  have hs1 := hk1.size
  replace hbo := blk_kept hk1 hbo
  replace hbs := blk_kept hk1 hbs
  replace hbk := blk_kept hk1 hbk
  replace hn := blk_kept hk1 hn
  replace hS := blk_kept hk1 hS
  replace hFo := blk_kept hk1 hFo
  replace own := own.kept hk1
  clear EL hrd hk1 a0 a1 a2 a3 a4
  generalize hll : L.length = nL at *
  have HL := Lib.hid hll
  clear hll
  obtain ⟨ib, hib, hy0, hy1, hy2⟩ := info_parts info_i64c
  have hown0 : World.ownsRow _ _ _ _ _ _ _ := own
  have HX : Hid (∀ g, g < M → g ≠ Fo → ¬ (g = Fo ∨ (vs k).ownBlock = some g)) := Lib.hid fun g h1 h2 h3 => by
    rcases h3 with h3 | h3
    · exact h2 h3
    · have := (World.ownsRow.lt hown0 g h3).1; omega
  have HX2 : Hid (∀ ad, B = some ad → ¬ (ad.block = Fo ∨ (vs k).ownBlock = some ad.block)) := Lib.hid fun ad e h => by
    have h1 : w.heap.size ≤ ad.block := rdL.2 ad e
    rcases h with h | h
    · omega
    · have := (World.ownsRow.lt hown00 _ h).2; omega
  go_wp2_with fail
  go_loopw [12, 26] (fun _ i wr => ∃ (j n' : Nat) (v : Value), j ≤ nL ∧ i = .int .i64 j ∧ n' ≤ f.length + j ∧ wr.heap[Fo]? = some (.cells (vsA (updV vs k v) q) 24) ∧ wr.ownsRow M 3 1 v n' ((f ++ newT L bs z j).map (Value.int .i64)) ∧ Hid (n' = (f ++ newT L bs z j).length) ∧ Chg (fun g => g = Fo ∨ (vs k).ownBlock = some g) w1 wr ∧ Hid (v.ownBlock = (vs k).ownBlock ∨ ∀ g, v.ownBlock = some g → w1.heap.size ≤ g)) (fun _ i _ => nL - (intOf i).toNat)
  case atStart => exact ⟨0, f.length, vs k, Nat.zero_le _, rfl, Nat.le_refl _, by rw [updV_same]; exact hFo, by simpa [newT] using hown0, Lib.hid (by simp [newT]), Chg.refl _ _, Lib.hid (.inl rfl)⟩
  case round =>
    obtain ⟨j, n', v, hj, rfl, hn', hFw, ho, HN, hcg, HV⟩ := hrel
    have hbnw := hcg.blk hn (HX.out bn d3.2.2.2.1 d1.1)
    have hbow := hcg.blk hbo (HX.out bo d3.1 (fun h => d2.2.1 h.symm))
    have hbsw := hcg.blk hbs (HX.out bsx d3.2.1 (fun h => d2.2.2.1 h.symm))
    have hbkw := hcg.blk hbk (HX.out bk d3.2.2.1 (fun h => d2.2.2.2 h.symm))
    have hSw := hcg.blk hS (HX.out S d3.2.2.2.2.1 (fun h => d2.1 h.symm))
    have hws := hcg.size
    by_cases hlt : j < nL
    · obtain ⟨ad, rfl, e0⟩ := (rdL.1.chg hcg (fun ad e => HX2.out ad e)).at_ (j := j) (by rw [HL.out]; exact hlt)
      have hnb := HBD.out j hlt
      have HS := Lib.hid (newT_succ (bs := (bs : Int)) (z := z) (by rw [HL.out]; exact hlt : j < L.length))
      generalize nth L j = y at *
      have b0 := blk_cell hbnw 0
      have b1 := blk_cell hbsw 0
      have b2 := blk_cell hSw 10
      have b3 := blk_cell hbkw 0
      have b4 := blk_cell hFw k
      rw [vsA_at hk, updV_at] at b4
      have f4 := blk_frozen hFw k
      by_cases hzy : z ≤ (bs : Int) + y
      · have d9 : decide (z ≤ (bs : Int) + y) = true := decide_eq_true hzy
        have hs := HS.out
        rw [if_pos hzy] at hs
        have HS2 := Lib.hid hs
        clear HS hs
        go_wp2_with fail
        have hvf : ∃ A c, v = .slice A n' c := by
          rcases ho.2 with ⟨h1, h2⟩ | ⟨g, cap, _, h1, _⟩
          · exact ⟨none, 0, by rw [h1, h2]⟩
          · exact ⟨_, cap, h1⟩
        obtain ⟨vA, vc, rfl⟩ := hvf
        have hk0 : (0 : Int) ≤ (k : Int) := by omega
        have hkq : (k : Int) < (q : Int) := by omega
        have lF : Fo < wr.heap.size := blk_lt hFw
        have kw := kept_refl wr
        have hgM := fun g h => (World.ownsRow.lt ho g h).1
        have hne : ∀ g, g < M → some g ≠ (Value.slice vA n' vc).ownBlock := fun g h e => by have := hgM g e.symm; omega
        have HNE := Lib.hid hne
        have hwrap : IntKind.i64.wrap ((bs : Int) + y) = (bs : Int) + y := IntWalk.i64_in _ (by omega)
        clear hgM hne
        refine wp_region_last (S := fun w' => w'.cell? ⟨bsx, 0, none⟩ = some (.pointer (some ⟨S, 0, none⟩)) ∧ w'.cell? ⟨S, 10, none⟩ = some (.slice (some ⟨Fo, 0, none⟩) q q) ∧ w'.cell? ⟨bk, 0, none⟩ = some (.int .i64 (k : Nat)) ∧ w'.cell? ⟨Fo, k, none⟩ = some (.slice vA n' vc)) 15 4 18 (by kernel_rfl) (by kernel_rfl) (fun _ _ d _ _ h => by cases d <;> exact h) (by rfl) ⟨kept_cell (kept_drew kw) b1, kept_cell (kept_drew kw) b2, kept_cell (kept_drew kw) b3, kept_cell (kept_drew kw) b4⟩ ?_
        simp only [List.take_succ_cons, List.take_zero]
        iterate 15 ((refine heldList_cons ?_ (Or.inl ⟨by rfl, fun w hSw => ?_⟩) ?_; rotate_left; (obtain ⟨s1, s2, s3, s4⟩ := hSw; go_simp); (first | done | with_reducible rfl | skip)); (simp only [Act.put, List.setIfInBounds_toArray, List.set_cons_zero, List.set_cons_succ]))
        refine heldList_nil ?_
        refine wpAnyL_one (i := 15) (by kernel_rfl) (by rfl) (fun K' hK => ?_)
        go_simp
        refine hK.out _ _ (Or.inr ⟨kept_cell (kept_drew (kept_alloc kw _)) b1, kept_cell (kept_drew (kept_alloc kw _)) b2, kept_cell (kept_drew (kept_alloc kw _)) b3, kept_cell (kept_drew (kept_alloc kw _)) b4⟩) ?_
        clear hK K'
        refine wpAnyL_one (i := 16) (by kernel_rfl) (by rfl) (fun K' hK => ?_)
        refine step_append_lies _ (by rfl) _ _ _ (by rfl) M 3 ib _ 1 8 Tryz.underlying24 hib hy0 hy1 hy2 rfl (by omega) _ n' _ (by rfl) ((World.ownsRow.alloc ho _).drew) ⟨wr.heap.size, 0, none⟩ 1 1 [.int .i64 ((bs : Int) + y)] (by rfl) (by rfl) (World.news_of_block (cs := #[.int .i64 ((bs : Int) + y)]) (t := 3) (fr := (0, 0)) (heap_alloc_new wr _)) (by simp [Value.oneCell']) (by omega) (by unfold maxLen; omega) (by omega) (by simp; omega) (wr.heap.size + 1) (by simp) ?_
        intro g cap w5 ho5 hg5 hat5 hlt5
        have q5 := grown_blk hg5 (show ((wr.alloc _).drew).heap[Fo]? = _ from blk_alloc hFw _) (HNE.out Fo d3.2.2.2.2.2)
        have p5 := blk_cell q5 k
        rw [vsA_at hk, updV_at] at p5
        have f5 := blk_frozen q5 k
        have e1 := blk_cell (grown_blk hg5 (show ((wr.alloc _).drew).heap[bsx]? = _ from blk_alloc hbsw _) (HNE.out bsx d3.2.1)) 0
        have e2 := blk_cell (grown_blk hg5 (show ((wr.alloc _).drew).heap[S]? = _ from blk_alloc hSw _) (HNE.out S d3.2.2.2.2.1)) 10
        have e3 := blk_cell (grown_blk hg5 (show ((wr.alloc _).drew).heap[bk]? = _ from blk_alloc hbkw _) (HNE.out bk d3.2.2.1)) 0
        refine hK.out _ _ (Or.inr ⟨e1, e2, e3, p5⟩) ?_
        clear hK K'
        simp only [Act.put, List.setIfInBounds_toArray]
        refine wpAnyL_one (i := 17) (by kernel_rfl) (by rfl) (fun K' hK => ?_)
        go_simp
        refine hK.out _ _ (Or.inr ⟨e1, e2, e3, p5⟩) ?_
        clear hK K'
        refine wpAnyL_one (i := 18) (by kernel_rfl) (by rfl) (fun K' hK => ?_)
        go_simp
        refine hK.out _ _ (Or.inl rfl) ?_
        clear hK K'
        refine wpAnyL_done (by kernel_rfl) ?_ _
        have G5 := grown_trans (grown_of_kept (row := (Value.slice vA n' vc).ownBlock) (kept_drew (kept_alloc (kept_refl wr) (.cells #[.int .i64 ((bs : Int) + y)] 3)))) hg5
        have cg5 := hcg.grow G5 (fun g e => by
          rcases HV.out with h | h
          · exact .inl (.inr (h.symm.trans e))
          · exact .inr (h g e))
        have cg6 := cg5.set (p := ⟨Fo, k, none⟩) (Or.inl rfl) (.slice (some ⟨g, 0, none⟩) (n' + 1) cap)
        have hF6 := blk_set q5 k (.slice (some ⟨g, 0, none⟩) (n' + 1) cap)
        rw [vsA_set hk, updV_upd] at hF6
        have ho6 := ownN_set ho5 (p := ⟨Fo, k, none⟩) d3.2.2.2.2.2 (.slice (some ⟨g, 0, none⟩) (n' + 1) cap)
        have HV6 : Hid ((Value.slice (some ⟨g, 0, none⟩) (n' + 1) cap).ownBlock = (vs k).ownBlock ∨ ∀ g', (Value.slice (some ⟨g, 0, none⟩) (n' + 1) cap).ownBlock = some g' → w1.heap.size ≤ g') := Lib.hid (by
          rcases hat5 with h | h
          · rcases HV.out with h2 | h2
            · exact .inl (h.symm.trans h2)
            · exact .inr fun g' e => by have e2 : g = g' := Option.some.inj e; subst e2; exact h2 g h
          · exact .inr fun g' e => by have e2 : g = g' := Option.some.inj e; omega)
        have HE := Lib.hid (⟨hF6, ho6, cg6⟩ : _ ∧ _ ∧ _)
        clear G5 cg5 cg6 hF6 ho6 hat5 hlt5 hg5 ho5 q5 p5 f5 e1 e2 e3 HNE b0 b1 b2 b3 b4 f4 hcg HV ho hFw hbnw hbow hbsw hbkw hSw e0 kw lF hwrap
        go_wp2_with fail
        go_roundw
        case rel => exact ⟨j + 1, n' + 1, _, by omega, by go_num, by omega, HE.out.1, by have := HE.out.2.1; rw [HS2.out, ← List.append_assoc, List.map_append]; simpa using this, Lib.hid (by rw [HS2.out, ← List.append_assoc, List.length_append, ← HN.out]; rfl), HE.out.2.2, HV6⟩
        case measure => simp [intOf]; omega
      · have d9 : decide (z ≤ (bs : Int) + y) = false := decide_eq_false hzy
        have hs := HS.out
        rw [if_neg hzy, List.append_nil] at hs
        have HS2 := Lib.hid hs
        clear HS hs
        go_wp2_with fail
        go_roundw
        case rel => exact ⟨j + 1, n', v, by omega, by go_num, by omega, hFw, by rw [HS2.out]; exact ho, Lib.hid (by rw [HS2.out]; exact HN.out), hcg, HV⟩
        case measure => simp [intOf]; omega
    · obtain rfl : j = nL := by omega
      have hc0 := blk_cell hbnw 0
      have hf0 := blk_frozen hbnw 0
      have hc1 := blk_cell hbow 0
      go_wp2_with fail
      go_end0
      have hnl : newT L bs z j = newL L bs z := by unfold newL; rw [HL.out]
      rw [hnl] at ho HN
      have hbM : bn < M := d3.2.2.2.1
      refine ⟨v, rfl, ?_, blk_far hFw (Ne.symm d1.1) _, blk_set hbnw 0 _, ?_, ?_⟩
      · have := ownN_set ho (p := ⟨bn, 0, none⟩) hbM (.int .i64 (max z ((bs : Int) + tx.size - m + 1)))
        unfold Own
        rw [← HN.out]
        exact this
      · refine hx1.trans ((hcg.mono fun g h => ?_).set (p := ⟨bn, 0, none⟩) (Or.inr (Or.inl rfl)) _)
        rcases h with h | h
        · exact .inl h
        · exact .inr (.inr h)
      · rcases HV.out with h | h
        · exact .inl h
        · exact .inr fun g e => Nat.le_trans hs1 (h g e)
end Go.Proofs.YtdejablhpljdfaaGreat
namespace Go.Proofs.YtdejablhpljdfaaGreat
open Go.RowKit BG
attribute [local go_sem ↓] Go.wp_at_zero Go.wp_at_succ run_max_at run_min_at
set_option linter.unusedVariables false
abbrev confW (F Z : Int) : Value := .agg #[.int .i64 F, .int .i64 Z]
def evE (l : List Nd) (F Z : Int) : Int := if qrightv l = false ∨ F < 0 ∨ 5 < F then 180 else if Z ≠ 0 ∧ (hasLog Z = false ∨ Z < (longv l : Nat)) then 50 else 0
theorem Nd.ok.m_le {w : World} {x : Nd} (h : x.ok w) : x.m ≤ 9223372036854775807 := by have := h.1; have := h.2.2.1; omega
theorem anybad_ok {l : List Nd} (h : qrightv l = true) : l.length ≤ 64 ∧ (∀ x ∈ l, ndokv x = true) ∧ 1 ≤ depthv l ∧ depthv l ≤ 16 := by
  unfold qrightv at h
  simp only [Bool.and_eq_true, decide_eq_true_eq, Bool.not_eq_true'] at h
  obtain ⟨⟨⟨h1, h2⟩, h3⟩, h4⟩ := h
  refine ⟨h1, fun x hx => ?_, h3, h4⟩
  unfold anybad at h2
  rw [List.any_eq_false] at h2
  have := h2 x hx
  simpa using this
set_option maxRecDepth 100000 in
set_option maxHeartbeats 4000000 in
theorem echeck_c (A : Option Addr) (cap : Nat) (l : List Nd) (F Z : Int) (hcap : l.length ≤ cap) (hcap2 : cap ≤ 9223372036854775807) (w : World) (hr : RdN w A l) : Calls Tryz.prog 39 #[.slice A l.length cap, confW F Z] w (Ret (.int .i64 (evE l F Z)) w) := by
  have LG := fun w1 => log_c Z w1
  have QR := fun w1 h => qright_c A cap l hcap hcap2 w1 h
  have hbd := hr.1
  have LO := fun (h : qrightv l = true) w1 hr1 => longest_c A cap l (by have := (anybad_ok h).1; omega) (fun x hx => (hr.2.2 x hx).m_le) w1 hr1
  have hb := blk_new w (.cells #[.int .i64 F, .int .i64 Z] 32)
  have ka := kept_alloc (kept_refl w) (.cells #[.int .i64 F, .int .i64 Z] 32)
  have c0 := blk_cell hb 0
  have c1 := blk_cell hb 1
  have hE : evE l F Z = if qrightv l = false ∨ F < 0 ∨ 5 < F then 180 else if Z ≠ 0 ∧ (hasLog Z = false ∨ Z < (longv l : Nat)) then 50 else 0 := rfl
  have HE := Lib.hid hE
  unfold Ltuple at LG
  clear hE
  generalize evE l F Z = er at *
  generalize qrightv l = qr at *
  generalize longv l = lv at *
  generalize hasLog Z = hl at *
  generalize lgv Z = lg at *
  generalize l.length = m at *
  go_enter Tryz.func39, Tryz.ntmps39
  go_wp2_with fail
  refine (LG _).mono ?_
  rintro e w1 ⟨rfl, hk1⟩
  replace ka := kept_trans ka hk1
  replace hb := blk_kept hk1 hb
  replace c0 : w1.cell? ⟨w.heap.size, 0, none⟩ = some (.int .i64 F) := blk_cell hb 0
  replace c1 : w1.cell? ⟨w.heap.size, 1, none⟩ = some (.int .i64 Z) := blk_cell hb 1
  clear LG hk1
  go_wp2_with fail
  refine (QR _ (hr.kept ka)).mono ?_
  rintro e w2 ⟨rfl, hk2⟩
  replace ka := kept_trans ka hk2
  replace hb := blk_kept hk2 hb
  replace c0 : w2.cell? ⟨w.heap.size, 0, none⟩ = some (.int .i64 F) := blk_cell hb 0
  replace c1 : w2.cell? ⟨w.heap.size, 1, none⟩ = some (.int .i64 Z) := blk_cell hb 1
  clear QR hk2
  cases qr
  · have he := HE.out
    rw [if_pos (.inl rfl)] at he
    subst he
    clear HE LO
    go_wp2_with fail
    go_ret
    exact ⟨rfl, ka⟩
  · have LO2 := LO rfl
    clear LO
    by_cases hf : F < 0
    · have he := HE.out
      rw [if_pos (.inr (.inl hf))] at he
      subst he
      have d1 : decide (F < 0) = true := decide_eq_true hf
      clear HE LO2
      go_wp2_with fail
      go_ret
      exact ⟨rfl, ka⟩
    · have d1 : decide (F < 0) = false := decide_eq_false hf
      by_cases hf5 : 5 < F
      · have he := HE.out
        rw [if_pos (.inr (.inr hf5))] at he
        subst he
        have d2 : decide (5 < F) = true := decide_eq_true hf5
        clear HE LO2
        go_wp2_with fail
        go_ret
        exact ⟨rfl, ka⟩
      · have d2 : decide (5 < F) = false := decide_eq_false hf5
        have he := HE.out
        rw [if_neg (by rintro (h | h | h); cases h; exact hf h; exact hf5 h)] at he
        by_cases hz : Z = 0
        · subst hz
          rw [if_neg (fun h => h.1 rfl)] at he
          subst he
          clear HE LO2
          go_wp2_with fail
          go_quiet (fail)
          go_wp2_with fail
          go_ret
          exact ⟨rfl, kept_drewN ka _⟩
        · have z1 : (Z != 0) = true := bne_iff_ne.2 hz
          have z2 : (Z == 0) = false := beq_eq_false_iff_ne.2 hz
          cases hl
          · rw [if_pos ⟨hz, .inl rfl⟩] at he
            subst he
            clear HE LO2
            go_wp2_with fail
            go_quiet (fail)
            go_wp2_with fail
            go_ret
            exact ⟨rfl, kept_drewN ka _⟩
          · have RR : ∀ s : KW w2, RdN s.val A l := fun s => (hr.kept ka).kept s.kept
            by_cases hzl : Z < (lv : Nat)
            · rw [if_pos ⟨hz, .inr hzl⟩] at he
              subst he
              have d3 : decide (Z < (lv : Int)) = true := decide_eq_true hzl
              clear HE hr
              go_wp2_with fail
              have ks_c0 := fun s => kw_cell s c0
              have ks_c1 := fun s => kw_cell s c1
              refine wp_region_kept (by kernel_rfl) (by kernel_rfl) ?_
              repeat (first | go_big_quiet_skip | (go_big_quiet_want; go_big_quiet_op; first | go_big_quiet_on | (apply Exists.intro; refine ⟨fun s => ?_, ?_⟩; (first | (go_at_call 20; exact call_kept (LO2 _ (RR _)))); go_big_quiet_on)))
              refine wpQuiet_nil ?_
              rintro w9 ⟨⟨_, hk9⟩, rfl⟩
              clear ks_c0
              clear ks_c1
              clear LO2 c0 c1
              go_wp2_with fail
              go_ret
              exact ⟨rfl, kept_trans ka hk9⟩
            · rw [if_neg (by rintro ⟨_, h | h⟩; cases h; exact hzl h)] at he
              subst he
              have d3 : decide (Z < (lv : Int)) = false := decide_eq_false hzl
              clear HE hr
              go_wp2_with fail
              have ks_c0 := fun s => kw_cell s c0
              have ks_c1 := fun s => kw_cell s c1
              refine wp_region_kept (by kernel_rfl) (by kernel_rfl) ?_
              repeat (first | go_big_quiet_skip | (go_big_quiet_want; go_big_quiet_op; first | go_big_quiet_on | (apply Exists.intro; refine ⟨fun s => ?_, ?_⟩; (first | (go_at_call 20; exact call_kept (LO2 _ (RR _)))); go_big_quiet_on)))
              refine wpQuiet_nil ?_
              rintro w9 ⟨⟨_, hk9⟩, rfl⟩
              clear ks_c0
              clear ks_c1
              clear LO2 c0 c1
              go_wp2_with fail
              go_ret
              exact ⟨rfl, kept_trans ka hk9⟩
end Go.Proofs.YtdejablhpljdfaaGreat
