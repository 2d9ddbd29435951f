/-
  Texts of one claim, joined: TStream4, TStream5, TStream6, TOpen, TJoin1.
-/
import Derived.Test.YtdejablhpljdfaaGreatQ29
import Derived.Test.YtdejablhpljdfaaGreatQ06
import Derived.Test.YtdejablhpljdfaaGreatQ17
import Derived.Test.YtdejablhpljdfaaGreatQ13
import Derived.Test.YtdejablhpljdfaaGreatQ23
import Derived.Test.YtdejablhpljdfaaGreatQ26
namespace Go.Proofs.YtdejablhpljdfaaGreat
open Go.RowKit BG
attribute [local go_sem ↓] Go.wp_at_zero Go.wp_at_succ run_max_at run_min_at
set_option linter.unusedVariables false
structure StrC where
  S : Nat
  Fo : Nat
  q : Nat
  M : Nat
  F : Nat
  Z : Int
  limit : Nat
  longest : Nat
  x : Nat → Nd
  r : Nat → Sr
  lo : Nat → Nat
  l : List Nd
  qA : Option Addr
  qc : Nat
  sA : Option Addr
  sc : Nat
structure StrV where
  seen : Nat
  rounds : Nat
  held : ByteArray
  en : Int
  z : Nat → Int
  f : Nat → List Int
  vs : Nat → Value
structure StrOK (base : Nat) (c : StrC) : Prop where
  hS : base ≤ c.S ∧ c.S < c.lo 0
  hF : base ≤ c.Fo ∧ c.Fo < c.lo 0 ∧ c.S ≠ c.Fo
  hM : c.lo c.q ≤ c.M
  step : ∀ k, k < c.q → c.lo k ≤ (c.r k).bo ∧ c.lo k ≤ (c.r k).bs ∧ c.lo k ≤ (c.r k).bk ∧ (c.r k).bo < (c.r k).bn ∧ (c.r k).bs < (c.r k).bn ∧ (c.r k).bk < (c.r k).bn ∧ (c.r k).bn < c.lo (k + 1)
  row : ∀ k, k < c.q → ∀ ad, (c.r k).A = some ad → c.lo k ≤ ad.block ∧ ad.block < (c.r k).bn
  hs : ∀ ad, c.sA = some ad → base ≤ ad.block ∧ ad.block < c.M ∧ ad.block ≠ c.S ∧ ad.block ≠ c.Fo ∧ ∀ k, k < c.q → ad.block ≠ (c.r k).bn
  hq : ∀ ad, c.qA = some ad → base ≤ ad.block ∧ ad.block < c.lo 0 ∧ ad.block ≠ c.S ∧ ad.block ≠ c.Fo
  leaf : ∀ k, k < c.q → U64 (c.x k).xs ∧ (c.x k).xs.length = 4 * (c.x k).m ∧ rightv (c.x k).xs (c.x k).m (c.x k).K = true
  five : c.F ≤ 5
  lim : c.limit ≤ 10000 ∧ c.longest ≤ c.limit
  qcap : c.l.length ≤ c.qc ∧ c.qc ≤ 9223372036854775807
structure StrS (c : StrC) (v : StrV) (w : World) : Prop where
  s : w.heap[c.S]? = some (strO v.seen v.rounds (.slice c.qA c.l.length c.qc) c.F c.Z c.limit c.longest v.held v.en (.slice c.sA c.q c.sc) (.slice (some ⟨c.Fo, 0, none⟩) c.q c.q))
  fo : w.heap[c.Fo]? = some (.cells (vsA v.vs c.q) 24)
  fix : ∀ k, k < c.q → SrFix c.S k (c.x k) (c.r k) w
  n : ∀ k, k < c.q → w.heap[(c.r k).bn]? = some (.cells #[.int .i64 (v.z k)] 3)
  own : ∀ k, k < c.q → Own .i64 3 c.M w (v.vs k) (v.f k)
  apart : ∀ j k, j < c.q → k < c.q → j ≠ k → ∀ g, (v.vs j).ownBlock = some g → (v.vs k).ownBlock ≠ some g
  fns : ∀ k, k < c.q → ∃ ad, c.sA = some ad ∧ w.cell? (ad.add k) = some (c.r k).fn
  qs : ∀ j x, c.l[j]? = some x → ∃ ad, c.qA = some ad ∧ NdAt w (ad.add (j * 4)) x
theorem lo_mono {base : Nat} {c : StrC} (h : StrOK base c) : ∀ (d k : Nat), k + d ≤ c.q → c.lo k ≤ c.lo (k + d)
  | 0, k, _ => Nat.le_refl _
  | d + 1, k, hk => by
    have h1 := lo_mono h d k (by omega)
    obtain ⟨a, b, c', d', e, f, g⟩ := h.step (k + d) (by omega)
    rw [← Nat.add_assoc]; omega
def StrX (c : StrC) (g : Nat) : Prop := g = c.S ∨ g = c.Fo ∨ (∃ k, k < c.q ∧ g = (c.r k).bn) ∨ c.M ≤ g
theorem lo_at {base : Nat} {c : StrC} (h : StrOK base c) {j k : Nat} (hjk : j < k) (hk : k ≤ c.q) : c.lo (j + 1) ≤ c.lo k := by
  have := lo_mono h (k - (j + 1)) (j + 1) (by omega)
  rwa [show j + 1 + (k - (j + 1)) = k by omega] at this
theorem lo_lt {base : Nat} {c : StrC} (h : StrOK base c) {k : Nat} (hk : k < c.q) : c.lo 0 ≤ c.lo k ∧ c.lo (k + 1) ≤ c.M := by
  have h1 := lo_mono h k 0 (by omega)
  have h2 := lo_mono h (c.q - (k + 1)) (k + 1) (by omega)
  rw [Nat.zero_add] at h1
  rw [show k + 1 + (c.q - (k + 1)) = c.q by omega] at h2
  have := h.hM
  omega
theorem fixed {base : Nat} {c : StrC} (h : StrOK base c) {k : Nat} (hk : k < c.q) {g : Nat} (hg : c.lo k ≤ g) (hg2 : g < (c.r k).bn) : ¬ StrX c g := by
  obtain ⟨a1, a2, a3, a4, a5, a6, a7⟩ := h.step k hk
  obtain ⟨l1, l2⟩ := lo_lt h hk
  have hS := h.hS
  have hF := h.hF
  rintro (rfl | rfl | ⟨j, hj, rfl⟩ | h4)
  · omega
  · omega
  · obtain ⟨b1, b2, b3, b4, b5, b6, b7⟩ := h.step j hj
    rcases Nat.lt_trichotomy j k with h1 | h1 | h1
    · have := lo_at h h1 (by omega); omega
    · subst h1; omega
    · have := lo_at h h1 (by omega); omega
  · omega
theorem StrX.ge {base : Nat} {c : StrC} (h : StrOK base c) (hb : base ≤ c.M) {g : Nat} (hx : StrX c g) : base ≤ g := by
  rcases hx with rfl | rfl | ⟨k, hk, rfl⟩ | h4
  · exact h.hS.1
  · exact h.hF.1
  · obtain ⟨b1, b2, b3, b4, b5, b6, b7⟩ := h.step k hk
    have := lo_lt h hk
    have := h.hS
    omega
  · omega
theorem srfix_chg {X : Nat → Prop} {S k : Nat} {x : Nd} {r : Sr} {w w1 : World} (h : SrFix S k x r w) (hc : Chg X w w1) (h1 : ¬ X r.bo) (h2 : ¬ X r.bs) (h3 : ¬ X r.bk) (h4 : ∀ ad, r.A = some ad → ¬ X ad.block) : SrFix S k x r w1 :=
  ⟨hc.blk h.1 h1, hc.blk h.2.1 h2, hc.blk h.2.2.1 h3, h.2.2.2.chg hc h4⟩
theorem StrS.fixes {base : Nat} {c : StrC} {v : StrV} {w w1 : World} (hok : StrOK base c) (h : StrS c v w) (hc : Chg (StrX c) w w1) :
    (∀ k, k < c.q → SrFix c.S k (c.x k) (c.r k) w1) ∧ (∀ k, k < c.q → ∃ ad, c.sA = some ad ∧ w1.cell? (ad.add k) = some (c.r k).fn) ∧ (∀ j x, c.l[j]? = some x → ∃ ad, c.qA = some ad ∧ NdAt w1 (ad.add (j * 4)) x) := by
  refine ⟨fun k hk => ?_, fun k hk => ?_, fun j x hx => ?_⟩
  · obtain ⟨a1, a2, a3, a4, a5, a6, a7⟩ := hok.step k hk
    exact srfix_chg (h.fix k hk) hc (fixed hok hk a1 a4) (fixed hok hk a2 a5) (fixed hok hk a3 a6) fun ad e => by
      have := hok.row k hk ad e
      exact fixed hok hk this.1 this.2
  · obtain ⟨ad, e, hcl⟩ := h.fns k hk
    refine ⟨ad, e, hc.cell hcl ?_⟩
    rw [ad_block]
    obtain ⟨b1, b2, b3, b4, b5⟩ := hok.hs ad e
    rintro (h1 | h1 | ⟨j, hj, h1⟩ | h1)
    · exact b3 h1
    · exact b4 h1
    · exact b5 j hj h1
    · omega
  · obtain ⟨ad, e, hcl⟩ := h.qs j x hx
    have hb : ∀ o, ¬ StrX c (⟨(ad.add (j * 4)).block, o, none⟩ : Addr).block := fun o => by
      show ¬ StrX c (ad.add (j * 4)).block
      rw [ad_block]
      obtain ⟨b1, b2, b3, b4⟩ := hok.hq ad e
      rintro (h1 | h1 | ⟨j', hj, h1⟩ | h1)
      · exact b3 h1
      · exact b4 h1
      · have := hok.step j' hj; have := lo_lt hok hj; omega
      · have := hok.hM; have := lo_mono hok c.q 0 (by omega); rw [Nat.zero_add] at this; omega
    exact ⟨ad, e, hc.cell hcl.1 (by have := hb 0; exact this), hc.cell hcl.2.1 (hb _), hc.cell hcl.2.2.1 (hb _), hc.cell hcl.2.2.2 (hb _)⟩
set_option maxRecDepth 100000 in
set_option maxHeartbeats 1000000 in
theorem sheld_c (c : StrC) (v : StrV) (w : World) (h : StrS c v w) : Calls Tryz.prog 18 #[.pointer (some ⟨c.S, 0, none⟩)] w (Ret (.int .i64 (v.held.size : Nat)) w) := by
  have c5 := blk_cell h.s 7
  clear h
  go_enter Tryz.func18, Tryz.ntmps18
  go_wp2_with fail
  go_ret
  exact ⟨rfl, kept_refl _⟩
set_option maxRecDepth 100000 in
set_option maxHeartbeats 1000000 in
theorem sseen_c (a b : Int) (w : World) : Calls Tryz.prog 17 #[.agg #[.int .i64 a, .int .i64 b]] w (Ret (.int .i64 a) w) := by
  have hb := blk_new w (.cells #[.int .i64 a, .int .i64 b] 52)
  have ka := kept_alloc (kept_refl w) (.cells #[.int .i64 a, .int .i64 b] 52)
  have c0 := blk_cell hb 0
  clear hb
  go_enter Tryz.func17, Tryz.ntmps17
  go_wp2_with fail
  go_ret
  exact ⟨rfl, ka⟩
end Go.Proofs.YtdejablhpljdfaaGreat
namespace Go.Proofs.YtdejablhpljdfaaGreat
open Go.RowKit BG
attribute [local go_sem ↓] Go.wp_at_zero Go.wp_at_succ run_max_at run_min_at
set_option linter.unusedVariables false
theorem info_row : (Tryz.prog.info? 24).map (fun i => (i.zero, i.size, i.bytes)) = some (some (.slice none 0 0), 1, 24) := by kernel_rfl
theorem info_fn : (Tryz.prog.info? 98).map (fun i => (i.zero, i.size, i.bytes)) = some (some .nilFunc, 1, 8) := by kernel_rfl
def ndAt (l : List Nd) (k : Nat) : Nd := (l[k]?).getD ⟨0, 0, none, 0, 0, 0, []⟩
theorem ndAt_get {l : List Nd} {k : Nat} {x : Nd} (h : l[k]? = some x) : ndAt l k = x := by unfold ndAt; rw [h]; rfl
def fnsL (r : Nat → Sr) (j : Nat) : List Value := (List.range j).map fun k => (r k).fn
theorem fnsL_succ (r : Nat → Sr) (j : Nat) (r0 : Sr) : fnsL (fun k => if k = j then r0 else r k) (j + 1) = fnsL r j ++ [r0.fn] := by
  unfold fnsL
  rw [List.range_succ, List.map_append]
  simp only [List.map_cons, List.map_nil, if_true]
  congr 1
  refine List.map_congr_left fun k hk => ?_
  rw [if_neg (by have := List.mem_range.1 hk; omega)]
theorem SrNew.chg {S k m : Nat} {K : Int} {xs : List Int} {lo : Nat} {r : Sr} {X : Nat → Prop} {w w1 : World} (h : SrNew S k m K xs lo r w) (hc : Chg X w w1) (hx : ∀ g, lo ≤ g → g ≤ r.bn → ¬ X g) : SrNew S k m K xs lo r w1 := by
  have h1 := h.low
  have h2 := h.high
  exact ⟨hc.blk h.o (hx _ h1.1 (by omega)), hc.blk h.s (hx _ h1.2.1 (by omega)), hc.blk h.k (hx _ h1.2.2 (by omega)), hc.blk h.n (hx _ (by omega) (by omega)), h.rd.chg hc (fun ad e => by have := h.row ad e; exact hx _ this.1 (by omega)), h.low, h.high, h.row⟩
theorem SrNew.less {S k m : Nat} {K : Int} {xs : List Int} {lo lo' : Nat} {r : Sr} {w : World} (h : SrNew S k m K xs lo r w) (hl : lo' ≤ lo) : SrNew S k m K xs lo' r w :=
  ⟨h.o, h.s, h.k, h.n, h.rd, by have := h.low; omega, h.high, fun ad e => by have := h.row ad e; omega⟩
structure NewInv (S : Nat) (x : Nat → Nd) (j : Nat) (r : Nat → Sr) (lo : Nat → Nat) (v : Value) (L0 : Nat) (wr : World) : Prop where
  new : ∀ k, k < j → SrNew S k (x k).m (x k).K (x k).xs (lo k) (r k) wr ∧ (r k).bn < lo (k + 1)
  z : lo 0 = L0
  hi : lo j = wr.heap.size
  off : ∀ k, k < j → ∀ g, v.ownBlock = some g → g < lo k ∨ (r k).bn < g
theorem NewInv.mono {S : Nat} {x : Nat → Nd} {j : Nat} {r : Nat → Sr} {lo : Nat → Nat} {v : Value} {L0 : Nat} {wr : World} (h : NewInv S x j r lo v L0 wr) : ∀ (d k : Nat), k + d ≤ j → lo k ≤ lo (k + d)
  | 0, k, _ => Nat.le_refl _
  | d + 1, k, hk => by
    have h1 := h.mono d k (by omega)
    obtain ⟨a, b⟩ := h.new (k + d) (by omega)
    have h2 := a.low
    have h3 := a.high
    rw [← Nat.add_assoc]; omega
theorem NewInv.next {S : Nat} {x : Nat → Nd} {j : Nat} {r : Nat → Sr} {lo : Nat → Nat} {v v' : Value} {L0 : Nat} {wr wE : World} {r0 : Sr} {lo0 g : Nat} (h : NewInv S x j r lo v L0 wr) (hS : S < L0)
    (hc : Chg (fun g => g = S ∨ v.ownBlock = some g) wr wE) (hn : SrNew S j (x j).m (x j).K (x j).xs lo0 r0 wE) (hl : wr.heap.size ≤ lo0) (hbn : r0.bn < wE.heap.size) (hv : ∀ g, v.ownBlock = some g → g < wr.heap.size)
    (hg : v'.ownBlock = some g) (hat : v.ownBlock = some g ∨ r0.bn < g) : NewInv S x (j + 1) (fun k => if k = j then r0 else r k) (fun k => if k = j + 1 then wE.heap.size else lo k) v' L0 wE := by
  have hj0 := h.mono j 0 (by omega)
  rw [Nat.zero_add, h.z, h.hi] at hj0
  refine ⟨fun k hk => ?_, by rw [if_neg (by omega)]; exact h.z, if_pos rfl, fun k hk g' hg' => ?_⟩
  · by_cases hkj : k = j
    · subst hkj
      rw [if_pos rfl, if_neg (by omega), if_pos rfl]
      exact ⟨hn.less (by rw [h.hi]; exact hl), hbn⟩
    · obtain ⟨a, b⟩ := h.new k (by omega)
      rw [if_neg hkj, if_neg (by omega), if_neg (by omega)]
      have m0 := h.mono k 0 (by omega)
      rw [Nat.zero_add, h.z] at m0
      refine ⟨a.chg hc fun g h1 h2 h3 => ?_, b⟩
      rcases h3 with h3 | h3
      · omega
      · rcases h.off k (by omega) g h3 with h4 | h4 <;> omega
  · rw [hg] at hg'
    cases hg'
    by_cases hkj : k = j
    · subst hkj
      rw [if_neg (by omega), if_pos rfl, h.hi]
      rcases hat with h1 | h1
      · exact .inl (hv _ h1)
      · exact .inr h1
    · rw [if_neg (by omega), if_neg hkj]
      obtain ⟨a, b⟩ := h.new k (by omega)
      have m1 := h.mono (j - (k + 1)) (k + 1) (by omega)
      rw [show k + 1 + (j - (k + 1)) = j by omega, h.hi] at m1
      rcases hat with h1 | h1
      · exact h.off k (by omega) g h1
      · have := hn.low; have := hn.high; exact .inr (by omega)
end Go.Proofs.YtdejablhpljdfaaGreat
namespace Go.Proofs.YtdejablhpljdfaaGreat
open Go.RowKit BG
attribute [local go_sem ↓] Go.wp_at_zero Go.wp_at_succ run_max_at run_min_at
set_option linter.unusedVariables false
def NewPost (l : List Nd) (F limit : Nat) (Z : Int) (w : World) (e : Ending) (w' : World) : Prop :=
  ∃ c : StrC, e = .returned (.tuple #[.pointer (some ⟨c.S, 0, none⟩), .int .i64 0]) ∧ Kept w w' ∧ StrOK w.heap.size c ∧ c.M = w'.heap.size ∧ c.l = l ∧ c.F = F ∧ c.Z = Z ∧ c.limit = limit ∧ c.longest = longv l ∧ c.q = (leavesN l).length ∧ c.x = ndAt (leavesN l) ∧
    StrS c ⟨0, 0, ⟨#[]⟩, 0, fun _ => 0, fun _ => [], fun _ => .slice none 0 0⟩ w'
theorem RdL.chgA {X : Nat → Prop} {w w1 : World} {A : Option Addr} {l : List Nd} (h : RdL w A l) (hc : Chg X w w1) (hA : ∀ ad, A = some ad → ¬ X ad.block) (hok : ∀ x ∈ l, x.ok w1) : RdL w1 A l :=
  ⟨h.1, fun h0 => by
    obtain ⟨ad, e, hd⟩ := h.2.1 h0
    exact ⟨ad, e, fun j x hx => ⟨hc.cell (hd j x hx).1 (by rw [ad_block]; exact hA ad e), hc.cell (hd j x hx).2 (by show ¬ X (ad.add (j * 2)).block; rw [ad_block]; exact hA ad e)⟩⟩, hok⟩
theorem fnsL_at {r : Nat → Sr} {j k : Nat} (h : k < j) : (fnsL r j)[k]? = some (r k).fn := by simp [fnsL, h]
theorem NdAt.chg {X : Nat → Prop} {w w1 : World} {ad : Addr} {x : Nd} (h : NdAt w ad x) (hc : Chg X w w1) (hb : ¬ X ad.block) : NdAt w1 ad x := ⟨hc.cell h.1 hb, hc.cell h.2.1 hb, hc.cell h.2.2.1 hb, hc.cell h.2.2.2 hb⟩
set_option maxRecDepth 100000 in
set_option maxHeartbeats 8000000 in
theorem snew_yes (A : Option Addr) (cap : Nat) (l : List Nd) (F limit : Nat) (Z : Int) (hcap : l.length ≤ cap) (hcap2 : cap ≤ 9223372036854775807) (hE : evE l F Z = 0) (hl1 : longv l ≤ limit) (hl2 : limit ≤ 10000) (hA : A = none → l.length = 0 ∧ cap = 0) (w : World) (hr : RdN w A l) :
    Calls Tryz.prog 15 #[.slice A l.length cap, confW F Z, .int .i64 (limit : Nat)] w (NewPost l F limit Z w) := by
  have hq : qrightv l = true ∧ F ≤ 5 := by
    unfold evE at hE
    by_cases h : qrightv l = false ∨ (F : Int) < 0 ∨ 5 < (F : Int)
    · rw [if_pos h] at hE; omega
    · constructor
      · cases hb : qrightv l
        · exact absurd (.inl hb) h
        · rfl
      · have : ¬ (5 < (F : Int)) := fun h' => h (.inr (.inr h'))
        omega
  obtain ⟨hqr, hF⟩ := hq
  obtain ⟨h64, hnd, -, -⟩ := anybad_ok hqr
  have EC := fun w1 h => echeck_c A cap l F Z hcap hcap2 w1 h
  have LO := fun w1 h => longest_c A cap l (by omega) (fun x hx => (hr.2.2 x hx).m_le) w1 h
  have CN := fun w1 h => cloneN_c A cap l.length l rfl (by omega) w1 hA h
  have LV := fun w1 h => leaves_c A cap l (by omega) w1 h
  rw [hE] at EC
  have hb := blk_new w (.cells #[.int .i64 (F : Nat), .int .i64 Z] 32)
  have ka := kept_alloc (kept_refl w) (.cells #[.int .i64 (F : Nat), .int .i64 Z] 32)
  have c0 := blk_cell hb 0
  have c1 := blk_cell hb 1
  have d1 : decide ((limit : Int) < (longv l : Int)) = false := decide_eq_false (by omega)
  have d1n : decide (limit < longv l) = false := decide_eq_false (by omega)
  have d2 : decide ((10000 : Int) < (limit : Int)) = false := decide_eq_false (by omega)
  have d2n : decide (10000 < limit) = false := decide_eq_false (by omega)
  have HP : Hid (NewPost l F limit Z w = NewPost l F limit Z w) := Lib.hid rfl
  clear hE HP
  generalize hPost : NewPost l F limit Z w = PP at *
  have HPP := Lib.hid hPost
  clear hPost
  have HL := Lib.hid (⟨hl1, hl2, hnd⟩ : _ ∧ _ ∧ _)
  clear hl1 hnd
  generalize hlg : longv l = lg at *
  have HLG := Lib.hid hlg
  clear hlg
  generalize hml : l.length = m at *
  have HM := Lib.hid hml
  clear hml
  go_enter Tryz.func15, Tryz.ntmps15
  go_wp2_with fail
  refine (EC _ (hr.kept ka)).mono ?_
  rintro e w1 ⟨rfl, hk1⟩
  replace ka := kept_trans ka hk1
  replace hb := blk_kept hk1 hb
  replace c0 : w1.cell? ⟨w.heap.size, 0, none⟩ = some (.int .i64 (F : Nat)) := blk_cell hb 0
  replace c1 : w1.cell? ⟨w.heap.size, 1, none⟩ = some (.int .i64 Z) := blk_cell hb 1
  clear EC hk1
  go_wp2_with fail
  refine (LO _ (hr.kept ka)).mono ?_
  rintro e w2 ⟨rfl, hk2⟩
  replace ka := kept_trans ka hk2
  replace hb := blk_kept hk2 hb
  replace c0 : w2.cell? ⟨w.heap.size, 0, none⟩ = some (.int .i64 (F : Nat)) := blk_cell hb 0
  replace c1 : w2.cell? ⟨w.heap.size, 1, none⟩ = some (.int .i64 Z) := blk_cell hb 1
  clear LO hk2
  have hrr := hr.kept ka
  have kr := kept_refl w2
  go_wp2_with fail
  clear d1 d1n d2 d2n
  go_region_held3 (fun w' => w'.cell? ⟨w.heap.size, 0, none⟩ = some (.int .i64 (F : Nat)) ∧ w'.cell? ⟨w.heap.size, 1, none⟩ = some (.int .i64 Z)) (first | exact ⟨by assumption, by assumption⟩ | exact ⟨kept_cell hk3 c0, kept_cell hk3 c1⟩ | exact ⟨kept_cell (kept_alloc hk3 _) c0, kept_cell (kept_alloc hk3 _) c1⟩) ((go_at_call 40; refine (CN _ (hrr.kept (kept_drew kr))).mono ?_; rintro e w3 ⟨qA, qc, rfl, ownq, hk3⟩; replace hk3 := kept_trans (kept_drew kr) hk3))
  have hw0 := ka.size
  have hS := blk_new w3 (strO 0 0 (.slice qA m qc) F Z limit lg ⟨#[]⟩ 0 (.slice none 0 0) (.slice none 0 0))
  have k4 := kept_alloc (kept_refl w3) (strO 0 0 (.slice qA m qc) F Z limit lg ⟨#[]⟩ 0 (.slice none 0 0) (.slice none 0 0))
  have hs4 : (w3.alloc (strO 0 0 (.slice qA m qc) F Z limit lg ⟨#[]⟩ 0 (.slice none 0 0) (.slice none 0 0))).heap.size = w3.heap.size + 1 := by simp
  replace ka := kept_trans ka (kept_trans hk3 k4)
  have hw2 := hk3.size
  have ownq4 := rowKept ownq k4
  have hqa := row_in ownq
  have hr4 := hr.kept ka
  clear hrr kr CN hb c0 c1 ownq k4 hk3
  generalize hSe : w3.heap.size = S at *
  generalize w3.alloc (strO 0 0 (.slice qA m qc) F Z limit lg ⟨#[]⟩ 0 (.slice none 0 0) (.slice none 0 0)) = w4 at *
  clear hSe
  go_wp2_with fail
  refine (LV _ hr4).mono ?_
  rintro e w5 ⟨lv, rfl, ownl, hk5⟩
  have hok5 : ∀ x ∈ leavesN l, x.ok w5 := fun x hx => ((hr4.2.2 x (List.mem_filter.1 hx).1).kept hk5)
  obtain ⟨lA, lc, rfl, hlc1, hlc2, rdl⟩ := ownL_rd ownl rfl hok5
  replace ka := kept_trans ka hk5
  replace hS := blk_kept hk5 hS
  have hw5 := hk5.size
  have ownq5 := rowKept ownq4 hk5
  have hla := row_in ownl
  clear LV hr4 ownl ownq4 hk5 hok5
  obtain ⟨i1, hif1, hy0, hy1, hy2⟩ := info_parts info_row
  have hq64 : (leavesN l).length ≤ 64 := by have := List.length_filter_le (fun x : Nd => decide (x.k = 1)) l; unfold leavesN; have := HM.out; omega
  generalize hqe : (leavesN l).length = q at *
  have HQ := Lib.hid hqe
  clear hqe
  go_wp2_with (refine wpList_make_full _ rfl (.tmp 40) (.tmp 40) 54 rfl w5.heap.size 24 i1 (.slice none 0 0) 1 Tryz.underlying54 hif1 hy0 hy1 .i64 .i64 _ _ q rfl rfl (by simp) (by simp) ?b2 ?b3 ?b4 ?_)
  case b2 => rw [hy2]; omega
  case b3 => unfold maxLen; omega
  case b4 => exact Nat.le_refl _
  intro w6 own6 hg6
  have k6 : Kept w5 w6 := (kept_refl w5).grown hg6 (Nat.le_refl _) (fun k h => by cases h)
  obtain ⟨hFo, -, -, -⟩ := own_full own6
  have hFl := (World.ownsRow.lt own6 _ rfl).2
  rw [toList_madeCells_one, show (List.replicate q (Value.slice none 0 0)).toArray = vsA (fun _ => .slice none 0 0) q by unfold vsA; rw [List.map_const', List.length_range]] at hFo
  have hS6 := blk_kept k6 hS
  have ka6 := kept_trans ka k6
  have ownq6 := rowKept ownq5 k6
  have rdl6 := rdl.kept k6
  have c10 := blk_cell hS6 10
  have f10 := blk_frozen hS6 10
  have hw6 := k6.size
  clear own6 hg6 k6 ka ownq5 rdl hif1 hy0 hy1 hy2 hS
  have hr6 := hr.kept ka6
  generalize w5.heap.size = Fo at *
  have hS7 := blk_set hS6 10 (.slice (some ⟨Fo, 0, none⟩) q q)
  have hFo7 := blk_far hFo (p := ⟨S, 10, none⟩) (by show Fo ≠ S; omega) (.slice (some ⟨Fo, 0, none⟩) q q)
  have ka7 := kept_set ka6 (p := ⟨S, 10, none⟩) (by show w.heap.size ≤ S; omega) (.slice (some ⟨Fo, 0, none⟩) q q)
  have cg7 : Chg (fun g => g = S) w6 (w6.setCell ⟨S, 10, none⟩ (.slice (some ⟨Fo, 0, none⟩) q q)) := (Chg.refl (fun g => g = S) w6).set (p := ⟨S, 10, none⟩) rfl _
  have hs7 : (w6.setCell ⟨S, 10, none⟩ (.slice (some ⟨Fo, 0, none⟩) q q)).heap.size = w6.heap.size := by simp
  have HH := Lib.hid (⟨hS7, hFo7, ka7, cg7, hs7⟩ : _ ∧ _ ∧ _ ∧ _ ∧ _)
  clear hS7 hFo7 ka7 cg7 hs7
  go_wp2_with fail
  obtain ⟨hS7, hFo7, ka7, cg7, hs7⟩ := HH.out
  clear HH
  have ownq7 := row_chg ownq6 cg7 (fun g e h => by
    cases hqA : qA with
    | none => rw [hqA] at e; cases e
    | some ad =>
      rw [hqA] at e
      have e2 : ad.block = g := Option.some.inj e
      have := (hqa ad hqA).2
      omega)
  have rdl7 : RdL (w6.setCell ⟨S, 10, none⟩ (.slice (some ⟨Fo, 0, none⟩) q q)) lA (leavesN l) := rdl6.chgA cg7 (fun ad e h => by have := (hla ad e).1; omega) fun x hx => (hr.2.2 x (List.mem_filter.1 hx).1).kept ka7
  generalize w6.setCell ⟨S, 10, none⟩ (.slice (some ⟨Fo, 0, none⟩) q q) = w7 at *
  have hSL : S < w7.heap.size := blk_lt hS7
  have hFL : Fo < w7.heap.size := blk_lt hFo7
  have hSF : S ≠ Fo := by omega
  have hlf : ∀ (j : Nat) (x : Nd), (leavesN l)[j]? = some x → x.ok w ∧ rightv x.xs x.m x.K = true ∧ 1 ≤ x.m ∧ x.m ≤ 64 := fun j x hx => by
    have hmem := List.mem_of_getElem? hx
    have h1 := List.mem_filter.1 hmem
    have h2 := HL.out.2.2 x h1.1
    have h3 : x.k = 1 := of_decide_eq_true h1.2
    have hrv : rightv x.xs x.m x.K = true := by
      unfold ndokv at h2
      rw [Bool.and_eq_true, if_pos h3] at h2
      exact h2.2
    obtain ⟨r1, r2, -⟩ := rightv_n hrv
    exact ⟨hr.2.2 x h1.1, hrv, r1, r2⟩
  have HLF := Lib.hid hlf
  have hqs : ∀ (j : Nat) (x : Nd), l[j]? = some x → ∃ ad, qA = some ad ∧ NdAt w7 (ad.add (j * 4)) x := fun j x hx => by
    obtain ⟨B, c, e, -, -, rd⟩ := ownN_nd ownq7 HM.out.symm (fun x hx => (hr.2.2 x hx).kept ka7)
    cases e
    have hj : j < l.length := by
      rcases Nat.lt_or_ge j l.length with h' | h'
      · exact h'
      · rw [List.getElem?_eq_none h'] at hx; cases hx
    obtain ⟨ad, y, e, hy, -, hat⟩ := rd.at_ hj
    rw [hy] at hx; cases hx
    exact ⟨ad, e, hat⟩
  have hqc : l.length ≤ qc ∧ qc ≤ 9223372036854775807 := by
    obtain ⟨B, c, e, h1, h2, -⟩ := ownN_nd ownq7 HM.out.symm (fun x hx => (hr.2.2 x hx).kept ka7)
    cases e
    exact ⟨by have := HM.out; omega, h2⟩
  have HQS := Lib.hid (⟨hqs, hqa, hqc⟩ : _ ∧ _ ∧ _)
  have hs7' : w.heap.size ≤ S ∧ S < Fo := by omega
  have HLA : Hid (∀ ad, lA = some ad → ¬ ad.block = S) := Lib.hid fun ad e h => by have := (hla ad e).1; omega
  clear hlf hqs hqc ownq7 ownq6 hqa rdl6 hr6 cg7 hs7 hFo hS6 ka6 hla c10 f10 hFl hw5 hw6 hs4 hw2
  generalize hL0 : w7.heap.size = L0 at *
  have HL0 := Lib.hid hL0
  clear hL0
  obtain ⟨i2, hif2, hz0, hz1, hz2⟩ := info_parts info_fn
  go_wp2_with fail
  go_loopw [12, 46] (fun _ i wr => ∃ (j : Nat) (r : Nat → Sr) (lo : Nat → Nat) (v : Value), j ≤ q ∧ i = .int .i64 j ∧ wr.heap[S]? = some (strO 0 0 (.slice qA m qc) F Z limit lg ⟨#[]⟩ 0 v (.slice (some ⟨Fo, 0, none⟩) q q)) ∧ wr.heap[Fo]? = some (.cells (vsA (fun _ => .slice none 0 0) q) 24) ∧ NewInv S (ndAt (leavesN l)) j r lo v L0 wr ∧ wr.ownsRow L0 98 1 v j (fnsL r j) ∧ Chg (fun g => g = S) w7 wr) (fun _ i _ => q - (intOf i).toNat)
  case atStart => exact ⟨0, fun _ => ⟨0, 0, 0, 0, none, 0⟩, fun _ => L0, .slice none 0 0, Nat.zero_le _, rfl, hS7, hFo7, ⟨fun k hk => absurd hk (Nat.not_lt_zero k), rfl, HL0.out.symm, fun k hk => absurd hk (Nat.not_lt_zero k)⟩, ⟨rfl, .inl ⟨rfl, rfl⟩⟩, Chg.refl _ _⟩
  case round =>
    obtain ⟨j, r, lo, v, hj, rfl, hSw, hFw, inv, own, cg⟩ := hrel
    have hkwr : Kept w wr := ka7.trans (cg.below (by have := ka7.size; omega) (fun g h => by omega))
    by_cases hlt : j < q
    · obtain ⟨ad, x, rfl, hx, -, e0, e1⟩ := (rdl7.chgA cg (fun ad e => HLA.out ad e) (fun x hx => (hr.2.2 x (List.mem_filter.1 hx).1).kept hkwr)).at_ (j := j) (by rw [HQ.out]; exact hlt)
      have hnx := ndAt_get hx
      obtain ⟨hokx, hrvx, hm1, hm2⟩ := HLF.out j x hx
      have hokr : x.ok wr := hokx.kept hkwr
      have hvf : ∃ A c, v = .slice A j c := by
        rcases own.2 with ⟨h1, h2⟩ | ⟨g, cap, _, h1, _⟩
        · exact ⟨none, 0, by rw [h1, h2]⟩
        · exact ⟨_, cap, h1⟩
      obtain ⟨vA, vc, rfl⟩ := hvf
      have hvlt := fun g h => (World.ownsRow.lt own g h)
      obtain ⟨k0, n0, xA, xm, xcap, xK, xs⟩ := x
      dsimp only at e0 e1 hrvx hm1 hm2
      have hxl : xs.length = 4 * xm := hokr.1
      have hxr : Rd .u64 wr xA xs := hokr.2.2
      have hxA : xA = none → xm = 0 ∧ xcap = 0 := fun h => by
        obtain ⟨ad', e, -⟩ := hxr.2 (by omega)
        rw [h] at e; cases e
      have MK := fun w1 h => mksearch_c S j xA xm xcap xK xs (by omega) hxl hxA w1 h
      have HX := Lib.hid (⟨hnx, hrvx⟩ : _ ∧ _)
      have kb := kept_alloc (kept_refl wr) (.cells #[.slice xA xm xcap, .int .i64 xK] 61)
      have hbx := blk_new wr (.cells #[.slice xA xm xcap, .int .i64 xK] 61)
      have g0 := blk_cell hbx 0
      have g1 := blk_cell hbx 1
      have hSb := blk_kept kb hSw
      have g2 := blk_cell hSb 9
      have INV := Lib.hid inv
      have CG := Lib.hid cg
      have OWN := Lib.hid own
      clear inv cg own hokx hokr hrvx hnx hx
      go_wp2_with fail
      refine wp_region_last (S := fun w' => w'.cell? ⟨S, 9, none⟩ = some (.slice vA j vc) ∧ w'.cell? ⟨wr.heap.size, 0, none⟩ = some (.slice xA xm xcap) ∧ w'.cell? ⟨wr.heap.size, 1, none⟩ = some (.int .i64 xK)) 8 6 13 (by kernel_rfl) (by kernel_rfl) (fun _ _ d _ _ h => by cases d <;> exact h) (by rfl) ⟨g2, g0, g1⟩ ?_
      simp only [List.take_succ_cons, List.take_zero]
      iterate 8 ((refine heldList_cons ?_ (Or.inl ⟨by rfl, fun w hSw => ?_⟩) ?_; rotate_left; (obtain ⟨s1, s2, s3⟩ := hSw; go_simp); (first | done | with_reducible rfl | skip)); (simp only [Act.put, List.setIfInBounds_toArray, List.set_cons_zero, List.set_cons_succ]))
      refine heldList_nil ?_
      refine wpAnyL_one (i := 8) (by kernel_rfl) (by rfl) (fun K' hK => ?_)
      go_simp
      refine (MK _ (hxr.kept (kept_drew kb))).mono ?_
      rintro e w8 ⟨r0, rfl, hk8, hnew⟩
      have kk8 := kept_trans (kept_drew kb) hk8
      have hS8 := blk_kept kk8 hSw
      have x0 := kept_cell (kept_trans (kept_drew (kept_refl _)) hk8) g0
      have x1 := kept_cell (kept_trans (kept_drew (kept_refl _)) hk8) g1
      have x2 := blk_cell hS8 9
      have own8 := rowKept OWN.out kk8
      have HN := Lib.hid hnew
      have hw8 : wr.heap.size + 1 ≤ w8.heap.size := by simpa using hk8.size
      have hrbn : r0.bn < w8.heap.size := blk_lt hnew.n
      have hvS : ∀ g, (Value.slice vA j vc).ownBlock = some g → L0 ≤ g ∧ g < wr.heap.size := fun g h => World.ownsRow.lt OWN.out g h
      have HVS := Lib.hid hvS
      clear MK hxr hk8 hbx kb hSb g0 g1 g2 hnew hvlt hvS
      refine hK.out _ _ (Or.inr ⟨x2, x0, x1⟩) ?_
      clear hK K'
      refine wpAnyL_one (i := 9) (by kernel_rfl) (by rfl) (fun K' hK => ?_)
      go_simp
      have kz := kept_alloc (kept_refl w8) (.cells #[r0.fn] 98)
      refine hK.out _ _ (Or.inr ⟨kept_cell kz x2, kept_cell kz x0, kept_cell kz x1⟩) ?_
      clear hK K'
      refine wpAnyL_one (i := 10) (by kernel_rfl) (by rfl) (fun K' hK => ?_)
      refine step_append_lies _ (by rfl) _ _ _ (by rfl) L0 98 i2 _ 1 8 Tryz.underlying53 hif2 hz0 hz1 hz2 rfl (by omega) _ j _ (by rfl) (World.ownsRow.alloc own8 _) ⟨w8.heap.size, 0, none⟩ 1 1 [r0.fn] (by rfl) (by rfl) (World.news_of_block (cs := #[r0.fn]) (t := 98) (fr := (0, 0)) (heap_alloc_new w8 _)) (by simp [Value.oneCell']) (by omega) (by unfold maxLen; omega) (by omega) (by have := CG.out.size; have := HL0.out; simp; omega) (w8.heap.size + 1) (by simp) ?_
      intro g cap9 w9 ho9 hg9 hat9 hlt9
      have G9 := grown_trans (grown_of_kept (row := (Value.slice vA j vc).ownBlock) kz) hg9
      have hS9 := grown_blk G9 hS8 (fun e => by have := HVS.out S e.symm; omega)
      have y2 := blk_cell hS9 9
      have z2 := blk_frozen hS9 9
      have y0 := (G9.cell_far ⟨wr.heap.size, 0, none⟩ (by show wr.heap.size < w8.heap.size; omega) (fun e => by have := HVS.out wr.heap.size e.symm; omega)).trans x0
      have y1 := (G9.cell_far ⟨wr.heap.size, 1, none⟩ (by show wr.heap.size < w8.heap.size; omega) (fun e => by have := HVS.out wr.heap.size e.symm; omega)).trans x1
      refine hK.out _ _ (Or.inr ⟨y2, y0, y1⟩) ?_
      clear hK K'
      refine wpAnyL_one (i := 11) (by kernel_rfl) (by rfl) (fun K' hK => ?_)
      go_simp
      refine hK.out _ _ (Or.inr ⟨y2, y0, y1⟩) ?_
      clear hK K'
      refine wpAnyL_one (i := 12) (by kernel_rfl) (by rfl) (fun K' hK => ?_)
      go_simp
      refine hK.out _ _ (Or.inr ⟨y2, y0, y1⟩) ?_
      clear hK K'
      refine wpAnyL_one (i := 13) (by kernel_rfl) (by rfl) (fun K' hK => ?_)
      go_simp
      refine hK.out _ _ (Or.inl rfl) ?_
      clear hK K'
      refine wpAnyL_done (by kernel_rfl) ?_ _
      have hSE := blk_set hS9 9 (.slice (some ⟨g, 0, none⟩) (j + 1) cap9)
      have hFE := blk_far (grown_blk G9 (blk_kept kk8 hFw) (fun e => by have := HVS.out Fo e.symm; omega)) (p := ⟨S, 9, none⟩) (Ne.symm hSF) (.slice (some ⟨g, 0, none⟩) (j + 1) cap9)
      have oE := ownN_set ho9 (p := ⟨S, 9, none⟩) hSL (.slice (some ⟨g, 0, none⟩) (j + 1) cap9)
      have c8 : Chg (fun g => g = S ∨ (Value.slice vA j vc).ownBlock = some g) w8 (w9.setCell ⟨S, 9, none⟩ (.slice (some ⟨g, 0, none⟩) (j + 1) cap9)) := (Chg.of_grown G9 fun g e => .inr e).set (p := ⟨S, 9, none⟩) (Or.inl rfl) _
      have cE : Chg (fun g => g = S) w7 (w9.setCell ⟨S, 9, none⟩ (.slice (some ⟨g, 0, none⟩) (j + 1) cap9)) := ((CG.out.trans (Chg.of_kept kk8)).grow G9 (fun g e => .inr (by have := (HVS.out g e).1; have := HL0.out; omega))).set (p := ⟨S, 9, none⟩) rfl _
      have hwE : (w9.setCell ⟨S, 9, none⟩ (.slice (some ⟨g, 0, none⟩) (j + 1) cap9)).heap.size = w9.heap.size := by simp
      have hw9 := G9.size
      have nE := HN.out.chg c8 (fun g' h1 h2 h3 => by
        simp at h1
        have h7 := CG.out.size
        have h8 := HL0.out
        rcases h3 with h3 | h3
        · omega
        · have := (HVS.out g' h3).2; omega)
      have INV2 := Lib.hid (INV.out.next (v' := .slice (some ⟨g, 0, none⟩) (j + 1) cap9) (g := g) hSL ((Chg.of_kept kk8).trans c8) (by rw [HX.out.1]; exact nE) (by simp) (by omega) (fun g h => (HVS.out g h).2) rfl (by
        rcases hat9 with h | h
        · exact .inl h
        · exact .inr (by omega)))
      have HE := Lib.hid (⟨hSE, hFE, oE, cE⟩ : _ ∧ _ ∧ _ ∧ _)
      clear hSE hFE oE c8 cE nE G9 hS9 y2 z2 y0 y1 hg9 ho9 hat9 hlt9 kz x0 x1 x2 hS8 own8 kk8 HN hSw hFw e0 e1
      go_wp2_with fail
      go_roundw
      case rel => exact ⟨j + 1, _, _, _, by omega, by go_num, HE.out.1, HE.out.2.1, INV2.out, by rw [fnsL_succ]; exact HE.out.2.2.1, HE.out.2.2.2⟩
      case measure => simp [intOf]; omega
    · obtain rfl : j = q := by omega
      have hvf : ∃ A c, v = .slice A j c := by
        rcases own.2 with ⟨h1, h2⟩ | ⟨g, cap, _, h1, _⟩
        · exact ⟨none, 0, by rw [h1, h2]⟩
        · exact ⟨_, cap, h1⟩
      obtain ⟨vA, vc, rfl⟩ := hvf
      go_wp2_with fail
      rw [← HPP.out]
      have hvin : ∀ ad, vA = some ad → L0 ≤ ad.block ∧ ad.block < wr.heap.size := row_in own
      have h7 := HL0.out
      have h8 := cg.size
      have hnew := inv.new
      have hget : ∀ k, k < j → ∃ x, (leavesN l)[k]? = some x := fun k hk => ⟨(leavesN l)[k]'(by rw [HQ.out]; exact hk), List.getElem?_eq_getElem _⟩
      refine ⟨⟨S, Fo, j, wr.heap.size, F, Z, limit, lg, ndAt (leavesN l), r, lo, l, qA, qc, vA, vc⟩, by simp, hkwr, ?_, rfl, rfl, rfl, rfl, rfl, HLG.out.symm, HQ.out.symm, rfl, ?_⟩
      · constructor
        · exact ⟨hs7'.1, by show S < lo 0; rw [inv.z]; exact hSL⟩
        · exact ⟨by show w.heap.size ≤ Fo; omega, by show Fo < lo 0; rw [inv.z]; exact hFL, hSF⟩
        · show lo j ≤ wr.heap.size; rw [inv.hi]; exact Nat.le_refl _
        · intro k hk
          obtain ⟨n1, n2⟩ := hnew k hk
          exact ⟨n1.low.1, n1.low.2.1, n1.low.2.2, n1.high.1, n1.high.2.1, n1.high.2.2, n2⟩
        · intro k hk ad e
          exact (hnew k hk).1.row ad e
        · intro ad e
          have := hvin ad e
          refine ⟨by omega, this.2, by show ad.block ≠ S; omega, by show ad.block ≠ Fo; omega, fun k hk => ?_⟩
          obtain ⟨n1, n2⟩ := hnew k hk
          have := n1.low; have := n1.high
          have hv : vA = some ad := e
          rcases inv.off k hk ad.block (by rw [hv]; rfl) with h | h
          · show ad.block ≠ (r k).bn; omega
          · show ad.block ≠ (r k).bn; omega
        · intro ad e
          have := HQS.out.2.1 ad e
          simp at this
          exact ⟨by omega, by show ad.block < lo 0; rw [inv.z]; omega, by show ad.block ≠ S; omega, by show ad.block ≠ Fo; omega⟩
        · intro k hk
          obtain ⟨x, hx⟩ := hget k hk
          obtain ⟨a1, a2, -, -⟩ := HLF.out k x hx
          show U64 (ndAt (leavesN l) k).xs ∧ (ndAt (leavesN l) k).xs.length = 4 * (ndAt (leavesN l) k).m ∧ rightv (ndAt (leavesN l) k).xs (ndAt (leavesN l) k).m (ndAt (leavesN l) k).K = true
          rw [ndAt_get hx]
          exact ⟨a1.2.1, a1.1, a2⟩
        · exact hF
        · exact ⟨hl2, HL.out.1⟩
        · exact HQS.out.2.2
      · constructor
        · show wr.heap[S]? = _
          rw [hSw]
          simp only [HM.out]
          rfl
        · exact hFw
        · intro k hk
          obtain ⟨n1, n2⟩ := hnew k hk
          exact ⟨n1.o, n1.s, n1.k, n1.rd⟩
        · intro k hk
          exact (hnew k hk).1.n
        · intro k hk
          exact Own.nil _ _ _ _
        · intro a b ha hb hab g hg
          cases hg
        · intro k hk
          have hk : k < j := hk
          rcases own.2 with ⟨h1, h2⟩ | ⟨g, cap, cur, h1, _⟩
          · omega
          · cases h1
            refine ⟨_, rfl, ?_⟩
            exact World.ownsRow.cells own (g := g) rfl k _ (fnsL_at hk)
        · intro i x hx
          obtain ⟨ad, e, hat⟩ := HQS.out.1 i x hx
          refine ⟨ad, e, hat.chg cg ?_⟩
          rw [ad_block]
          have := (HQS.out.2.1 ad e).2
          omega
def snE (l : List Nd) (F Z limit : Int) : Int := if evE l F Z ≠ 0 then evE l F Z else if limit < (longv l : Nat) ∨ 10000 < limit then 201 else 0
set_option maxRecDepth 100000 in
set_option maxHeartbeats 4000000 in
theorem snew_no (A : Option Addr) (cap : Nat) (l : List Nd) (F Z limit : Int) (hcap : l.length ≤ cap) (hcap2 : cap ≤ 9223372036854775807) (hE : snE l F Z limit ≠ 0) (w : World) (hr : RdN w A l) :
    Calls Tryz.prog 15 #[.slice A l.length cap, confW F Z, .int .i64 limit] w (Ret (.tuple #[.pointer none, .int .i64 (snE l F Z limit)]) w) := by
  have EC := fun w1 h => echeck_c A cap l F Z hcap hcap2 w1 h
  have LO := fun (h : qrightv l = true) w1 hr1 => longest_c A cap l (by have := (anybad_ok h).1; omega) (fun x hx => (hr.2.2 x hx).m_le) w1 hr1
  have hqr : evE l F Z = 0 → qrightv l = true := fun h => by
    unfold evE at h
    cases hb : qrightv l
    · rw [if_pos (.inl hb)] at h; cases h
    · rfl
  have hb := blk_new w (.cells #[.int .i64 F, .int .i64 Z] 32)
  have ka := kept_alloc (kept_refl w) (.cells #[.int .i64 F, .int .i64 Z] 32)
  have c0 := blk_cell hb 0
  have c1 := blk_cell hb 1
  have hs : snE l F Z limit = if evE l F Z ≠ 0 then evE l F Z else if limit < (longv l : Nat) ∨ 10000 < limit then 201 else 0 := rfl
  have HS := Lib.hid (⟨hs, hE⟩ : _ ∧ _)
  clear hs hE
  generalize snE l F Z limit = er at *
  by_cases he : evE l F Z = 0
  · have LO2 := LO (hqr he)
    rw [he] at EC
    have hs := HS.out.1
    rw [if_neg (fun h => h he)] at hs
    have hne := HS.out.2
    clear LO hqr he HS
    generalize longv l = lg at *
    generalize l.length = m at *
    have hc : limit < (lg : Nat) ∨ (¬ limit < (lg : Nat) ∧ 10000 < limit) := by
      by_cases h1 : limit < (lg : Nat)
      · exact .inl h1
      · by_cases h2 : 10000 < limit
        · exact .inr ⟨h1, h2⟩
        · rw [if_neg (by rintro (h | h); exact h1 h; exact h2 h)] at hs; exact absurd hs hne
    rcases hc with h1 | ⟨h1, h2⟩
    · rw [if_pos (.inl h1)] at hs
      subst hs
      have d1 : decide (limit < (lg : Int)) = true := decide_eq_true h1
      clear hne
      go_enter Tryz.func15, Tryz.ntmps15
      go_wp2_with fail
      refine (EC _ (hr.kept ka)).mono ?_
      rintro e w1 ⟨rfl, hk1⟩
      replace ka := kept_trans ka hk1
      clear EC hk1 c0 c1 hb
      go_wp2_with fail
      refine (LO2 _ (hr.kept ka)).mono ?_
      rintro e w2 ⟨rfl, hk2⟩
      replace ka := kept_trans ka hk2
      clear LO2 hk2
      go_wp2_with fail
      exact bodyPost_ret (v := .tuple #[.pointer none, .int .i64 201]) (by simp [results, Tryz.results15, go_sem]) rfl ⟨rfl, ka⟩
    · rw [if_pos (.inr h2)] at hs
      subst hs
      have d1 : decide (limit < (lg : Int)) = false := decide_eq_false h1
      have d2 : decide (10000 < limit) = true := decide_eq_true h2
      clear hne
      go_enter Tryz.func15, Tryz.ntmps15
      go_wp2_with fail
      refine (EC _ (hr.kept ka)).mono ?_
      rintro e w1 ⟨rfl, hk1⟩
      replace ka := kept_trans ka hk1
      clear EC hk1 c0 c1 hb
      go_wp2_with fail
      refine (LO2 _ (hr.kept ka)).mono ?_
      rintro e w2 ⟨rfl, hk2⟩
      replace ka := kept_trans ka hk2
      clear LO2 hk2
      go_wp2_with fail
      exact bodyPost_ret (v := .tuple #[.pointer none, .int .i64 201]) (by simp [results, Tryz.results15, go_sem]) rfl ⟨rfl, ka⟩
  · have hs := HS.out.1
    rw [if_pos he] at hs
    clear LO hqr HS
    generalize evE l F Z = ev at *
    subst hs
    generalize l.length = m at *
    have b1 : (er != 0) = true := bne_iff_ne.2 he
    clear he
    go_enter Tryz.func15, Tryz.ntmps15
    go_wp2_with fail
    refine (EC _ (hr.kept ka)).mono ?_
    rintro e w1 ⟨rfl, hk1⟩
    replace ka := kept_trans ka hk1
    clear EC hk1 c0 c1 hb
    go_wp2_with fail
    exact bodyPost_ret (v := .tuple #[.pointer none, .int .i64 er]) (by simp [results, Tryz.results15, go_sem]) rfl ⟨rfl, ka⟩
end Go.Proofs.YtdejablhpljdfaaGreat
namespace Go.Proofs.YtdejablhpljdfaaGreat
open Go.RowKit BG
attribute [local go_sem ↓] Go.wp_at_zero Go.wp_at_succ run_max_at run_min_at
set_option linter.unusedVariables false
theorem results_tmp4 {fn : Func} {t u v x : Tmp} (h : fn.results = #[.tmp t, .tmp u, .tmp v, .tmp x]) (tmps : Array Value) (P : Program) (w : World) :
    (results fn tmps).run P w = .ok (.tuple #[tmps.getD t undef, tmps.getD u undef, tmps.getD v undef, tmps.getD x undef]) w := by
  simp [results, h]
abbrev setW (F Z limit cap : Int) (ch : Value) (k : Int) : Value := .agg #[.int .i64 F, .int .i64 Z, .int .i64 limit, .int .i64 cap, ch, .int .i64 k]
def OpenPost (x : Option Addr → Nat → Nd) (F limit : Nat) (Z : Int) (w : World) (e : Ending) (w' : World) : Prop :=
  ∃ (v : Value) (c : StrC) (base : Nat) (A : Option Addr) (cap : Nat), e = .returned (.tuple #[v, .pointer (some ⟨c.S, 0, none⟩), .int .i64 0, .int .i64 0]) ∧ Kept w w' ∧ w.heap.size ≤ base ∧ StrOK base c ∧ c.M = w'.heap.size ∧ c.l = [x A cap] ∧ c.F = F ∧ c.Z = Z ∧ c.limit = limit ∧ c.longest = longv [x A cap] ∧ c.q = (leavesN [x A cap]).length ∧ c.x = ndAt (leavesN [x A cap]) ∧
    StrS c ⟨0, 0, ⟨#[]⟩, 0, fun _ => 0, fun _ => [], fun _ => .slice none 0 0⟩ w' ∧ (x A cap).ok w' ∧ ∀ ad, (x A cap).A = some ad → ad.block < base
set_option maxRecDepth 100000 in
set_option maxHeartbeats 8000000 in
theorem open1_c (s : ByteArray) (m : Nat) (hp : PatTx s m) (hU : U64 (patT s 1 m)) (F limit : Nat) (Z cap : Int) (ch : Value) (k : Int) (hch : ∃ A n c, ch = .slice A n c) (hE : ∀ A cap, evE [patN A m cap (patT s 1 m)] F Z = 0) (hl1 : m ≤ limit) (hl2 : limit ≤ 10000) (w : World) :
    Calls Tryz.prog 29 #[.string s, setW F Z limit cap ch k] w (OpenPost (fun A cap => patN A m cap (patT s 1 m)) F limit Z w) := by
  obtain ⟨chA, chn, chc, rfl⟩ := hch
  have PR := fun w1 => parse1_c s m hp hU w1
  have NW := fun (A A' : Option Addr) (c c' : Nat) (h1 : 1 ≤ c') (h2 : c' ≤ 9223372036854775807) (hA : A' = none → (1 = 0 ∧ c' = 0)) w1 (hr : RdN w1 A' [patN A m c (patT s 1 m)]) => snew_yes A' c' [patN A m c (patT s 1 m)] F limit Z h1 h2 (hE A c) (by show longv [patN A m c (patT s 1 m)] ≤ limit; simpa [longv, leavesN, longL] using hl1) hl2 hA w1 hr
  generalize hP : OpenPost (fun A cap => patN A m cap (patT s 1 m)) F limit Z w = PP
  have HP := Lib.hid hP
  have hpos : 0 < (patT s 1 m).length := by rw [patT_length]; have := hp.2.1; omega
  have HPOS := Lib.hid hpos
  clear hP hp hU hE hpos
  generalize patT s 1 m = xs at *
  have hb := blk_new w (.cells #[.int .i64 F, .int .i64 Z, .int .i64 limit, .int .i64 cap, .slice chA chn chc, .int .i64 k] 34)
  have ka := kept_alloc (kept_refl w) (.cells #[.int .i64 F, .int .i64 Z, .int .i64 limit, .int .i64 cap, .slice chA chn chc, .int .i64 k] 34)
  go_enter Tryz.func29, Tryz.ntmps29
  go_wp2_with fail
  refine (PR _).mono ?_
  rintro e w1 ⟨v, A, cp, rfl, own, hok, k1⟩
  obtain ⟨A2, c2, rfl, h21, h22, rn⟩ := ownN_nd own rfl (fun x hx => by rw [List.mem_singleton.1 hx]; exact hok)
  have hA2 : A2 = none → (1 = 0 ∧ c2 = 0) := fun e => by
    rcases own.2 with ⟨h1, h2⟩ | ⟨g', cap', cur, e1, _⟩
    · cases h2
    · rw [e] at e1; cases e1
  have hb1 := blk_kept k1 hb
  have k01 := kept_trans ka k1
  have q0 := blk_cell hb1 0
  have q1 := blk_cell hb1 1
  have q2 := blk_cell hb1 2
  clear PR own hok hb1 hb k1 ka
  go_wp2_with fail
  refine (NW A A2 cp c2 h21 h22 hA2 _ rn).mono ?_
  rintro e w2 ⟨c, rfl, k2, P⟩
  have k02 := kept_trans k01 k2
  have hx : (patN A m cp xs).ok w1 := rn.2.2 _ (by simp)
  have hx2 : ∀ ad, (patN A m cp xs).A = some ad → ad.block < w1.heap.size := fun ad e => by
    obtain ⟨ad', e', hd⟩ := hx.2.2.2 HPOS.out
    have h0 := World.block_lt_of_cell? _ _ (hd 0 HPOS.out)
    rw [ad_block] at h0
    rw [e] at e'
    cases e'
    exact h0
  have HZ := Lib.hid (⟨k02, k01.size, P, hx.kept k2, hx2⟩ : _ ∧ _ ∧ _ ∧ _ ∧ _)
  clear hx hx2 NW k02 k01 P k2 rn q0 q1 q2 h21 h22 hA2
  go_wp2_with fail
  refine bodyPost_ret (results_tmp4 rfl _ _ _) rfl ?_
  rw [← HP.out]
  obtain ⟨z1, z2, P, z4, z5⟩ := HZ.out
  obtain ⟨p1, p2, p3, p4, p5, p6, p7, p8, p9, p10⟩ := P
  exact ⟨_, c, w1.heap.size, A, cp, rfl, z1, z2, p1, p2, p3, p4, p5, p6, p7, p8, p9, p10, z4, z5⟩
end Go.Proofs.YtdejablhpljdfaaGreat
namespace Go.Proofs.YtdejablhpljdfaaGreat
open Go.RowKit BG
attribute [local go_sem ↓] Go.wp_at_zero Go.wp_at_succ run_max_at run_min_at
set_option linter.unusedVariables false
abbrev jnO (A : Option Addr) (n c : Nat) (A2 : Option Addr) (n2 c2 : Nat) (z : Int) : Obj := .cells #[.slice A n c, .slice A2 n2 c2, .int .i64 z] 184
set_option maxRecDepth 100000 in
set_option maxHeartbeats 2000000 in
theorem jpop_c (B : Nat) (A : Option Addr) (n c : Nat) (ad : Addr) (k c2 : Nat) (z : Int) (uA : Option Addr) (un uc : Nat) (hk : k < c2) (hc2 : c2 ≤ 9223372036854775807) (w : World) (h : w.heap[B]? = some (jnO A n c (some ad) (k + 1) c2 z)) (hu : w.cell? (ad.add k) = some (.slice uA un uc)) :
    Calls Tryz.prog 122 #[.pointer (some ⟨B, 0, none⟩)] w fun e w' => e = .returned (.slice uA un uc) ∧ w'.heap[B]? = some (jnO A n c (some ad) k c2 z) ∧ w.grownBy w' (some B) := by
  have q0 := blk_cell h 0
  have q1 := blk_cell h 1
  have f1 := blk_frozen h 1
  have i1 : (0 : Int) ≤ (k : Int) := by omega
  have i2 : (k : Int) < ((k + 1 : Nat) : Int) := by omega
  have i3 : ((k + 1 : Nat) : Int) - 1 = k := by omega
  have hB := Lib.hid (⟨blk_set h 1 (.slice (some ad) k c2), setCell_grown w ⟨B, 1, none⟩ (.slice (some ad) k c2)⟩ : _ ∧ _)
  clear h
  go_enter Tryz.func122, Tryz.ntmps122
  go_wp2_with fail
  go_ret
  exact ⟨rfl, hB.out.1, hB.out.2⟩
set_option maxRecDepth 100000 in
set_option maxHeartbeats 2000000 in
theorem jfind_c (B : Nat) (A2 : Option Addr) (n2 c2 : Nat) (ad : Addr) (k c : Nat) (z : Int) (uA : Option Addr) (un uc : Nat) (x : Nd) (hk : k < c) (hc2 : c ≤ 9223372036854775807) (w : World) (h : w.heap[B]? = some (jnO (some ad) (k + 1) c A2 n2 c2 z)) (hu : w.cell? (ad.add k) = some (.slice uA un uc)) :
    Calls Tryz.prog 116 #[.pointer (some ⟨B, 0, none⟩), x.v] w fun e w' => e = .returned (.slice uA un uc) ∧ w'.heap[B]? = some (jnO (some ad) k c A2 n2 c2 z) ∧ w.grownBy w' (some B) := by
  have kb := kept_alloc (kept_refl w) x.box
  have h' := blk_kept kb h
  have hu' := kept_cell kb hu
  have q0 := blk_cell h' 0
  have q1 := blk_cell h' 1
  have f1 := blk_frozen h' 0
  have hB := Lib.hid (⟨blk_set h' 0 (.slice (some ad) k c), grown_trans (grown_of_kept kb) (setCell_grown (w.alloc x.box) ⟨B, 0, none⟩ (.slice (some ad) k c))⟩ : _ ∧ _)
  have i1 : (0 : Int) ≤ (k : Int) := by omega
  have i2 : (k : Int) < ((k + 1 : Nat) : Int) := by omega
  have i3 : ((k + 1 : Nat) : Int) - 1 = k := by omega
  clear h h' kb hu
  go_enter Tryz.func116, Tryz.ntmps116
  go_wp2_with fail
  go_ret
  exact ⟨rfl, hB.out.1, hB.out.2⟩
end Go.Proofs.YtdejablhpljdfaaGreat
