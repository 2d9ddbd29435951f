/-
  Texts of one claim, joined: TRun1, TLine1, TLine2, TAlive, Row, RowW.
-/
import Derived.SizedLaws
import Derived.ChangeSlices
import Derived.OpenShut
import Derived.ProofKit
import Derived.Deep.Slices
import Derived.ChangeSame
import Derived.ChangeMaps5
import Derived.Test.YtdejablhpljdfaaGreatQ30
import Derived.Test.YtdejablhpljdfaaGreatQ31
import Derived.Test.YtdejablhpljdfaaGreatQ32
import Derived.Test.YtdejablhpljdfaaGreatQ28
import Derived.Test.YtdejablhpljdfaaGreatQ24
import Derived.Test.YtdejablhpljdfaaGreatQ25
import Derived.Test.YtdejablhpljdfaaGreatQ05
import Derived.Test.YtdejablhpljdfaaGreatQ01
namespace Go.Proofs.YtdejablhpljdfaaGreat
open Go.RowKit BG
attribute [local go_sem ↓] Go.wp_at_zero Go.wp_at_succ run_max_at run_min_at
set_option linter.unusedVariables false
theorem feed_apart {t : ByteArray} {ys : List Int} {B base c a to : Nat} {P : Option Addr} {en : Int} {w : World} (hB : w.heap[B]? = some (feedO t P ys.length c a to en)) (ho : Own .i64 3 base w (.slice P ys.length c) ys) :
    ¬ (∃ ad, P = some ad ∧ B = ad.block) ∧ ∀ g, (∃ ad, P = some ad ∧ g = ad.block) → base ≤ g ∧ g < w.heap.size := by
  rcases ho.2 with ⟨h1, h2⟩ | ⟨g, cap, cur, e, hg, hc, _⟩
  · obtain rfl : P = none := by injection h1
    exact ⟨(fun ⟨ad, e, _⟩ => by cases e), (fun g ⟨ad, e, _⟩ => by cases e)⟩
  · obtain rfl : P = some ⟨g, 0, none⟩ := by injection e
    refine ⟨fun ⟨ad, e1, e2⟩ => ?_, fun g' ⟨ad, e1, e2⟩ => ?_⟩
    · cases e1
      rw [e2, hc] at hB
      simp [feedO] at hB
    · cases e1
      rw [e2]
      exact ⟨hg, blk_lt hc⟩
theorem fstep_all {t : ByteArray} {tx : ByteArray} {ys' : List Int} {a' : Nat} {en' : Int} (h0 : 0 < t.size) (h : FStep t [] 0 t.size 1 tx ys' a' en') : tx = t ∧ ys' = [] ∧ a' = t.size ∧ en' = 0 := by
  rcases h with ⟨h1, _⟩ | ⟨_, rfl, rfl, rfl, rfl⟩
  · omega
  · refine ⟨?_, rfl, by simp [feedN], rfl⟩
    simp [feedN]
theorem fstep_none {t : ByteArray} {tx : ByteArray} {ys' : List Int} {a' : Nat} {en' : Int} (h : FStep t [] t.size t.size 1 tx ys' a' en') : tx = ⟨#[]⟩ ∧ ys' = [] ∧ a' = t.size ∧ en' = 1 := by
  rcases h with ⟨_, rfl, rfl, rfl, rfl⟩ | ⟨h1, _⟩
  · exact ⟨rfl, rfl, rfl, rfl⟩
  · omega
theorem app_none (t : ByteArray) : t ++ (⟨#[]⟩ : ByteArray) = t := by
  apply ByteArray.ext
  simp
theorem none_app (t : ByteArray) : (⟨#[]⟩ : ByteArray) ++ t = t := by
  apply ByteArray.ext
  simp
theorem stepV_all {c : StrC} {t : ByteArray} {vs : Nat → Value} (hl : t.size < c.limit) : stepV c ⟨0, 0, ⟨#[]⟩, 0, fun _ => 0, fun _ => [], fun _ => .slice none 0 0⟩ t 0 vs = ⟨t.size, 0, t, 0, fun _ => 0, fun _ => [], vs⟩ := by
  have hg : goesR c t 0 = false := by unfold goesR; rw [decide_eq_false (show ¬ c.limit ≤ t.size by omega)]; rfl
  unfold stepV
  dsimp only
  rw [none_app, if_neg (by rw [hg]; decide), Nat.zero_add]
theorem stepV_none {c : StrC} {t : ByteArray} {vs vs0 : Nat → Value} (h0 : 0 < t.size) : stepV c ⟨t.size, 0, t, 0, fun _ => 0, fun _ => [], vs0⟩ ⟨#[]⟩ 1 vs = ⟨t.size, 1, t.extract (t.size + 1 - c.longest) t.size, 1, fun k => srZ (c.x k) t 0 0, fun k => srF (c.x k) t 0 0 [], vs⟩ := by
  have hg : goesR c t 1 = true := by unfold goesR; rw [decide_eq_true (show t.size ≠ 0 by omega)]; rfl
  unfold stepV
  dsimp only
  rw [app_none, if_pos hg, show (⟨#[]⟩ : ByteArray).size = 0 from rfl, Nat.add_zero, Nat.sub_self]
theorem strS_one {base : Nat} {c : StrC} {v : StrV} {w : World} {x : Nd} (hok : StrOK base c) (hs : StrS c v w) (hl : c.l = [x]) (hq : c.q = 1) (hx : x.ok w) :
    RdN w c.qA [x] ∧ 1 ≤ c.qc ∧ c.qc ≤ 9223372036854775807 ∧ ∃ y : Sl, v.vs 0 = y.v ∧ y.xs = v.f 0 ∧ RdS w (some ⟨c.Fo, 0, none⟩) [y] ∧ y.xs.length ≤ y.cap ∧ y.cap ≤ 9223372036854775807 ∧ (y.A = none → y.xs.length = 0 ∧ y.cap = 0) ∧ ∀ ad, y.A = some ad → ad.block < w.heap.size := by
  obtain ⟨h1, h2⟩ := hok.qcap
  rw [hl] at h1
  refine ⟨⟨by simp, fun _ => ?_, fun z hz => by rw [List.mem_singleton.1 hz]; exact hx⟩, h1, h2, ?_⟩
  · obtain ⟨ad, e, hat⟩ := hs.qs 0 x (by rw [hl]; rfl)
    refine ⟨ad, e, fun j z hz => ?_⟩
    match j, hz with
    | 0, hz =>
      obtain rfl : x = z := by simpa using hz
      exact hat
    | j + 1, hz => simp at hz
  · have ho := hs.own 0 (by omega)
    obtain ⟨A, cp, e, h3, h4, hr⟩ := ho.rd
    refine ⟨⟨A, cp, v.f 0⟩, e, rfl, ⟨by simp, fun _ => ⟨_, rfl, fun j z hz => ?_⟩, fun z hz => by rw [List.mem_singleton.1 hz]; exact hr⟩, h3, h4, fun e0 => ?_, fun ad e0 => ?_⟩
    · match j, hz with
      | 0, hz =>
        obtain rfl : (⟨A, cp, v.f 0⟩ : Sl) = z := by simpa using hz
        rw [add_head]
        exact (blk_cell hs.fo 0).trans ((vsA_at (by omega)).trans (congrArg some e))
      | j + 1, hz => simp at hz
    · rw [e] at ho
      rcases ho.2 with ⟨h5, h6⟩ | ⟨g, cap, cur, e1, _⟩
      · injection h5 with _ _ h7
        exact ⟨h6, h7⟩
      · injection e1 with e2
        dsimp only at e0
        rw [e0] at e2
        cases e2
    · rw [e] at ho
      dsimp only at e0
      rw [e0] at ho
      exact (World.ownsRow.lt ho _ rfl).2
structure Apart3 (base : Nat) (c : StrC) (Bf : Nat) (Y : Nat → Prop) : Prop where
  ok : StrOK base c
  one : 1 ≤ c.longest
  q64 : c.q ≤ 64
  b : c.lo c.q ≤ Bf ∧ Bf < c.M
  bs : ∀ ad, c.sA = some ad → ad.block ≠ Bf
  yb : ¬ Y Bf
  yx : ∀ g, Y g → ¬ StrX c g
theorem apart3_of {base Bf W1 : Nat} {c : StrC} {Y : Nat → Prop} {w2 : World} (hok : StrOK base c) (h1 : 1 ≤ c.longest) (hq : c.q ≤ 64) (hM : c.M = W1) (hB : W1 ≤ Bf) (hB2 : Bf < w2.heap.size) (hYB : ¬ Y Bf) (hY : ∀ g, Y g → W1 ≤ g ∧ g < w2.heap.size) : Apart3 base { c with M := w2.heap.size } Bf Y := by
  have hl0 := lo_mono hok c.q 0 (by omega)
  rw [Nat.zero_add] at hl0
  have hMM := hok.hM
  have hS := hok.hS
  have hF := hok.hF
  refine ⟨hok.raise (by omega), h1, hq, ⟨by show c.lo c.q ≤ Bf; omega, hB2⟩, fun ad e => ?_, hYB, fun g hg => ?_⟩
  · have := (hok.hs ad e).2.1
    omega
  · have hg := hY g hg
    rintro (h | h | ⟨k, hk, h⟩ | h)
    · have h : g = c.S := h
      omega
    · have h : g = c.Fo := h
      omega
    · have h : g = (c.r k).bn := h
      have := bn_lt hok (k := k) hk
      omega
    · have h : w2.heap.size ≤ g := h
      omega
theorem Apart3.step {base : Nat} {c : StrC} {Bf : Nat} {Y : Nat → Prop} (h : Apart3 base c Bf Y) (v : StrV) (t : ByteArray) (ys : List Int) (a b : Nat) (en : Int) (hi : StrI c v) (hen : v.en = 0) (hsa : v.seen = a) (hrd : v.rounds ≤ 1000000) (hab : a ≤ b) (hb : b ≤ t.size) (ht : t.size ≤ 100000) (w : World) (hM : c.M ≤ w.heap.size) (hs : StrS c v w) (hf : FeedS t ys a b en Bf Y w) :
    Calls Tryz.prog 19 #[.pointer (some ⟨c.S, 0, none⟩), .pointer (some ⟨Bf, 0, none⟩)] w (StepPost c v t ys a b en Bf Y w) :=
  sstep_go base c v t ys a b en Bf Y h.ok h.one hi hen hsa hrd h.q64 h.b h.bs h.yb h.yx hab hb ht w hM hs hf
theorem two_steps {base : Nat} {c : StrC} {Bf : Nat} {Y : Nat → Prop} (h : Apart3 base c Bf Y) (t : ByteArray) (h0 : 0 < t.size) (ht : t.size < c.limit) (w : World) (hM : c.M ≤ w.heap.size) (hs : StrS c ⟨0, 0, ⟨#[]⟩, 0, fun _ => 0, fun _ => [], fun _ => .slice none 0 0⟩ w) (hf : FeedS t [] 0 t.size 1 Bf Y w) :
    Calls Tryz.prog 19 #[.pointer (some ⟨c.S, 0, none⟩), .pointer (some ⟨Bf, 0, none⟩)] w fun e w3 => e = .returned (.bool true) ∧ Hid (Chg (fun g => StrX c g ∨ g = Bf) w w3 ∧
      Calls Tryz.prog 19 #[.pointer (some ⟨c.S, 0, none⟩), .pointer (some ⟨Bf, 0, none⟩)] w3 fun e w4 => e = .returned (.bool false) ∧ Hid (Chg (fun g => StrX c g ∨ g = Bf) w w4 ∧ ∃ vs, StrS c ⟨t.size, 1, t.extract (t.size + 1 - c.longest) t.size, 1, fun k => srZ (c.x k) t 0 0, fun k => srF (c.x k) t 0 0 [], vs⟩ w4)) := by
  have hlim := h.ok.lim
  refine (h.step _ t [] 0 t.size 1 StrI.start rfl rfl (by decide) (Nat.zero_le _) (Nat.le_refl _) (by omega) w hM hs hf).mono ?_
  rintro e w3 ⟨tx, ys', a', en', vs, rfl, hst, hs3, hf3, hc3⟩
  obtain ⟨rfl, rfl, rfl, rfl⟩ := fstep_all h0 hst
  rw [stepV_all ht] at hs3
  refine ⟨rfl, Lib.hid ⟨hc3, ?_⟩⟩
  have hi : StrI c ⟨tx.size, 0, tx, 0, fun _ => 0, fun _ => [], vs⟩ := ⟨fun k hk => ⟨by simp, by simp, by simp⟩, Nat.le_refl _⟩
  refine (h.step _ tx [] tx.size tx.size 1 hi rfl rfl (Nat.zero_le _) (Nat.le_refl _) (Nat.le_refl _) (by omega) w3 (Nat.le_trans hM hc3.size) hs3 hf3).mono ?_
  rintro e w4 ⟨tx2, ys2, a2, en2, vs2, rfl, hst2, hs4, hf4, hc4⟩
  obtain ⟨rfl, rfl, rfl, rfl⟩ := fstep_none hst2
  rw [stepV_none h0] at hs4
  exact ⟨rfl, Lib.hid ⟨hc3.trans hc4, vs2, hs4⟩⟩
theorem result_one {base : Nat} {c : StrC} {v : StrV} {w : World} {x : Nd} (hok : StrOK base c) (hs : StrS c v w) (hl : c.l = [x]) (hq : c.q = 1) (hx : x.ok w) (hk : x.k = 1) (hqr : qrightv [x] = true) (hen : v.en = 1) (hsr : srv (v.f 0) (-1) = true) (hlen : (v.f 0).length ≤ 17592186043904) :
    Calls Tryz.prog 30 #[.pointer (some ⟨c.S, 0, none⟩)] w fun e w' => ∃ r, e = .returned (.tuple #[r, .int .i64 0]) ∧ NewI (v.f 0) w r w' := by
  obtain ⟨hr, h1, h2, y, h3, h4, h5, h6, h7, h8, h9⟩ := strS_one hok hs hl hq hx
  have hS := hs.s
  rw [hl, hq, hen] at hS
  refine result1_c c.S c.Fo c.qc c.sc c.qA c.sA v.seen v.rounds c.F c.Z c.limit c.longest v.held (v.f 0) w hS fun w1 k1 => ?_
  have hj := join1n_c c.qA (some ⟨c.Fo, 0, none⟩) c.qc 1 x y v.seen hk hqr (by rw [h4]; exact hsr) h1 h2 (Nat.le_refl _) (by decide) (by rw [h4]; exact hlen) h6 h7 h8 w1 (fun ad e => Nat.lt_of_lt_of_le (h9 ad e) k1.size) (hr.kept k1) (h5.kept k1)
  rw [h4] at hj
  exact hj
set_option maxRecDepth 100000 in
set_option maxHeartbeats 8000000 in
theorem run1_c (s t : ByteArray) (m : Nat) (hp : PatTx s m) (hU : U64 (patT s 1 m)) (F limit : Nat) (Z cap : Int) (k : Int) (hE : ∀ A cap, evE [patN A m cap (patT s 1 m)] F Z = 0) (hl1 : m ≤ limit) (hl2 : limit ≤ 10000) (ht0 : 0 < t.size) (ht : t.size < limit) (hk : k < 0)
    (xs : List Int) (hxs : srF (patN none m 0 (patT s 1 m)) t 0 0 [] = xs) (hsr : srv xs (-1) = true) (hxn : (xs.length : Int) ≤ max 0 cap) (w : World) :
    Calls Tryz.prog 8 #[.string s, .string t, setW F Z limit cap (.slice none 0 0) k] w fun e w' => ∃ v, e = .returned (.tuple #[v, .int .i64 0, .int .i64 0]) ∧ NewI xs w v w' := by
  have hqr : ∀ A cp, qrightv [patN A m cp (patT s 1 m)] = true := fun A cp => by
    have h := hE A cp
    unfold evE at h
    cases hb : qrightv [patN A m cp (patT s 1 m)]
    · rw [if_pos (.inl hb)] at h; omega
    · rfl
  have hxl : xs.length ≤ 17592186043904 := by
    have hnd := (anybad_ok (hqr none 0)).2.1 _ (List.mem_singleton.2 rfl)
    unfold ndokv at hnd
    rw [Bool.and_eq_true, if_pos rfl] at hnd
    have h := (sr_bd (x := patN none m 0 (patT s 1 m)) (held := t) (bs := 0) (z := 0) (f := []) hnd.2 (by omega) (by simp)).1
    rw [hxs] at h
    unfold srZ at h
    dsimp only at h
    omega
  have hft : feedTo t k = t.size := if_neg (by omega)
  have hfe : feedEnd t k = 1 := if_neg (by omega)
  have OP := fun w1 => open1_c s m hp hU F limit Z cap (.slice none 0 0) k ⟨_, _, _, rfl⟩ hE hl1 hl2 w1
  have FN := fun w1 => feednew_c t none 0 [] k (by omega) (by simp) w1 (fun _ => ⟨rfl, rfl⟩) (Rd.nil _ _ _)
  rw [hft, hfe] at FN
  have hb := blk_new w (.cells #[.int .i64 F, .int .i64 Z, .int .i64 limit, .int .i64 cap, .slice none 0 0, .int .i64 k] 34)
  have ka := kept_alloc (kept_refl w) (.cells #[.int .i64 F, .int .i64 Z, .int .i64 limit, .int .i64 cap, .slice none 0 0, .int .i64 k] 34)
  have d1 : decide ((100000 : Int) < (t.size : Int)) = false := decide_eq_false (by omega)
  have d2 : decide (100000 < t.size) = false := decide_eq_false (by omega)
  have q := blk_cell hb
  have q0 := q 0
  have q1 := q 1
  have q2 := q 2
  have q3 := q 3
  have q4 := q 4
  have q5 := q 5
  have HH := Lib.hid (⟨hqr, hxs, hsr, hxl, ht0, ht, hp.2.1, hl2⟩ : _ ∧ _ ∧ _ ∧ _ ∧ _ ∧ _ ∧ _ ∧ _)
  clear q hqr hxs hsr hxl ht0 ht hp hft hfe hl2 hl1 hE hU
  go_enter Tryz.func8, Tryz.ntmps8
  go_wp2_with fail
  refine wp_scope_jumps 0 (fun _ _ => False) (fun _ _ => 0) rfl ?_ (fun a w h => h.elim)
  go_wp2_with fail
  refine (OP _).mono ?_
  rintro e w1 ⟨v, c, base, A, cp, rfl, k1, hbase, hok, hM, hcl, hF, hZ, hlim, hlg, hcq, hcx, hS, hxo, hxb⟩
  have hb1 := blk_kept k1 hb
  have p4 := blk_cell hb1 4
  have p5 := blk_cell hb1 5
  have p3 := blk_cell hb1 3
  have k01 := kept_trans ka k1
  clear OP q0 q1 q2 q3 q4 q5 ka k1 hb
  have HC := Lib.hid (⟨hbase, hok, hM, hcl, hF, hZ, hlim, hlg, hcq, hcx, hxo, hxb⟩ : _ ∧ _ ∧ _ ∧ _ ∧ _ ∧ _ ∧ _ ∧ _ ∧ _ ∧ _ ∧ _ ∧ _)
  clear hbase hok hM hcl hF hZ hlim hlg hcq hcx hxo hxb
  go_wp2_with fail
  refine (FN _).mono ?_
  rintro e w2 ⟨Bf, P, pc, rfl, hBf, hf, hPo, k2⟩
  have hF := feedS_new hf hPo
  have hap := feed_apart hf hPo
  have hS2 := (hS.kept k2).raise (M := w2.heap.size) (fun k _ => ⟨rfl, rfl⟩)
  have hb2 := blk_kept k2 hb1
  have k02 := kept_trans k01 k2
  have hqq : c.q = 1 := by rw [HC.out.2.2.2.2.2.2.2.2.1]; simp [leavesN]
  have hlo : c.longest = m := by rw [HC.out.2.2.2.2.2.2.2.1]; simp [longv, leavesN, longL]
  have A3 := apart3_of (w2 := w2) HC.out.2.1 (by rw [hlo]; exact HH.out.2.2.2.2.2.2.1) (by omega) HC.out.2.2.1 hBf (blk_lt hf) hap.1 hap.2
  have ST := two_steps A3 t HH.out.2.2.2.2.1 (by show t.size < c.limit; rw [HC.out.2.2.2.2.2.2.1]; exact HH.out.2.2.2.2.2.1) w2 (Nat.le_refl _) hS2 hF
  have hox := HC.out.2.2.2.2.2.2.2.2.2.2.1.kept k2
  have HB := Lib.hid (⟨A3, hqq, hlo, hBf, k2.size, k02, hox, hb2⟩ : _ ∧ _ ∧ _ ∧ _ ∧ _ ∧ _ ∧ _ ∧ _)
  clear FN hS hf hPo hF hap hS2 hBf k01 k2 p4 p5 hb1 hb2 A3 hqq hlo k02 hox
  go_wp2_with fail
  refine wp_loop_rounds 2 ?_
  rw [rounds_succ]
  go_wp2_with fail
  refine ST.mono ?_
  rintro e w3 ⟨rfl, H3⟩
  have ST2 := H3.out.2
  clear ST
  go_wp2_with fail
  rw [rounds_succ]
  go_wp2_with fail
  refine ST2.mono ?_
  rintro e w4 ⟨rfl, H4⟩
  obtain ⟨hc4, vs, hs4⟩ := H4.out
  obtain ⟨A3, hqq, hlo, hBf, hsz2, k02, hox, hb2⟩ := HB.out
  have hX : ∀ g, (StrX { c with M := w2.heap.size } g ∨ g = Bf) → base ≤ g := fun g h => by
    rcases h with h | rfl
    · exact StrX.ge A3.ok (by have := HC.out.2.2.1; have := HC.out.2.1.hS; have := lo0_M HC.out.2.1; show base ≤ w2.heap.size; omega) h
    · have := HC.out.2.2.1; have := HC.out.2.1.hS; have := lo0_M HC.out.2.1; omega
  have hbw : w.heap.size < base := by have := HC.out.1; simp at this; omega
  have k04 := kept_chg k02 hc4 (fun g h => by have := hX g h; omega)
  have hb4 := hc4.blk hb2 (fun h => by have := hX _ h; omega)
  have hx4 : (patN A m cp (patT s 1 m)).ok w4 := ⟨hox.1, hox.2.1, hox.2.2.chg hc4 fun ad e h => by have := hX _ h; have := HC.out.2.2.2.2.2.2.2.2.2.2.2 ad e; omega⟩
  have RS := result_one A3.ok hs4 HC.out.2.2.2.1 hqq hx4 rfl (HH.out.1 A cp) rfl (by
    show srv (srF _ t 0 0 []) (-1) = true
    rw [HC.out.2.2.2.2.2.2.2.2.2.1]
    show srv (srF (ndAt (leavesN [patN A m cp (patT s 1 m)]) 0) t 0 0 []) (-1) = true
    rw [show ndAt (leavesN [patN A m cp (patT s 1 m)]) 0 = patN A m cp (patT s 1 m) by simp [leavesN, ndAt]]
    show srv (srF (patN none m 0 (patT s 1 m)) t 0 0 []) (-1) = true
    rw [HH.out.2.1]
    exact HH.out.2.2.1) (by
    show (srF _ t 0 0 []).length ≤ _
    rw [HC.out.2.2.2.2.2.2.2.2.2.1]
    show (srF (ndAt (leavesN [patN A m cp (patT s 1 m)]) 0) t 0 0 []).length ≤ _
    rw [show ndAt (leavesN [patN A m cp (patT s 1 m)]) 0 = patN A m cp (patT s 1 m) by simp [leavesN, ndAt]]
    show (srF (patN none m 0 (patT s 1 m)) t 0 0 []).length ≤ _
    rw [HH.out.2.1]
    exact HH.out.2.2.2.1)
  have hf0 : (fun k => srF (c.x k) t 0 0 []) 0 = xs := by
    show srF (c.x 0) t 0 0 [] = xs
    rw [HC.out.2.2.2.2.2.2.2.2.2.1, show ndAt (leavesN [patN A m cp (patT s 1 m)]) 0 = patN A m cp (patT s 1 m) by simp [leavesN, ndAt]]
    exact HH.out.2.1
  dsimp only at RS hf0
  rw [hf0] at RS
  have p3 := blk_cell hb4 3
  have HF := Lib.hid (⟨k04, hbw⟩ : _ ∧ _)
  clear ST2 A3 hqq hlo hBf hsz2 k02 hox hb2 hX hbw k04 hx4 hf0 hs4 hc4 H3 H4 HB
  go_wp2_with fail
  refine RS.mono ?_
  rintro e w5 ⟨r, rfl, own⟩
  obtain ⟨C, cc, rfl⟩ := newI_sl own.1
  replace p3 := kept_cell own.2 p3
  have hxd : decide ((xs.length : Int) ≤ max 0 cap) = true := decide_eq_true hxn
  have HG := Lib.hid own
  clear RS own
  go_wp2_with fail
  refine (fun a w6 (h : bodyPost Tryz.prog Tryz.f8 (fun e w' => ∃ v, e = .returned (.tuple #[v, .int .i64 0, .int .i64 0]) ∧ NewI xs w v w') Exit.ret a w6) => h) _ _ ?_
  refine bodyPost_ret (v := .tuple #[.slice C xs.length cc, .int .i64 0, .int .i64 0]) (by simp [results, Tryz.results8, go_sem]) rfl ?_
  refine ⟨_, rfl, ?_⟩
  obtain ⟨n1, n2⟩ := HG.out
  exact ⟨ownsRow_less n1 HF.out.1.size, kept_trans HF.out.1 n2⟩
end Go.Proofs.YtdejablhpljdfaaGreat
namespace Go.Proofs.YtdejablhpljdfaaGreat
open Go.RowKit BG
attribute [local go_sem ↓] Go.wp_at_zero Go.wp_at_succ run_max_at run_min_at
set_option linter.unusedVariables false
set_option maxRecDepth 100000 in
set_option maxHeartbeats 2000000 in
theorem digit_c (n : Nat) (hn : n < 10) (p : Value) (w : World) : Calls Tryz.prog 59 #[.int .i64 (n : Nat), p] w (Ret (.string ⟨#[UInt8.ofNat (48 + n)]⟩) w) := by
  have b1 : decide ((n : Int) < 10) = true := decide_eq_true (by omega)
  have b2 : (n : Int) < 10 := by omega
  have hy : (UInt8.ofNat (48 + n)).toNat = 48 + n := by simp; omega
  have d0 := blk_cell (blk_new w (.cells #[.int .u8 ((48 : Int) + n)] 5)) 0
  have kb := kept_alloc (kept_refl w) (.cells #[.int .u8 ((48 : Int) + n)] 5)
  have wr : (48 + (n : Int)) % 256 = 48 + n := by omega
  go_enter Tryz.func59, Tryz.ntmps59
  go_wp2_with (refine wpList_str [UInt8.ofNat (48 + n)] rfl rfl rfl rfl ?cc ?_)
  case cc =>
    intro j' hj'
    obtain rfl : j' = 0 := by simp at hj'; omega
    rw [add_head]
    show World.cell? _ _ = some (Value.int .u8 (([UInt8.ofNat (48 + n)][0]).toNat : Nat))
    have hc : (([UInt8.ofNat (48 + n)][0]).toNat : Int) = 48 + (n : Int) := by rw [List.getElem_cons_zero, hy]; push_cast; rfl
    rw [hc]
    exact d0
  go_wp2_with fail
  go_ret
  exact ⟨by simp, kb⟩
end Go.Proofs.YtdejablhpljdfaaGreat
namespace Go.Proofs.YtdejablhpljdfaaGreat
open Go.RowKit BG
attribute [local go_sem ↓] Go.wp_at_zero Go.wp_at_succ run_max_at run_min_at
set_option linter.unusedVariables false
set_option maxRecDepth 100000 in
set_option maxHeartbeats 8000000 in
theorem line2_c (s t : ByteArray) (F limit : Nat) (Z cap k : Int)
    (RN : ∀ w1, Calls Tryz.prog 8 #[.string s, .string t, setW F Z limit cap (.slice none 0 0) k] w1 fun e w' => ∃ v, e = .returned (.tuple #[v, .int .i64 0, .int .i64 0]) ∧ NewI [0, 2] w1 v w') (w : World) :
    Calls Tryz.prog 28 #[.string s, .string t, setW F Z limit cap (.slice none 0 0) k] w (Ret (.string ⟨#[111, 107, 32, 48, 32, 50]⟩) w) := by
  have hb := blk_new w (.cells #[.int .i64 F, .int .i64 Z, .int .i64 limit, .int .i64 cap, .slice none 0 0, .int .i64 k] 34)
  have ka := kept_alloc (kept_refl w) (.cells #[.int .i64 F, .int .i64 Z, .int .i64 limit, .int .i64 cap, .slice none 0 0, .int .i64 k] 34)
  have D0 := fun p w1 => digit_c 0 (by decide) p w1
  have D2 := fun p w1 => digit_c 2 (by decide) p w1
  have q := blk_cell hb
  have q0 := q 0
  have q1 := q 1
  have q2 := q 2
  have q3 := q 3
  have q4 := q 4
  have q5 := q 5
  clear q
  go_enter Tryz.func28, Tryz.ntmps28
  go_wp2_with fail
  refine (RN _).mono ?_
  rintro e w1 ⟨v, rfl, own, k1⟩
  obtain ⟨C, cc, rfl⟩ := newI_sl own
  obtain ⟨g, rfl, hg1, hg2, c0, c1⟩ : ∃ g, C = some ⟨g, 0, none⟩ ∧ (w.alloc (.cells #[.int .i64 F, .int .i64 Z, .int .i64 limit, .int .i64 cap, .slice none 0 0, .int .i64 k] 34)).heap.size ≤ g ∧ g < w1.heap.size ∧ w1.cell? ⟨g, 0, none⟩ = some (.int .i64 0) ∧ w1.cell? ⟨g, 1, none⟩ = some (.int .i64 2) := by
    have o := own
    rcases o.2 with ⟨_, h2⟩ | ⟨g, c', cur, e1, h1, hc, _⟩
    · cases h2
    · cases e1
      exact ⟨g, rfl, h1, blk_lt hc, World.ownsRow.cells own (g := g) rfl 0 _ rfl, World.ownsRow.cells own (g := g) rfl 1 _ rfl⟩
  have k01 := kept_trans ka k1
  have hsz := k01.size
  clear own q0 q1 q2 q3 q4 q5 RN hb ka k1 hg1
  go_wp2_with fail
  have hB := blk_new w1 (.cells #[.func (.func 59) #[] #[.pointer (some ⟨w1.heap.size, 0, none⟩)]] 132)
  have kB := kept_alloc (kept_refl w1) (.cells #[.func (.func 59) #[] #[.pointer (some ⟨w1.heap.size, 0, none⟩)]] 132)
  have b0 := blk_cell hB 0
  replace c0 := kept_cell kB c0
  replace c1 := kept_cell kB c1
  have k02 := kept_trans k01 kB
  generalize w1.alloc (.cells #[.func (.func 59) #[] #[.pointer (some ⟨w1.heap.size, 0, none⟩)]] 132) = w2 at *
  generalize w1.heap.size = B1 at *
  clear kB k01 hsz hg2
  refine wp_loop_rounds 3 ?_
  rw [rounds_succ]
  go_wp2_with fail
  refine (D0 _ _).mono ?_
  rintro e w3 ⟨rfl, k3⟩
  replace hB := blk_kept k3 hB
  replace b0 := blk_cell hB 0
  replace c0 := kept_cell k3 c0
  replace c1 := kept_cell k3 c1
  replace k02 := kept_trans k02 k3
  clear k3 D0
  go_wp2_with fail
  rw [rounds_succ]
  go_wp2_with fail
  refine (D2 _ _).mono ?_
  rintro e w4 ⟨rfl, k4⟩
  replace hB := blk_kept k4 hB
  replace b0 := blk_cell hB 0
  replace c0 := kept_cell k4 c0
  replace c1 := kept_cell k4 c1
  replace k02 := kept_trans k02 k4
  clear k4 D2
  go_wp2_with fail
  rw [rounds_succ]
  go_wp2_with fail
  go_ret
  exact ⟨by first | rfl | simp, k02⟩
end Go.Proofs.YtdejablhpljdfaaGreat
namespace Go.Proofs.YtdejablhpljdfaaGreat
open Go.RowKit BG
attribute [local go_sem ↓] Go.wp_at_zero Go.wp_at_succ run_max_at run_min_at
set_option linter.unusedVariables false
def tAb : ByteArray := ⟨#[97, 98, 97, 98]⟩
def lAb : ByteArray := ⟨#[97, 98]⟩
def qAb : ByteArray := ⟨#[34, 97, 98, 34]⟩
def xAb : List Int := [0, 8589934592, 0, 0, 0, 17179869184, 0, 0]
theorem ta_x : txtT lAb 2 = xAb ∧ patT qAb 1 2 = xAb := by decide +kernel
theorem ta_u : U64 xAb := u64_all (by decide)
theorem ta_u1 : U64 [0, 8589934592, 0, 0] := u64_all (by decide)
theorem ta_z : sizedv 1 xAb 2 0 tAb.size 4 = true ∧ sizedv 2 xAb 2 0 tAb.size 4 = true ∧ sizedv 3 xAb 2 0 tAb.size 4 = true ∧ sizedv 4 xAb 2 0 tAb.size 4 = true ∧ sizedv 5 xAb 2 0 tAb.size 4 = true := by decide +kernel
theorem ta_h : hitsv (countsv xAb 2 0 tAb) 0 = [0, 2] ∧ srF (patN none 2 0 xAb) tAb 0 0 [] = [0, 2] ∧ srv [0, 2] (-1) = true := by decide +kernel
theorem ta_g : (gfindL 2 1 [0, 8589934592, 0, 0] 1 tAb 4).length = 2 ∧ gfindE 2 1 [0, 8589934592, 0, 0] 1 tAb 4 = 0 := by decide +kernel
theorem ta_p : PatTx qAb 2 := by unfold PatTx; decide +kernel
theorem ta_e (A : Option Addr) (cap : Nat) : evE [patN A 2 cap xAb] 0 0 = 0 := by kernel_rfl
theorem ta_run (w : World) : Calls Tryz.prog 8 #[.string qAb, .string tAb, setW 0 0 9 9 (.slice none 0 0) (-1)] w fun e w' => ∃ v, e = .returned (.tuple #[v, .int .i64 0, .int .i64 0]) ∧ NewI [0, 2] w v w' :=
  run1_c qAb tAb 2 ta_p (by rw [ta_x.2]; exact ta_u) 0 9 0 9 (-1) (fun A cap => by rw [ta_x.2]; exact ta_e A cap) (by decide) (by decide) (by decide) (by decide) (by decide) [0, 2] (by rw [ta_x.2]; exact ta_h.2.1) ta_h.2.2 (by decide) w
theorem ta_line (w : World) : Calls Tryz.prog 28 #[.string qAb, .string tAb, setW 0 0 9 9 (.slice none 0 0) (-1)] w (Ret (.string ⟨#[111, 107, 32, 48, 32, 50]⟩) w) :=
  line2_c qAb tAb 0 9 0 9 (-1) ta_run w
theorem ta_find (k : Nat) (h1 : 1 ≤ k) (h5 : k ≤ 5) (A : Option Addr) (cap : Nat) (w : World) (hr : Rd .u64 w A xAb) : Calls Tryz.prog 26 #[.int .i64 (k : Nat), leafV A 2 cap 0, .string tAb, .int .i64 4] w fun e w' => ∃ A' cap' n, e = .returned (.tuple #[.slice A' 2 cap', .int .i64 n, .int .i64 0]) ∧ Rd .i64 w' A' [0, 2] ∧ Kept w w' := by
  have hz : sizedv k xAb 2 0 tAb.size 4 = true := by
    obtain ⟨z1, z2, z3, z4, z5⟩ := ta_z
    have h : k = 1 ∨ k = 2 ∨ k = 3 ∨ k = 4 ∨ k = 5 := by omega
    rcases h with rfl | rfl | rfl | rfl | rfl
    · exact z1
    · exact z2
    · exact z3
    · exact z4
    · exact z5
  obtain ⟨e1, e2⟩ := way_law ta_u h5 hz
  refine (mfind_c k h1 h5 A cap 2 xAb 0 tAb 4 ta_u rfl (by decide) (by decide) w hr).mono ?_
  rintro e w' ⟨A', cap', rfl, rd, hk⟩
  rw [e1, ta_h.1] at rd ⊢
  rw [e2]
  exact ⟨A', cap', _, rfl, rd.1, hk⟩
theorem rd_take {k : IntKind} {w : World} {A : Option Addr} {xs : List Int} (h : Rd k w A xs) (n : Nat) : Rd k w A (xs.take n) := by
  refine ⟨Nat.le_trans (by simp; omega) h.1, fun h0 => ?_⟩
  obtain ⟨ad, e, hd⟩ := h.2 (by simp at h0; omega)
  refine ⟨ad, e, fun j hj => ?_⟩
  rw [List.length_take] at hj
  rw [hd j (by omega), nth_take (by omega)]
set_option maxRecDepth 100000 in
set_option maxHeartbeats 16000000 in
theorem alive_c (w : World) : Calls Tryz.prog 7 #[] w (Ret (.bool true) w) := by
  have TX := fun w1 => text_c lAb 0 (by decide) w1
  have MF := ta_find
  have GF := fun A cap w1 h => gfind_c 2 1 A cap 1 [0, 8589934592, 0, 0] tAb 4 ta_u1 rfl (by decide) (by decide) w1 h
  unfold AnsF at GF
  rw [ta_g.1, ta_g.2] at GF
  generalize gfindL 2 1 [0, 8589934592, 0, 0] 1 tAb 4 = gl at *
  generalize gfindN 2 1 [0, 8589934592, 0, 0] 1 tAb 4 = gn at *
  have LN := ta_line
  rw [show lAb.size = 2 from rfl, ta_x.1] at TX
  unfold lAb at TX
  unfold tAb at MF GF LN
  unfold qAb at LN
  have ka := kept_alloc (kept_refl w) (.cells #[.int .i64 0, .int .i64 0, .int .i64 9, .int .i64 9, .slice none 0 0, .int .i64 (-1)] 34)
  have hb := blk_new w (.cells #[.int .i64 0, .int .i64 0, .int .i64 9, .int .i64 9, .slice none 0 0, .int .i64 (-1)] 34)
  go_enter Tryz.func7, Tryz.ntmps7
  go_wp2_with fail
  refine (TX _).mono ?_
  rintro e w1 ⟨A, cap, rfl, rd, k1, hcap⟩
  replace hb := blk_kept k1 hb
  replace ka := kept_trans ka k1
  have hl := blk_new w1 (.cells #[.slice A 2 cap, .int .i64 0] 61)
  have kl := kept_alloc (kept_refl w1) (.cells #[.slice A 2 cap, .int .i64 0] 61)
  replace hb := blk_kept kl hb
  replace ka := kept_trans ka kl
  replace rd := rd.kept kl
  clear TX k1 kl
  go_wp2_with fail
  generalize w1.alloc (.cells #[.slice A 2 cap, .int .i64 0] 61) = wL at *
  generalize w1.heap.size = L1 at *
  go_loopw [3] (fun v wr => ∃ k : Nat, 1 ≤ k ∧ k ≤ 6 ∧ v = .int .i64 k ∧ Kept wL wr) (fun v _ => 6 - (intOf v).toNat)
  case atStart => exact ⟨1, by decide, by decide, rfl, kept_refl _⟩
  case round =>
    obtain ⟨k, h1, h6, rfl, hkw⟩ := hrel
    have hbw := blk_kept hkw hb
    have hlw := blk_kept hkw hl
    have rdw := rd.kept hkw
    have l0 := blk_cell hlw 0
    have l1 := blk_cell hlw 1
    by_cases h5 : k ≤ 5
    · have MFk := MF k h1 h5
      clear MF
      go_wp2_with fail
      refine (MFk _ _ _ rdw).mono ?_
      rintro e w2 ⟨A2, c2, n2, rfl, rd2, k2⟩
      have k3 := kept_trans hkw k2
      clear MFk l0 l1 hbw hlw rdw
      have PL := places_c A2 (some ⟨w2.heap.size, 0, none⟩) c2 2 [0, 2] [0, 2] (w2.alloc (.cells #[.int .i64 0, .int .i64 2] 3)) (rd2.kept (kept_alloc (kept_refl w2) _)) (blk_rd (k := .i64) (xs := [0, 2]) (blk_new w2 (.cells #[.int .i64 0, .int .i64 2] 3)) (by decide))
      have k4 := kept_alloc k3 (.cells #[.int .i64 0, .int .i64 2] 3)
      rw [show sameL [0, 2] [0, 2] = true by decide] at PL
      clear rd2 k3 k2
      go_wp2_with fail
      refine PL.mono ?_
      rintro e w5 ⟨rfl, k5⟩
      have k6 := kept_trans k4 k5
      clear PL k5 k4
      go_wp2_with fail
      go_roundw
      case rel => exact ⟨k + 1, by omega, by omega, by go_num, k6⟩
      case measure => simp [intOf]; omega
    · obtain rfl : k = 6 := by omega
      go_wp2_with fail
      refine (GF _ _ _ (rd_take rdw 4)).mono ?_
      rintro e w6 ⟨v6, rfl, own6, k6⟩
      obtain ⟨g6, c6, rfl, _, _⟩ := own6.pos (by decide) (by decide)
      have kz := kept_trans (kept_trans ka hkw) k6
      have hb6 := blk_kept k6 hbw
      have q0 := blk_cell hb6 0
      have q1 := blk_cell hb6 1
      have q2 := blk_cell hb6 2
      have q3 := blk_cell hb6 3
      have q4 := blk_cell hb6 4
      have q5 := blk_cell hb6 5
      clear GF own6 k6 hbw hlw rdw l0 l1 MF
      go_wp2_with fail
      refine (LN _).mono ?_
      rintro e w7 ⟨rfl, k7⟩
      have kz := kept_trans kz k7
      clear LN q0 q1 q2 q3 q4 q5
      go_wp2_with fail
      go_ret
      exact ⟨by first | rfl | simp | decide, kz⟩
end Go.Proofs.YtdejablhpljdfaaGreat
set_option linter.unusedVariables false
namespace Go.Proofs.YtdejablhpljdfaaGreat
open Go.ChangeShapes Go.WideShapes Go.ChangeAt Go.RowKit
section
variable {H : Type} {enc : TypeId × Value → H} {P : Program} {w : World} {base : Nat} {spare : Nat → Bool} {held : Bool} {fuel : Nat} {t e : TypeId} {k : IntKind}
def numOf' : Value → Int | .int _ z => z | _ => 0
theorem cells_ints {n : Nat} {cs : List Value} (hl : cs.length = n) (each : ∀ i, i < n → ∃ z, cs[i]? = some (.int k z) ∧ (Lit.int k z).wf = true) :
    ∃ zs : List Int, zs.length = n ∧ cs = zs.map (Value.int k) ∧ ∀ z ∈ zs, (Lit.int k z).wf = true := by
  refine ⟨cs.map numOf', by simp [hl], ?_, ?_⟩
  · refine List.ext_getElem? fun i => ?_
    by_cases hi : i < n
    · obtain ⟨z, hz, _⟩ := each i hi
      simp [hz, numOf']
    · rw [List.getElem?_eq_none (by omega), List.getElem?_eq_none (by simp; omega)]
  · intro z hz
    rw [List.mem_map] at hz
    obtain ⟨v, hv, rfl⟩ := hz
    obtain ⟨i, hi⟩ := List.getElem?_of_mem hv
    obtain ⟨z, hz, hwz⟩ := each i (by have := (List.getElem?_eq_some_iff.1 hi).1; omega)
    rw [hi] at hz
    cases hz
    exact hwz
theorem arr_ints {n : Nat} {cs : List Value} {x : DataW H × List MemPlace} (ht : P.underlying t = some (.array n e)) (he : P.underlying e = some (.int k)) (hce : P.cellsOf e = 1) (hct : P.cellsOf t = n)
    (h : DataW.trod enc P w base spare held fuel t cs = some x) : ∃ zs : List Int, zs.length = n ∧ cs = zs.map (Value.int k) ∧ ∀ z ∈ zs, (Lit.int k z).wf = true := by
  obtain ⟨xs, m, _, _, hlen, hxs, hel⟩ := DataW.trod_array ht h
  rw [hct] at hlen
  refine cells_ints hlen fun i hi => ?_
  have h1 := hel i hi
  rw [hce, Nat.mul_one, List.getElem?_eq_getElem (by omega)] at h1
  rw [List.drop_eq_getElem_cons (by omega), List.take_succ_cons, List.take_zero] at h1
  obtain ⟨z, hz, _, hwz⟩ := DataW.trod_int he h1
  refine ⟨z, ?_, hwz⟩
  rw [List.getElem?_eq_getElem (by omega)]
  simpa using hz
end
section
variable {H : Type} {enc : TypeId × Value → H} {P : Program} {w : World} {base : Nat} {held : Bool} {t e : TypeId} {k : IntKind}
end
section
variable {H : Type} {enc : TypeId × Value → H} {P : Program} {w : World} {base : Nat} {held : Bool} {t e f : TypeId} {k : IntKind}
theorem add_two (a : Addr) (m n : Nat) : (a.add m).add n = a.add (m + n) := by
  unfold Addr.add
  by_cases h : m = 0
  · subst h; simp
  · by_cases h' : n = 0
    · subst h'; simp [h]
    · simp [h, h']; omega
end
theorem len4 {α : Type} {l : List α} (h : l.length = 4) : ∃ a b c d, l = [a, b, c, d] := by
  match l, h with
  | [a, b, c, d], _ => exact ⟨a, b, c, d, rfl⟩
end Go.Proofs.YtdejablhpljdfaaGreat
set_option linter.unusedVariables false
namespace Go.Proofs.YtdejablhpljdfaaGreat
open Go.ChangeShapes Go.WideShapes Go.ChangeAt Go.RowKit
section
variable {H : Type} {enc : TypeId × Value → H} {P : Program} {w : World} {base : Nat} {held : Bool} {t e f : TypeId} {k : IntKind}
theorem pts_cells {c fuel : Nat} {cs : List Value} {x : DataW H × List MemPlace} (ht : P.underlying t = some (.slice e)) (he : P.underlying e = some (.array c f)) (hf : P.underlying f = some (.int k)) (hcf : P.cellsOf f = 1) (hce : P.cellsOf e = c) (hc0 : 0 < c)
    (hfu : DataW.trod enc P w base (fun _ => true) held fuel t cs = some x) :
    ∃ (A : Option Addr) (cap n : Nat) (xs : List Int), cs = [.slice A n cap] ∧ xs.length = c * n ∧ n ≤ maxLen ∧ (c * n ≤ 9223372036854775807 → Rd k w A xs) ∧ (∀ z ∈ xs, (Lit.int k z).wf = true) := by
  rcases Go.Deep.open_slice ht hfu with ⟨hcs, hx⟩ | ⟨a, len, cap, m, n, D, Pl, hcs, _, hl, hm, hmm, hx, hel⟩
  · exact ⟨none, 0, 0, [], hcs, by simp, Nat.zero_le _, fun _ => Rd.nil _ _ _, by simp⟩
  · simp only [if_true] at hmm
    have each : ∀ i, ∃ zs : List Int, i < len → zs.length = c ∧ (∀ q, q < c → w.cell? (a.add (i * c + q)) = some (.int k (nth zs q))) ∧ ∀ z ∈ zs, (Lit.int k z).wf = true := by
      intro i
      by_cases hi : i < len
      · obtain ⟨cs', h1, h2⟩ := hel i (by omega)
        rw [hce] at h1
        obtain ⟨_, hlen, hc⟩ := World.cells?_some h1
        obtain ⟨zs, z1, rfl, z3⟩ := arr_ints he hf hcf hce h2
        refine ⟨zs, fun _ => ⟨z1, fun q hq => ?_, z3⟩⟩
        rw [← add_two, hc q hq, List.getElem?_map, List.getElem?_eq_getElem (by omega), Option.map_some, nth_lt (by omega)]
      · exact ⟨[], fun h => absurd h hi⟩
    obtain ⟨F, hF⟩ := Classical.axiomOfChoice each
    have pd : ∀ p, p < c * len → p / c < len ∧ p % c < c ∧ p / c * c + p % c = p := fun p hp => ⟨Nat.div_lt_of_lt_mul hp, Nat.mod_lt _ hc0, Nat.div_add_mod' p c⟩
    refine ⟨some a, cap, len, mk (c * len) fun p => nth (F (p / c)) (p % c), hcs, mk_length _ _, by omega, fun hb => ⟨by rw [mk_length]; exact hb, fun _ => ⟨a, rfl, fun p hp => ?_⟩⟩, fun z hz => ?_⟩
    · rw [mk_length] at hp
      obtain ⟨p1, p2, p3⟩ := pd p hp
      have := (hF _ p1).2.1 _ p2
      rw [nth_mk hp]
      rwa [p3] at this
    · unfold mk at hz
      rw [List.mem_map] at hz
      obtain ⟨p, hp, rfl⟩ := hz
      obtain ⟨p1, p2, p3⟩ := pd p (List.mem_range.1 hp)
      obtain ⟨f1, _, f3⟩ := hF _ p1
      refine f3 _ ?_
      rw [nth_lt (by omega)]
      exact List.getElem_mem _
end
theorem u64_wf {xs : List Int} (h : ∀ z ∈ xs, (Lit.int .u64 z).wf = true) : U64 xs := by
  intro j
  unfold nth
  rw [List.getD_eq_getElem?_getD]
  by_cases hj : j < xs.length
  · rw [List.getElem?_eq_getElem hj]
    have := bounds_u64 (h _ (List.getElem_mem hj))
    exact this
  · rw [List.getElem?_eq_none (by omega)]; exact ⟨Int.le_refl 0, by decide⟩
end Go.Proofs.YtdejablhpljdfaaGreat
