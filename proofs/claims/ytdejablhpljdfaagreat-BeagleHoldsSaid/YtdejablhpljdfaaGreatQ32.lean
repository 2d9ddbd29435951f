/-
  Texts of one claim, joined: TStream8, TRaise, THoldP.
-/
import Derived.Test.YtdejablhpljdfaaGreatQ31
namespace Go.Proofs.YtdejablhpljdfaaGreat
open Go.RowKit BG
attribute [local go_sem ↓] Go.wp_at_zero Go.wp_at_succ run_max_at run_min_at
set_option linter.unusedVariables false
theorem updF_step {α : Type} (g f : Nat → α) (j : Nat) {a : α} (h : g j = a) : (fun i => if i < j + 1 then g i else f i) = updF (fun i => if i < j then g i else f i) j a := by
  funext i
  unfold updF
  by_cases h1 : i = j
  · subst h1; rw [if_pos rfl, if_pos (by omega)]; exact h
  · rw [if_neg h1]
    by_cases h2 : i < j
    · rw [if_pos (show i < j + 1 by omega)]; exact (if_pos h2).symm
    · rw [if_neg (show ¬ i < j + 1 by omega)]; exact (if_neg h2).symm
theorem notX {base : Nat} {c : StrC} (hok : StrOK base c) {Bf : Nat} (hB : c.lo c.q ≤ Bf ∧ Bf < c.M) : ¬ StrX c Bf := by
  have hl := lo_mono hok c.q 0 (by omega)
  rw [Nat.zero_add] at hl
  have hS := hok.hS
  have hF := hok.hF
  rintro (h | h | ⟨k, hk, h⟩ | h)
  · omega
  · omega
  · have h7 := (hok.step k hk).2.2.2.2.2.2
    have h9 := lo_mono hok (c.q - (k + 1)) (k + 1) (by omega)
    rw [show k + 1 + (c.q - (k + 1)) = c.q by omega] at h9
    omega
  · omega
theorem StrS.same {c : StrC} {v : StrV} {z' : Nat → Int} {f' : Nat → List Int} {w : World} (h : StrS c v w) (hz : ∀ k, k < c.q → v.z k = z' k) (hf : ∀ k, k < c.q → v.f k = f' k) : StrS c ⟨v.seen, v.rounds, v.held, v.en, z', f', v.vs⟩ w :=
  ⟨h.s, h.fo, h.fix, fun k hk => by have := h.n k hk; rw [hz k hk] at this; exact this, fun k hk => by have := h.own k hk; rw [hf k hk] at this; exact this, h.apart, h.fns, h.qs⟩
theorem StrS.move {base : Nat} {c : StrC} {v : StrV} {w w' : World} {Bf : Nat} (hok : StrOK base c) (h : StrS c v w) (hB : c.lo c.q ≤ Bf ∧ Bf < c.M) (hBs : ∀ ad, c.sA = some ad → ad.block ≠ Bf) (hc : Chg (fun g => g = c.S ∨ g = Bf) w w') (seen rounds : Nat) (held : ByteArray) (en : Int)
    (hs : w'.heap[c.S]? = some (strO seen rounds (.slice c.qA c.l.length c.qc) c.F c.Z c.limit c.longest held en (.slice c.sA c.q c.sc) (.slice (some ⟨c.Fo, 0, none⟩) c.q c.q))) : StrS c ⟨seen, rounds, held, en, v.z, v.f, v.vs⟩ w' := by
  have hl := lo_mono hok c.q 0 (by omega)
  rw [Nat.zero_add] at hl
  have hS := hok.hS
  have hF := hok.hF
  have hin : ∀ k, k < c.q → ∀ g, c.lo k ≤ g → g ≤ (c.r k).bn → ¬ (g = c.S ∨ g = Bf) := fun k hk g h1 h2 h3 => by
    have h7 := (hok.step k hk).2.2.2.2.2.2
    have h8 := lo_at hok (show k < k + 1 by omega) (show k + 1 ≤ c.q by omega)
    have h9 := lo_mono hok (c.q - (k + 1)) (k + 1) (by omega)
    rw [show k + 1 + (c.q - (k + 1)) = c.q by omega] at h9
    have := lo_lt hok hk
    omega
  refine ⟨hs, hc.blk h.fo (by omega), fun k hk => ?_, fun k hk => ?_, fun k hk => ?_, h.apart, fun k hk => ?_, fun j x hx => ?_⟩
  · obtain ⟨a1, a2, a3, a4, a5, a6, a7⟩ := hok.step k hk
    exact srfix_chg (h.fix k hk) hc (hin k hk _ a1 (by omega)) (hin k hk _ a2 (by omega)) (hin k hk _ a3 (by omega)) fun ad e => by
      have := hok.row k hk ad e
      exact hin k hk _ this.1 (by omega)
  · obtain ⟨a1, a2, a3, a4, a5, a6, a7⟩ := hok.step k hk
    exact hc.blk (h.n k hk) (hin k hk _ (by omega) (Nat.le_refl _))
  · refine row_chg (h.own k hk) hc fun g hg hx => ?_
    have := (World.ownsRow.lt (h.own k hk) g hg).1
    have := bn_lt hok hk
    omega
  · obtain ⟨ad, e, hcl⟩ := h.fns k hk
    refine ⟨ad, e, hc.cell hcl ?_⟩
    rw [ad_block]
    obtain ⟨b1, b2, b3, b4, b5⟩ := hok.hs ad e
    rintro (h1 | h1)
    · exact b3 h1
    · exact hBs ad e h1
  · obtain ⟨ad, e, hat⟩ := h.qs j x hx
    refine ⟨ad, e, hat.chg hc ?_⟩
    rw [ad_block]
    obtain ⟨b1, b2, b3, b4⟩ := hok.hq ad e
    rintro (h1 | h1)
    · exact b3 h1
    · omega
def StepPost (c : StrC) (v : StrV) (t : ByteArray) (ys : List Int) (a b : Nat) (en : Int) (Bf : Nat) (Y : Nat → Prop) (w : World) (e : Ending) (w' : World) : Prop :=
  ∃ tx ys' a' en' vs, e = .returned (.bool (decide (en' = 0))) ∧ FStep t ys a b en tx ys' a' en' ∧ StrS c (stepV c v tx en' vs) w' ∧ FeedS t ys' a' b en Bf Y w' ∧ Chg (fun g => StrX c g ∨ g = Bf) w w'
def RoundFrame (S Bf : Nat) (en : Int) (a : Act) : Prop := ∃ u : Nat → Value, u 0 = .pointer (some ⟨S, 0, none⟩) ∧ u 1 = .pointer (some ⟨Bf, 0, none⟩) ∧ u 6 = .int .i64 en ∧ a = ⟨((List.range 127).map u).toArray, []⟩
theorem frame_of {S Bf : Nat} {en : Int} (a : Act) (hd : a.defers = []) (hs : a.tmps.size = 127) (h0 : a.tmps.getD 0 undef = .pointer (some ⟨S, 0, none⟩)) (h1 : a.tmps.getD 1 undef = .pointer (some ⟨Bf, 0, none⟩)) (h6 : a.tmps.getD 6 undef = .int .i64 en) : RoundFrame S Bf en a := by
  refine ⟨fun i => a.tmps.getD i undef, h0, h1, h6, ?_⟩
  obtain ⟨tm, d⟩ := a
  dsimp only at hd hs
  subst hd
  congr 1
  apply Array.ext
  · simp [hs]
  · intro i h1 h2
    simp [h1]
theorem frame_lit {S Bf : Nat} {en : Int} {u : Nat → Value} (h0 : u 0 = .pointer (some ⟨S, 0, none⟩)) (h1 : u 1 = .pointer (some ⟨Bf, 0, none⟩)) (h6 : u 6 = .int .i64 en) : ((List.range 127).map u).toArray = #[.pointer (some ⟨S, 0, none⟩), .pointer (some ⟨Bf, 0, none⟩), u 2, u 3, u 4, u 5, .int .i64 en, u 7, u 8, u 9, u 10, u 11, u 12, u 13, u 14, u 15, u 16, u 17, u 18, u 19, u 20, u 21, u 22, u 23, u 24, u 25, u 26, u 27, u 28, u 29, u 30, u 31, u 32, u 33, u 34, u 35, u 36, u 37, u 38, u 39, u 40, u 41, u 42, u 43, u 44, u 45, u 46, u 47, u 48, u 49, u 50, u 51, u 52, u 53, u 54, u 55, u 56, u 57, u 58, u 59, u 60, u 61, u 62, u 63, u 64, u 65, u 66, u 67, u 68, u 69, u 70, u 71, u 72, u 73, u 74, u 75, u 76, u 77, u 78, u 79, u 80, u 81, u 82, u 83, u 84, u 85, u 86, u 87, u 88, u 89, u 90, u 91, u 92, u 93, u 94, u 95, u 96, u 97, u 98, u 99, u 100, u 101, u 102, u 103, u 104, u 105, u 106, u 107, u 108, u 109, u 110, u 111, u 112, u 113, u 114, u 115, u 116, u 117, u 118, u 119, u 120, u 121, u 122, u 123, u 124, u 125, u 126] := by
  show #[u 0, u 1, u 2, u 3, u 4, u 5, u 6, u 7, u 8, u 9, u 10, u 11, u 12, u 13, u 14, u 15, u 16, u 17, u 18, u 19, u 20, u 21, u 22, u 23, u 24, u 25, u 26, u 27, u 28, u 29, u 30, u 31, u 32, u 33, u 34, u 35, u 36, u 37, u 38, u 39, u 40, u 41, u 42, u 43, u 44, u 45, u 46, u 47, u 48, u 49, u 50, u 51, u 52, u 53, u 54, u 55, u 56, u 57, u 58, u 59, u 60, u 61, u 62, u 63, u 64, u 65, u 66, u 67, u 68, u 69, u 70, u 71, u 72, u 73, u 74, u 75, u 76, u 77, u 78, u 79, u 80, u 81, u 82, u 83, u 84, u 85, u 86, u 87, u 88, u 89, u 90, u 91, u 92, u 93, u 94, u 95, u 96, u 97, u 98, u 99, u 100, u 101, u 102, u 103, u 104, u 105, u 106, u 107, u 108, u 109, u 110, u 111, u 112, u 113, u 114, u 115, u 116, u 117, u 118, u 119, u 120, u 121, u 122, u 123, u 124, u 125, u 126] = _
  rw [h0, h1, h6]
def RoundJ (c : StrC) (v : StrV) (t : ByteArray) (ys : List Int) (a b : Nat) (en : Int) (Bf : Nat) (Y : Nat → Prop) (w : World) (a' : Act) (w' : World) : Prop :=
  ∃ tx ys' a1 en', RoundFrame c.S Bf en' a' ∧ FStep t ys a b en tx ys' a1 en' ∧ goesR c (v.held ++ tx) en' = true ∧
    w'.heap[c.S]? = some (strO ((v.seen + tx.size : Nat) : Int) v.rounds (.slice c.qA c.l.length c.qc) c.F c.Z c.limit c.longest (v.held ++ tx) en' (.slice c.sA c.q c.sc) (.slice (some ⟨c.Fo, 0, none⟩) c.q c.q)) ∧
    Chg (fun g => g = c.S ∨ g = Bf) w w' ∧ FeedS t ys' a1 b en Bf Y w'
theorem StepPost.no {c : StrC} {v : StrV} {t : ByteArray} {ys : List Int} {a b : Nat} {en : Int} {Bf : Nat} {Y : Nat → Prop} {w w' : World} {tx : ByteArray} {ys' : List Int} {a' : Nat} {en' : Int} (hg : goesR c (v.held ++ tx) en' = false) (hF : FStep t ys a b en tx ys' a' en')
    (hs : StrS c ⟨v.seen + tx.size, v.rounds, v.held ++ tx, en', v.z, v.f, v.vs⟩ w') (hf : FeedS t ys' a' b en Bf Y w') (hc : Chg (fun g => StrX c g ∨ g = Bf) w w') : StepPost c v t ys a b en Bf Y w (.returned (.bool (decide (en' = 0)))) w' :=
  ⟨tx, ys', a', en', v.vs, rfl, hF, by unfold stepV; rw [if_neg (by rw [hg]; decide)]; exact hs, hf, hc⟩
theorem StepPost.yes {c : StrC} {v : StrV} {t : ByteArray} {ys : List Int} {a b : Nat} {en : Int} {Bf : Nat} {Y : Nat → Prop} {w w' : World} {tx : ByteArray} {ys' : List Int} {a' : Nat} {en' : Int} {vs : Nat → Value} (hg : goesR c (v.held ++ tx) en' = true) (hF : FStep t ys a b en tx ys' a' en')
    (hs : StrS c ⟨v.seen + tx.size, v.rounds + 1, (v.held ++ tx).extract ((v.held ++ tx).size + 1 - c.longest) (v.held ++ tx).size, en', fun k => srZ (c.x k) (v.held ++ tx) (v.seen + tx.size - (v.held ++ tx).size) (v.z k), fun k => srF (c.x k) (v.held ++ tx) (v.seen + tx.size - (v.held ++ tx).size) (v.z k) (v.f k), vs⟩ w') (hf : FeedS t ys' a' b en Bf Y w') (hc : Chg (fun g => StrX c g ∨ g = Bf) w w') : StepPost c v t ys a b en Bf Y w (.returned (.bool (decide (en' = 0)))) w' :=
  ⟨tx, ys', a', en', vs, rfl, hF, by unfold stepV; rw [if_pos hg]; exact hs, hf, hc⟩
set_option maxRecDepth 100000 in
set_option maxHeartbeats 8000000 in
theorem sstep_go (base : Nat) (c : StrC) (v : StrV) (t : ByteArray) (ys : List Int) (a b : Nat) (en : Int) (Bf : Nat) (Y : Nat → Prop) (hok : StrOK base c) (h1 : 1 ≤ c.longest) (hi : StrI c v) (hen : v.en = 0) (hsa : v.seen = a) (hrd : v.rounds ≤ 1000000) (hq64 : c.q ≤ 64)
    (hB : c.lo c.q ≤ Bf ∧ Bf < c.M) (hBs : ∀ ad, c.sA = some ad → ad.block ≠ Bf) (hYB : ¬ Y Bf) (hYX : ∀ g, Y g → ¬ StrX c g) (hab : a ≤ b) (hb : b ≤ t.size) (ht : t.size ≤ 100000) (w : World) (hM : c.M ≤ w.heap.size) (hs : StrS c v w) (hf : FeedS t ys a b en Bf Y w) :
    Calls Tryz.prog 19 #[.pointer (some ⟨c.S, 0, none⟩), .pointer (some ⟨Bf, 0, none⟩)] w (StepPost c v t ys a b en Bf Y w) := by
  have RD := fun w1 h => feedread_c t ys a b en Bf Y hYB hab hb (by omega) w1 h
  generalize hP : StepPost c v t ys a b en Bf Y w = PP
  have HP := Lib.hid hP
  clear hP
  have hSB : c.S ≠ Bf := by have := hok.hS; have := lo_mono hok c.q 0 (by omega); rw [Nat.zero_add] at this; omega
  obtain ⟨seen, rounds, held, en0, z, f, vs⟩ := v
  dsimp only at hen hsa
  subst hen
  have q8 := blk_cell hs.s 8
  go_enter Tryz.func19, Tryz.ntmps19
  go_wp2_with fail
  refine wp_scope_jumps 0 (RoundJ c ⟨seen, rounds, held, 0, z, f, vs⟩ t ys a b en Bf Y w) (fun _ _ => 0) rfl ?first ?pass
  case first =>
   go_wp2_with fail
   refine (RD _ hf).mono ?_
   rintro e w1 ⟨tx, ys', a', en', rfl, hf1, hg1, HST⟩
   obtain ⟨hst1, hst2, hst3⟩ := fstep_size HST.out hab hb
   have hhs : held.size ≤ seen := hi.h
   have hsb1 : seen ≤ 100000 := by omega
   have hsb2 : tx.size ≤ 100000 := by omega
   have HSZ := Lib.hid (⟨hst3, hsa, hst1, hst2⟩ : _ ∧ _ ∧ _ ∧ _)
   have hsb3 : held.size ≤ 100000 := by omega
   clear hst3 hsa hst1 hst2
   have hS1 := grown_blk hg1 hs.s (fun e => hSB (Option.some.inj e))
   clear RD q8
   have q7 := blk_cell hS1 7
   have f7 := blk_frozen hS1 7
   have b2 := blk_set hS1 7 (.string (held ++ tx))
   have q0 := blk_cell b2 0
   have f0 := blk_frozen b2 0
   have b3 := blk_set b2 0 (.int .i64 ((seen : Int) + (tx.size : Nat)))
   have f8 := blk_frozen b3 8
   have q8 := blk_cell b3 8
   have b4 := blk_set b3 8 (.int .i64 en')
   have HB := Lib.hid (⟨b2, b3, b4⟩ : _ ∧ _ ∧ _)
   clear b2 b3 b4 hS1
   go_wp2_with fail
   obtain ⟨-, -, b4⟩ := HB.out
   have cg4 : Chg (fun g => StrX c g ∨ g = Bf) w (((w1.setCell ⟨c.S, 7, none⟩ (.string (held ++ tx))).setCell ⟨c.S, 0, none⟩ (.int .i64 ((seen : Int) + (tx.size : Nat)))).setCell ⟨c.S, 8, none⟩ (.int .i64 en')) :=
     (((Chg.of_grown hg1 fun g e => .inr (Option.some.inj e).symm).set (p := ⟨c.S, 7, none⟩) (.inl (.inl rfl)) _).set (p := ⟨c.S, 0, none⟩) (.inl (.inl rfl)) _).set (p := ⟨c.S, 8, none⟩) (.inl (.inl rfl)) _
   have hf4 : FeedS t ys' a' b en Bf Y (((w1.setCell ⟨c.S, 7, none⟩ (.string (held ++ tx))).setCell ⟨c.S, 0, none⟩ (.int .i64 ((seen : Int) + (tx.size : Nat)))).setCell ⟨c.S, 8, none⟩ (.int .i64 en')) :=
     hf1.chg (X := fun g => g = c.S) ((((Chg.refl (fun g => g = c.S) w1).set (p := ⟨c.S, 7, none⟩) rfl _).set (p := ⟨c.S, 0, none⟩) rfl _).set (p := ⟨c.S, 8, none⟩) rfl _) (Ne.symm hSB) (fun g hg h => hYX g hg (.inl h))
   have hgc : Chg (fun g => g = c.S ∨ g = Bf) w (((w1.setCell ⟨c.S, 7, none⟩ (.string (held ++ tx))).setCell ⟨c.S, 0, none⟩ (.int .i64 ((seen : Int) + (tx.size : Nat)))).setCell ⟨c.S, 8, none⟩ (.int .i64 en')) :=
     (((Chg.of_grown hg1 fun g e => .inr (Option.some.inj e).symm).set (p := ⟨c.S, 7, none⟩) (.inl rfl) _).set (p := ⟨c.S, 0, none⟩) (.inl rfl) _).set (p := ⟨c.S, 8, none⟩) (.inl rfl) _
   clear HB f7 q7 q0 f0 f8 q8 hg1 hf1
   generalize ((w1.setCell ⟨c.S, 7, none⟩ (.string (held ++ tx))).setCell ⟨c.S, 0, none⟩ (.int .i64 ((seen : Int) + (tx.size : Nat)))).setCell ⟨c.S, 8, none⟩ (.int .i64 en') = w4 at *
   have hsz : (held ++ tx).size = held.size + tx.size := ByteArray.size_append
   have HSA := Lib.hid hsz
   clear hsz
   have hHb : (held ++ tx).size ≤ 200000 := by rw [HSA.out]; omega
   have hHs : (held ++ tx).size ≤ seen + tx.size := by rw [HSA.out]; omega
   have hgo : goesR c (held ++ tx) en' = ((decide (en' = 0) && decide (c.limit ≤ (held ++ tx).size)) || (!decide (en' = 0) && decide ((held ++ tx).size ≠ 0))) := rfl
   have HGO := Lib.hid hgo
   clear hgo
   generalize hHe : held ++ tx = H at *
   have HHE := Lib.hid hHe
   clear hHe
   have hrd : rounds ≤ 1000000 := hrd
   have b5 : w4.heap[c.S]? = some (strO ((seen + tx.size : Nat) : Int) rounds (.slice c.qA c.l.length c.qc) c.F c.Z c.limit c.longest H en' (.slice c.sA c.q c.sc) (.slice (some ⟨c.Fo, 0, none⟩) c.q c.q)) := by rw [b4]; simp
   have q7 := blk_cell b4 7
   have q5 := blk_cell b4 5
   have HREG : ∀ r : Bool, goesR c H en' = r → True := fun _ _ => trivial
   clear HREG
   by_cases he : en' = 0
   · subst he
     by_cases hl : c.limit ≤ H.size
     · have d1 : decide (c.limit ≤ H.size) = true := decide_eq_true hl
       have hg : goesR c H 0 = true := by rw [HGO.out, d1]; simp
       have HG := Lib.hid hg
       clear hg HGO hl
       go_quiet (fail)
       clear q7 q5
       have kd := kept_drewN (kept_refl w4) nq
       have hfin : RoundJ c ⟨seen, rounds, held, 0, z, f, vs⟩ t ys a b en Bf Y w = RoundJ c ⟨seen, rounds, held, 0, z, f, vs⟩ t ys a b en Bf Y w := rfl
       clear hfin
       have HJ := Lib.hid (⟨by show goesR c (held ++ tx) 0 = true; rw [HHE.out]; exact HG.out, by have := blk_kept kd b5; rw [← HHE.out] at this; exact this, hgc.trans (Chg.of_kept kd), hf4.kept kd⟩ : goesR c (held ++ tx) 0 = true ∧ (w4.drewN nq).heap[c.S]? = some (strO ((seen + tx.size : Nat) : Int) rounds (.slice c.qA c.l.length c.qc) c.F c.Z c.limit c.longest (held ++ tx) 0 (.slice c.sA c.q c.sc) (.slice (some ⟨c.Fo, 0, none⟩) c.q c.q)) ∧ Chg (fun g => g = c.S ∨ g = Bf) w (w4.drewN nq) ∧ FeedS t ys' a' b en Bf Y (w4.drewN nq))
       go_wp2_with fail
       go_step3
       exact ⟨rfl, tx, ys', a', 0, frame_of _ rfl rfl rfl rfl rfl, HST.out, HJ.out.1, HJ.out.2.1, HJ.out.2.2.1, HJ.out.2.2.2⟩
     · have d1 : decide (c.limit ≤ H.size) = false := decide_eq_false hl
       have hg : goesR c H 0 = false := by rw [HGO.out, d1]; simp
       have HG := Lib.hid hg
       clear hg HGO hl
       go_quiet (fail)
       clear q7 q5
       go_wp2_with fail
       have kd := kept_drewN (kept_refl w4) nq
       rw [← HP.out]
       refine StepPost.no (tx := tx) (ys' := ys') (a' := a') (en' := 0) (by show goesR c (held ++ tx) 0 = false; rw [HHE.out]; exact HG.out) HST.out ?_ (hf4.kept kd) (cg4.trans (Chg.of_kept kd))
       have := StrS.move hok hs hB hBs (hgc.trans (Chg.of_kept kd)) (seen + tx.size) rounds H 0 (blk_kept kd b5)
       show StrS c ⟨seen + tx.size, rounds, held ++ tx, 0, z, f, vs⟩ _
       rw [HHE.out]
       exact this
   · have n1 : (en' == 0) = false := beq_eq_false_iff_ne.2 he
     have n2 : (en' != 0) = true := bne_iff_ne.2 he
     have HE := Lib.hid he
     clear he
     by_cases hl : H.size = 0
     · have hg : goesR c H en' = false := by rw [HGO.out, hl, decide_eq_false HE.out]; simp
       have HG := Lib.hid hg
       have hH := size_zero hl
       have HHH := Lib.hid hH
       clear hg HGO hl
       have m2 : H.toList = [] := by rw [hH, ByteArray.toList_eq]
       have m1 : H.toList.isEmpty = true := by rw [m2]; rfl
       clear hH
       go_quiet (fail)
       clear q7 q5
       go_wp2_with fail
       have kd := kept_drewN (kept_refl w4) nq
       rw [← HP.out]
       have hfin := StepPost.no (c := c) (v := ⟨seen, rounds, held, 0, z, f, vs⟩) (t := t) (ys := ys) (a := a) (b := b) (en := en) (Bf := Bf) (Y := Y) (w := w) (tx := tx) (ys' := ys') (a' := a') (en' := en') (by show goesR c (held ++ tx) en' = false; rw [HHE.out]; exact HG.out) HST.out (by
         have := StrS.move hok hs hB hBs (hgc.trans (Chg.of_kept kd)) (seen + tx.size) rounds H en' (blk_kept kd b5)
         show StrS c ⟨seen + tx.size, rounds, held ++ tx, en', z, f, vs⟩ _
         rw [HHE.out]
         exact this) (hf4.kept kd) (cg4.trans (Chg.of_kept kd))
       rw [decide_eq_false HE.out] at hfin
       first | exact hfin | (rw [n1]; exact hfin) | (simpa [n1] using hfin)
     · have hg : goesR c H en' = true := by rw [HGO.out, decide_eq_true hl, decide_eq_false HE.out]; simp
       have HG := Lib.hid hg
       have m1 := isEmpty_no hl
       have m2 : H.toList ≠ [] := by intro h; rw [h] at m1; cases m1
       clear hg HGO
       go_quiet (fail)
       clear q7 q5
       have kd := kept_drewN (kept_refl w4) nq
       have hfin : RoundJ c ⟨seen, rounds, held, 0, z, f, vs⟩ t ys a b en Bf Y w = RoundJ c ⟨seen, rounds, held, 0, z, f, vs⟩ t ys a b en Bf Y w := rfl
       clear hfin
       have HJ := Lib.hid (⟨by show goesR c (held ++ tx) en' = true; rw [HHE.out]; exact HG.out, by have := blk_kept kd b5; rw [← HHE.out] at this; exact this, hgc.trans (Chg.of_kept kd), hf4.kept kd⟩ : goesR c (held ++ tx) en' = true ∧ (w4.drewN nq).heap[c.S]? = some (strO ((seen + tx.size : Nat) : Int) rounds (.slice c.qA c.l.length c.qc) c.F c.Z c.limit c.longest (held ++ tx) en' (.slice c.sA c.q c.sc) (.slice (some ⟨c.Fo, 0, none⟩) c.q c.q)) ∧ Chg (fun g => g = c.S ∨ g = Bf) w (w4.drewN nq) ∧ FeedS t ys' a' b en Bf Y (w4.drewN nq))
       go_wp2_with fail
       go_step3
       exact ⟨rfl, tx, ys', a', en', frame_of _ rfl rfl rfl rfl rfl, HST.out, HJ.out.1, HJ.out.2.1, HJ.out.2.2.1, HJ.out.2.2.2⟩
  case pass =>
   clear RD hf q8
   intro a' w6 hJ
   obtain ⟨tx, ys', a1, en', hfr, HST, hg, b6, g6, hf6⟩ := hJ
   have HG := Lib.hid (⟨hg, HST⟩ : _ ∧ _)
   obtain ⟨hst1, hst2, hst3⟩ := fstep_size HST hab hb
   have hhs : held.size ≤ seen := hi.h
   have hsb1 : seen ≤ 100000 := by omega
   have hsb2 : tx.size ≤ 100000 := by omega
   have hsb3 : held.size ≤ 100000 := by omega
   have hsz : (held ++ tx).size = held.size + tx.size := ByteArray.size_append
   have hHb : (held ++ tx).size ≤ seen + tx.size := by omega
   have hNb : seen + tx.size ≤ 100000 := by omega
   have HSZ := Lib.hid (⟨hst3, hsa, hst1, hst2, hsz⟩ : _ ∧ _ ∧ _ ∧ _ ∧ _)
   clear hst3 hsa hst1 hst2 hsz hg HST
   have cg6 : Chg (fun g => StrX c g ∨ g = Bf) w w6 := g6.mono fun g h => by
     rcases h with h | h
     · exact .inl (.inl h)
     · exact .inr h
   have hrd : rounds ≤ 1000000 := hrd
   generalize hHe : held ++ tx = H at *
   have HHE := Lib.hid hHe
   clear hHe
   have q1 := blk_cell b6 1
   have f1 := blk_frozen b6 1
   have b7 := blk_set b6 1 (.int .i64 ((rounds : Int) + 1))
   have q9 := blk_cell b7 9
   have HB7 := Lib.hid b7
   clear b7
   obtain ⟨u, v0, v1, v6, rfl⟩ := hfr
   rw [frame_lit v0 v1 v6]
   clear v0 v1 v6
   go_wp2_with fail
   have b7 := HB7.out
   have b8 : (w6.setCell ⟨c.S, 1, none⟩ (.int .i64 ((rounds : Int) + 1))).heap[c.S]? = some (strO ((seen + tx.size : Nat) : Int) ((rounds + 1 : Nat) : Int) (.slice c.qA c.l.length c.qc) c.F c.Z c.limit c.longest H en' (.slice c.sA c.q c.sc) (.slice (some ⟨c.Fo, 0, none⟩) c.q c.q)) := by rw [b7]; simp
   have g7 := g6.set (p := ⟨c.S, 1, none⟩) (Or.inl rfl) (.int .i64 ((rounds : Int) + 1))
   have cg7 := cg6.set (p := ⟨c.S, 1, none⟩) (Or.inl (Or.inl rfl)) (.int .i64 ((rounds : Int) + 1))
   have hf7 := hf6.chg (X := fun g => g = c.S) ((Chg.refl (fun g => g = c.S) w6).set (p := ⟨c.S, 1, none⟩) rfl (.int .i64 ((rounds : Int) + 1))) (Ne.symm hSB) (fun g hg h => hYX g hg (.inl h))
   have hs7 := StrS.move hok hs hB hBs g7 (seen + tx.size) (rounds + 1) H en' b8
   have hM7 : c.M ≤ (w6.setCell ⟨c.S, 1, none⟩ (.int .i64 ((rounds : Int) + 1))).heap.size := Nat.le_trans hM g7.size
   clear b6 b7 b8 g6 cg6 hf6 g7 HB7 q1 f1 q9 hs
   generalize w6.setCell ⟨c.S, 1, none⟩ (.int .i64 ((rounds : Int) + 1)) = w7 at *
   dsimp only at hs7
   generalize hNe : seen + tx.size = NN at *
   have HNE := Lib.hid hNe
   clear hNe
   have eB : (NN : Int) - (H.size : Nat) = ((NN - H.size : Nat) : Int) := by omega
   have EB := Lib.hid eB
   clear eB
   have hF5 := hok.five
   go_loopw [8, 83] (fun _ i wr => ∃ (j : Nat) (vs' : Nat → Value), j ≤ c.q ∧ i = .int .i64 j ∧ StrS c ⟨NN, rounds + 1, H, en', fun i => if i < j then srZ (c.x i) H (NN - H.size) (z i) else z i, fun i => if i < j then srF (c.x i) H (NN - H.size) (z i) (f i) else f i, vs'⟩ wr ∧ FeedS t ys' a1 b en Bf Y wr ∧ Chg (StrX c) w7 wr) (fun _ i _ => c.q - (intOf i).toNat)
   case atStart => exact ⟨0, vs, Nat.zero_le _, rfl, by simpa using hs7, hf7, Chg.refl _ _⟩
   case round =>
     obtain ⟨j, vs', hj, rfl, hsw, hfw, cgw⟩ := hrel
     have hMw : c.M ≤ wr.heap.size := Nat.le_trans hM7 cgw.size
     by_cases hlt : j < c.q
     · obtain ⟨ad, hsA, hcl⟩ := hsw.fns j hlt
       have e0 := blk_cell hsw.s 0
       have e7 := blk_cell hsw.s 7
       have hSW := Lib.hid hsw
       clear hsw hs7 hf7
       obtain ⟨p1, p2, p3, p4, p5, p6, p7⟩ := hok.step j hlt
       obtain ⟨l1, l2⟩ := lo_lt hok hlt
       have hSl := hok.hS
       have hFl := hok.hF
       have hbl := bn_lt hok hlt
       obtain ⟨u1, u2, u3⟩ := hok.leaf j hlt
       obtain ⟨i1, i2, i3⟩ := hi.z j hlt
       have i1 : 0 ≤ z j := i1
       have i2 : z j ≤ (seen : Int) := i2
       have i3 : ((f j).length : Int) ≤ z j := i3
       have SR := fun w1 (h : StrS c ⟨NN, rounds + 1, H, en', fun i => if i < j then srZ (c.x i) H (NN - H.size) (z i) else z i, fun i => if i < j then srF (c.x i) H (NN - H.size) (z i) (f i) else f i, vs'⟩ w1) (hM1 : c.M ≤ w1.heap.size) =>
         srch_c c.S c.Fo c.q j c.M (c.x j) (c.r j) c.F hF5 c.Z vs' (f j) (z j) (NN - H.size) H w1 (NN : Nat) ((rounds + 1 : Nat) : Int) c.limit c.longest (.slice c.qA c.l.length c.qc) (.slice c.sA c.q c.sc) H en' (h.fix j hlt) (by have := h.n j hlt; dsimp only at this; rw [if_neg (Nat.lt_irrefl j)] at this; exact this) h.s h.fo (by have := h.own j hlt; dsimp only at this; rw [if_neg (Nat.lt_irrefl j)] at this; exact this) hlt ⟨by omega, by omega, by omega, by omega, by omega⟩ ⟨Ne.symm hFl.2.2, by omega, by omega, by omega⟩ ⟨by omega, by omega, by omega, by omega, by omega, by omega⟩ hM1 u1 u2 u3 (by omega) (by omega) (by omega) (by omega)
       have HSR := Lib.hid SR
       clear SR p1 p2 p3 p4 p5 p6 p7 l1 l2 hSl hFl hbl u1 u2 u3 i1 i2 i3
       go_wp2_with fail
       have ks0 := fun s => kw_cell s e0
       have ks7 := fun s => kw_cell s e7
       refine wp_region_tail 16 (by kernel_rfl) (by kernel_rfl) ?_
       simp only [List.take_succ_cons, List.take_zero, List.drop_succ_cons, List.drop_zero]
       repeat (first | go_big_quiet_skip | (go_big_quiet_want; go_big_quiet_op; go_big_quiet_on))
       refine wpQuiet_nil ?_
       rintro w9 ⟨⟨_, hk9⟩, rfl⟩
       clear ks0 ks7
       have hgw : FeedS t ys' a1 b en Bf Y w9 := hfw.kept hk9
       have hsw9 : StrS c ⟨NN, rounds + 1, H, en', fun i => if i < j then srZ (c.x i) H (NN - H.size) (z i) else z i, fun i => if i < j then srF (c.x i) H (NN - H.size) (z i) (f i) else f i, vs'⟩ w9 :=
         StrS.move hok hSW.out hB hBs (Chg.of_kept hk9) NN (rounds + 1) H en' (blk_kept hk9 hSW.out.s)
       have hM9 : c.M ≤ w9.heap.size := Nat.le_trans hMw hk9.size
       have HS9 := Lib.hid (⟨hsw9, hgw, cgw.trans (Chg.of_kept hk9)⟩ : _ ∧ _ ∧ _)
       have SR := HSR.out w9 hsw9 hM9
       clear hsw9 hgw cgw hfw hSW HSR hk9 e0 e7 hcl
       go_wp2_with fail
       rw [EB.out]
       refine SR.mono ?_
       intro e w10 hp
       obtain ⟨he, uu, hs10, hc10⟩ := StrS.srch hok HS9.out.1 hlt hM9 hp
       subst he
       clear SR hp
       have hf10 := HS9.out.2.1.chg hc10 (notX hok hB) hYX
       have hcE := HS9.out.2.2.trans hc10
       have HS10 := Lib.hid (⟨hs10, hf10, hcE⟩ : _ ∧ _ ∧ _)
       clear hs10 hf10 hcE hc10 HS9
       have HSA := Lib.hid hsA
       clear hsA
       go_wp2_with fail
       rw [← HSA.out]
       go_roundw
       case rel => exact ⟨j + 1, _, by omega, by go_num, by
         have := HS10.out.1
         rw [show (fun i => if i < j + 1 then srZ (c.x i) H (NN - H.size) (z i) else z i) = updF (fun i => if i < j then srZ (c.x i) H (NN - H.size) (z i) else z i) j (max (z j) (((NN - H.size : Nat) : Int) + H.size - (c.x j).m + 1)) from updF_step _ _ _ rfl, show (fun i => if i < j + 1 then srF (c.x i) H (NN - H.size) (z i) (f i) else f i) = updF (fun i => if i < j then srF (c.x i) H (NN - H.size) (z i) (f i) else f i) j (f j ++ newL (hitsv (countsv (c.x j).xs (c.x j).m (c.x j).K H) (c.x j).K) ((NN - H.size : Nat) : Int) (z j)) from updF_step _ _ _ rfl]
         exact this, HS10.out.2.1, HS10.out.2.2⟩
       case measure => simp [intOf]; omega
     · obtain rfl : j = c.q := by omega
       have e7 := blk_cell hsw.s 7
       have e6 := blk_cell hsw.s 6
       have hSW := Lib.hid hsw
       clear hsw hs7 hf7
       obtain ⟨hlim1, hlim2⟩ := hok.lim
       obtain ⟨kN, hk1, hk2, hk3⟩ : ∃ kN : Nat, max (0 : Int) ((H.size : Int) - (c.longest : Int) + 1) = (kN : Int) ∧ kN = H.size + 1 - c.longest ∧ kN ≤ H.size := ⟨H.size + 1 - c.longest, by omega, rfl, by omega⟩
       have HK := Lib.hid hk2
       clear hk2
       have hk4 : (0 : Int) ≤ (kN : Int) := by omega
       have hk5 : (kN : Int) ≤ (H.size : Int) := by omega
       have hk6 : ¬ ((H.size : Int) < (kN : Int)) := by omega
       have hk7 : ¬ (H.size < kN) := by omega
       have hw1 : IntKind.i64.wrap ((H.size : Int) - (c.longest : Int)) = (H.size : Int) - (c.longest : Int) := IntWalk.i64_in _ (by omega)
       have hw2 : IntKind.i64.wrap ((H.size : Int) - (c.longest : Int) + 1) = (H.size : Int) - (c.longest : Int) + 1 := IntWalk.i64_in _ (by omega)
       go_wp2_with fail
       have kw := kept_refl wr
       refine wp_region_last (S := fun w' => w'.cell? ⟨c.S, 7, none⟩ = some (.string H) ∧ w'.cell? ⟨c.S, 6, none⟩ = some (.int .i64 (c.longest : Nat))) 18 3 20 (by kernel_rfl) (by kernel_rfl) (fun _ _ d _ _ h => by cases d <;> exact h) (by rfl) ⟨kept_cell (kept_drew kw) e7, kept_cell (kept_drew kw) e6⟩ ?_
       simp only [List.take_succ_cons, List.take_zero]
       iterate 18 ((refine heldList_cons ?_ (Or.inl ⟨by rfl, fun w hSw => ?_⟩) ?_; rotate_left; (obtain ⟨s1, s2⟩ := hSw; go_simp); (first | done | with_reducible rfl | skip)); (simp only [Act.put, List.setIfInBounds_toArray, List.set_cons_zero, List.set_cons_succ]))
       clear hw1 hw2
       refine heldList_nil ?_
       have b9 := blk_kept (kept_drew kw) hSW.out.s
       have q7 := blk_cell b9 7
       have f7 := blk_frozen b9 7
       have e7' := kept_cell (kept_drew kw) e7
       have e6' := kept_cell (kept_drew kw) e6
       refine wpAnyL_one (i := 18) (by kernel_rfl) (by rfl) (fun K' hK => ?_)
       go_simp
       refine hK.out _ _ (Or.inr ⟨e7', e6'⟩) ?_
       clear hK K'
       refine wpAnyL_one (i := 19) (by kernel_rfl) (by rfl) (fun K' hK => ?_)
       go_simp
       refine hK.out _ _ (Or.inr ⟨e7', e6'⟩) ?_
       clear hK K'
       refine wpAnyL_one (i := 20) (by kernel_rfl) (by rfl) (fun K' hK => ?_)
       go_simp
       refine hK.out _ _ (Or.inl rfl) ?_
       clear hK K'
       refine wpAnyL_done (by kernel_rfl) ?_ _
       have HB9 := Lib.hid b9
       clear b9 e7 e6 q7 f7 e7' e6'
       go_wp2_with fail
       have hfr : Chg (fun g => g = c.S) wr ((wr.setCell ⟨c.S, 7, none⟩ (.string (H.extract kN H.size))).drew) := ((Chg.refl (fun g => g = c.S) wr).set (p := ⟨c.S, 7, none⟩) rfl _).trans (Chg.of_kept (kept_drew (kept_refl _)))
       have hsE := StrS.move hok hSW.out hB hBs (hfr.mono fun g h => .inl h) NN (rounds + 1) (H.extract kN H.size) en' (by
         have := blk_set hSW.out.s 7 (.string (H.extract kN H.size))
         exact this)
       have hfE := hfw.chg hfr (Ne.symm hSB) (fun g hg h => hYX g hg (.inl h))
       have hcE := (cg7.trans ((cgw.mono fun g h => .inl h) : Chg (fun g => StrX c g ∨ g = Bf) w7 wr)).trans (hfr.mono fun g h => .inl (.inl h))
       have hfin := StepPost.yes (c := c) (v := ⟨seen, rounds, held, 0, z, f, vs⟩) (t := t) (ys := ys) (a := a) (b := b) (en := en) (Bf := Bf) (Y := Y) (w := w) (tx := tx) (ys' := ys') (a' := a1) (en' := en') (vs := vs') (by show goesR c (held ++ tx) en' = true; rw [HHE.out]; exact HG.out.1) HG.out.2 (by
         show StrS c ⟨seen + tx.size, rounds + 1, (held ++ tx).extract ((held ++ tx).size + 1 - c.longest) (held ++ tx).size, en', fun k => srZ (c.x k) (held ++ tx) (seen + tx.size - (held ++ tx).size) (z k), fun k => srF (c.x k) (held ++ tx) (seen + tx.size - (held ++ tx).size) (z k) (f k), vs'⟩ _
         rw [HHE.out, HNE.out, ← HK.out]
         exact hsE.same (fun k hk => by show (if k < c.q then _ else _) = _; rw [if_pos hk]) (fun k hk => by show (if k < c.q then _ else _) = _; rw [if_pos hk])) hfE hcE
       rw [← HP.out]
       have hbe : decide (en' = 0) = (en' == 0) := by rw [Bool.eq_iff_iff]; simp
       rw [hbe] at hfin
       exact hfin
end Go.Proofs.YtdejablhpljdfaaGreat
namespace Go.Proofs.YtdejablhpljdfaaGreat
open Go.RowKit BG
theorem StrOK.raise {base M : Nat} {c : StrC} (h : StrOK base c) (hM : c.M ≤ M) : StrOK base { c with M := M } := by
  obtain ⟨h1, h2, h3, h4, h5, h6, h7, h8, h9, h10, h11⟩ := h
  exact ⟨h1, h2, Nat.le_trans h3 hM, h4, h5, fun ad e => ⟨(h6 ad e).1, Nat.lt_of_lt_of_le (h6 ad e).2.1 hM, (h6 ad e).2.2⟩, h7, h8, h9, h10, h11⟩
theorem StrS.raise {M : Nat} {c : StrC} {v : StrV} {w : World} (h : StrS c v w) (hv : ∀ k, k < c.q → v.vs k = .slice none 0 0 ∧ v.f k = []) : StrS { c with M := M } v w := by
  obtain ⟨h1, h2, h3, h4, h5, h6, h7, h8⟩ := h
  exact ⟨h1, h2, h3, h4, fun k hk => by rw [(hv k hk).1, (hv k hk).2]; exact Own.nil _ _ _ _, h6, h7, h8⟩
theorem StrS.kept {c : StrC} {v : StrV} {w w1 : World} (h : StrS c v w) (hk : Kept w w1) : StrS c v w1 := by
  obtain ⟨h1, h2, h3, h4, h5, h6, h7, h8⟩ := h
  refine ⟨blk_kept hk h1, blk_kept hk h2, fun k hq => ⟨blk_kept hk (h3 k hq).1, blk_kept hk (h3 k hq).2.1, blk_kept hk (h3 k hq).2.2.1, (h3 k hq).2.2.2.kept hk⟩, fun k hq => blk_kept hk (h4 k hq), fun k hq => rowKept (h5 k hq) hk, h6, fun k hq => ?_, fun j x hx => ?_⟩
  · obtain ⟨ad, e, hc⟩ := h7 k hq
    exact ⟨ad, e, kept_cell hk hc⟩
  · obtain ⟨ad, e, hc⟩ := h8 j x hx
    exact ⟨ad, e, hc.kept hk⟩
theorem feedS_new {t : ByteArray} {ys : List Int} {B base c : Nat} {P : Option Addr} {to : Nat} {en : Int} {w : World} (hB : w.heap[B]? = some (feedO t P ys.length c 0 to en)) (ho : Own .i64 3 base w (.slice P ys.length c) ys) : FeedS t ys 0 to en B (fun g => ∃ ad, P = some ad ∧ g = ad.block) w := by
  obtain ⟨A, c', e, h1, h2, hr⟩ := ho.rd
  cases e
  exact ⟨P, c, hB, hr, fun ad e => ⟨ad, e, rfl⟩, h1, h2⟩
end Go.Proofs.YtdejablhpljdfaaGreat
namespace Go.Proofs.YtdejablhpljdfaaGreat
open Go.RowKit BG
set_option linter.unusedVariables false
theorem kept_chg {X : Nat → Prop} {w w1 w2 : World} (h : Kept w w1) (hc : Chg X w1 w2) (hx : ∀ g, X g → w.heap.size ≤ g) : Kept w w2 :=
  ⟨hc.os.trans h.os, hc.tape.trans h.tape, hc.output.trans h.output, Nat.le_trans h.size hc.size, fun g hg => (hc.block g (Nat.lt_of_lt_of_le hg h.size) fun hX => by have := hx g hX; omega).trans (h.block g hg)⟩
theorem StrI.start {c : StrC} {vs : Nat → Value} : StrI c ⟨0, 0, ⟨#[]⟩, 0, fun _ => 0, fun _ => [], vs⟩ := ⟨fun k hk => ⟨by simp, by simp, by simp⟩, Nat.zero_le _⟩
theorem StrI.step {base : Nat} {c : StrC} {v : StrV} {tx : ByteArray} {en : Int} {vs : Nat → Value} (hok : StrOK base c) (h : StrI c v) : StrI c (stepV c v tx en vs) := by
  have hh := h.h
  have hsz : (v.held ++ tx).size = v.held.size + tx.size := ByteArray.size_append
  unfold stepV
  split
  · refine ⟨fun k hk => ?_, ?_⟩
    · obtain ⟨z1, z2, z3⟩ := h.z k hk
      obtain ⟨-, -, hr⟩ := hok.leaf k hk
      obtain ⟨hm, -⟩ := rightv_n hr
      obtain ⟨b1, b2⟩ := sr_bd (held := v.held ++ tx) (bs := v.seen + tx.size - (v.held ++ tx).size) hr z1 z3
      refine ⟨b2, ?_, b1⟩
      show srZ _ _ _ _ ≤ ((v.seen + tx.size : Nat) : Int)
      unfold srZ
      omega
    · show ((v.held ++ tx).extract _ _).size ≤ v.seen + tx.size
      rw [ByteArray.size_extract]
      omega
  · refine ⟨fun k hk => ?_, ?_⟩
    · obtain ⟨z1, z2, z3⟩ := h.z k hk
      refine ⟨z1, ?_, z3⟩
      show v.z k ≤ ((v.seen + tx.size : Nat) : Int)
      omega
    · show (v.held ++ tx).size ≤ v.seen + tx.size
      omega
theorem held_step {c : StrC} {v : StrV} {tx : ByteArray} {en : Int} {vs : Nat → Value} (h1 : 1 ≤ c.longest) (h2 : c.longest ≤ c.limit) : (stepV c v tx en vs).held.size ≤ c.limit + c.longest - 1 := by
  unfold stepV
  split
  · show ((v.held ++ tx).extract _ _).size ≤ _
    rw [ByteArray.size_extract]
    omega
  · rename_i hg
    show (v.held ++ tx).size ≤ _
    unfold goesR at hg
    by_cases he : en = 0
    · simp [he] at hg
      have hsz : (v.held ++ tx).size = v.held.size + tx.size := ByteArray.size_append
      omega
    · simp [he] at hg
      have hsz : (v.held ++ tx).size = v.held.size + tx.size := ByteArray.size_append
      have h0 : (v.held ++ tx).size = 0 := by rw [hg.1, hg.2]; rfl
      omega
theorem step_seen (c : StrC) (v : StrV) (tx : ByteArray) (en : Int) (vs : Nat → Value) : (stepV c v tx en vs).seen = v.seen + tx.size ∧ (stepV c v tx en vs).en = en ∧ (stepV c v tx en vs).rounds ≤ v.rounds + 1 := by
  unfold stepV
  split
  · exact ⟨rfl, rfl, Nat.le_refl _⟩
  · exact ⟨rfl, rfl, Nat.le_succ _⟩
def feedM (o : Option Obj) : Nat := match o with
  | some (.cells cs _ _) => (match cs.getD 1 undef with | .slice _ n _ => n | _ => 0) + (intOf (cs.getD 3 undef) - intOf (cs.getD 2 undef)).toNat
  | _ => 0
theorem feedM_of {t : ByteArray} {ys : List Int} {a b : Nat} {en : Int} {B : Nat} {Y : Nat → Prop} {w : World} (h : FeedS t ys a b en B Y w) : feedM w.heap[B]? = ys.length + (b - a) := by
  obtain ⟨P, c, hB, -⟩ := h
  rw [hB]
  unfold feedM feedO
  simp [intOf]
  try omega
theorem fstep_meas {t : ByteArray} {ys : List Int} {a b : Nat} {en : Int} {tx : ByteArray} {ys' : List Int} {a' : Nat} {en' : Int} (h : FStep t ys a b en tx ys' a' en') (hen : en ≠ 0) : (en' = 0 ∧ ys'.length + (b - a') < ys.length + (b - a)) ∨ (en' ≠ 0 ∧ ys'.length + (b - a') ≤ ys.length + (b - a)) := by
  rcases h with ⟨rfl, rfl, rfl, rfl, rfl⟩ | ⟨h1, rfl, rfl, rfl, rfl⟩
  · exact .inr ⟨hen, Nat.le_refl _⟩
  · left
    refine ⟨rfl, ?_⟩
    cases ys with
    | nil => simp [feedN]; omega
    | cons y r => simp; omega
theorem longL_mem {l : List Nd} {x : Nd} (h : x ∈ l) : x.m ≤ longL l := by
  have key : ∀ (l : List Nd) (o : Nat), o ≤ l.foldl (fun o x => max o x.m) o ∧ ∀ x ∈ l, x.m ≤ l.foldl (fun o x => max o x.m) o := by
    intro l
    induction l with
    | nil => intro o; exact ⟨Nat.le_refl _, by simp⟩
    | cons a r ih =>
      intro o
      obtain ⟨h1, h2⟩ := ih (max o a.m)
      rw [List.foldl_cons]
      refine ⟨by omega, fun x hx => ?_⟩
      rcases List.mem_cons.1 hx with rfl | hx
      · omega
      · exact h2 x hx
  exact (key l 0).2 x h
theorem Tr.leaf : ∀ {t : Tr}, t.good → ∃ x ∈ t.flat, x.k = 1
  | .find x, h => ⟨x, by simp [Tr.flat], h⟩
  | .one x a, h => by
    obtain ⟨y, hy, hk⟩ := Tr.leaf h.2
    exact ⟨y, by simp [Tr.flat, hy], hk⟩
  | .two x a b, h => by
    obtain ⟨y, hy, hk⟩ := Tr.leaf h.2.1
    exact ⟨y, by simp [Tr.flat, hy], hk⟩
theorem qright_tree {l : List Nd} (h : qrightv l = true) : ∃ t : Tr, t.good ∧ l = t.flat := by
  obtain ⟨-, -, h1, -⟩ := anybad_ok h
  unfold depthv at h1
  cases ht : treeOf l with
  | none => rw [ht] at h1; simp at h1
  | some t => exact ⟨t, treeOf_sound ht⟩
theorem qlong_pos {l : List Nd} (h : qrightv l = true) : 1 ≤ longv l := by
  obtain ⟨t, hg, rfl⟩ := qright_tree h
  obtain ⟨x, hx, hk⟩ := Tr.leaf hg
  obtain ⟨-, hnd, -⟩ := anybad_ok h
  have hd := hnd x hx
  unfold ndokv at hd
  rw [Bool.and_eq_true, if_pos hk] at hd
  obtain ⟨hm, -⟩ := rightv_n hd.2
  have := longL_mem (l := leavesN t.flat) (x := x) (List.mem_filter.2 ⟨hx, decide_eq_true hk⟩)
  unfold longv
  omega
end Go.Proofs.YtdejablhpljdfaaGreat
