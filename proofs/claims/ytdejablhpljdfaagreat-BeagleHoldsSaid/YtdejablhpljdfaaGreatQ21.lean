/-
  Texts of one claim, joined: TZed2.
-/
import Derived.Test.YtdejablhpljdfaaGreatQ20
namespace Go.Proofs.YtdejablhpljdfaaGreat
open Go.RowKit BG
attribute [local go_sem ↓] Go.wp_at_zero Go.wp_at_succ run_max_at run_min_at
set_option linter.unusedVariables false
theorem seenV_nat {s t : ByteArray} {f e i : Nat} (hF : Far s t f e) (hf : f ≤ i) : ∃ n0 : Nat, seenV (fun k => ((lcp s s k : Nat) : Int)) f e i = n0 ∧ n0 ≤ s.size ∧ (∀ k, k < n0 → goesOn s t i k) ∧ (e = 0 → n0 = 0) := by
  unfold seenV
  by_cases h : e ≤ i
  · exact ⟨0, by rw [if_pos h]; rfl, Nat.zero_le _, fun k hk => absurd hk (Nat.not_lt_zero k), fun _ => rfl⟩
  · refine ⟨min (lcp s s (i - f)) (e - i), by rw [if_neg h]; show min ((lcp s s (i - f) : Nat) : Int) _ = _; omega, ?_, far_seen hF hf (by omega), fun h0 => by omega⟩
    have := (lcp_le s s (i - f)).1
    omega
def lcpI (s t : ByteArray) (i : Nat) : Int := ((lcp s t i : Nat) : Int)
theorem lcpL_mk (s t : ByteArray) : lcpL s t = mk t.size (lcpI s t) := rfl
structure ZS (w : World) (g bu : Nat) (O : Value) (T q : Nat) (L : List Int) (f e : Nat) (W : World) : Prop where
  box : W.heap[w.heap.size]? = some (.cells #[O] 24)
  out : W.heap[bu]? = some (.cells #[.slice (some ⟨g, 0, none⟩) q T] 24)
  frm : W.heap[bu + 1]? = some (.cells #[.int .i64 (f : Nat)] 3)
  to : W.heap[bu + 1 + 1]? = some (.cells #[.int .i64 (e : Nat)] 3)
  own : W.ownsRow w.heap.size 3 1 (.slice (some ⟨g, 0, none⟩) q T) q (L.map (Value.int .i64))
  kept : Kept w W
theorem ZS.more {w : World} {g bu : Nat} {O : Value} {T q : Nat} {L : List Int} {f e : Nat} {W W' : World} (h : ZS w g bu O T q L f e W) (hk : Kept W W') : ZS w g bu O T q L f e W' :=
  ⟨blk_kept hk h.box, blk_kept hk h.out, blk_kept hk h.frm, blk_kept hk h.to, rowKept h.own hk, kept_trans h.kept hk⟩
theorem ZS.far {w : World} {g bu : Nat} {O : Value} {T q : Nat} {L : List Int} {f e : Nat} {W : World} (h : ZS w g bu O T q L f e W) (h1 : w.heap.size < g) (h2 : g < bu) (f' : Nat) (x : Int) (e' : Nat) (hx : x = (e' : Nat)) :
    ZS w g bu O T q L f' e' ((W.setCell ⟨bu + 1, 0, none⟩ (.int .i64 (f' : Nat))).setCell ⟨bu + 1 + 1, 0, none⟩ (.int .i64 x)) := by
  subst hx
  have G1 := setCell_grown W ⟨bu + 1, 0, none⟩ (.int .i64 (f' : Nat))
  have G2 := setCell_grown (W.setCell ⟨bu + 1, 0, none⟩ (.int .i64 (f' : Nat))) ⟨bu + 1 + 1, 0, none⟩ (.int .i64 (e' : Nat))
  have n1 : ∀ k, k ≠ bu + 1 → some k ≠ some (bu + 1) := fun k hk e => hk (Option.some.inj e)
  have n2 : ∀ k, k ≠ bu + 1 + 1 → some k ≠ some (bu + 1 + 1) := fun k hk e => hk (Option.some.inj e)
  refine ⟨grown_blk G2 (grown_blk G1 h.box (n1 _ (by omega))) (n2 _ (by omega)), grown_blk G2 (grown_blk G1 h.out (n1 _ (by omega))) (n2 _ (by omega)), grown_blk G2 (blk_set h.frm 0 _) (n2 _ (by omega)), blk_set (grown_blk G1 h.to (n1 _ (by omega))) 0 _, World.ownsRow.kept (World.ownsRow.kept h.own G1 (.inr ?_)) G2 (.inr ?_), kept_grow (kept_grow h.kept G1 ?_) G2 ?_⟩
  · simp only [Value.ownBlock]; exact n1 _ (by omega)
  · simp only [Value.ownBlock]; exact n2 _ (by omega)
  · rintro k hk; cases hk; show w.heap.size ≤ bu + 1; omega
  · rintro k hk; cases hk; show w.heap.size ≤ bu + 1 + 1; omega
theorem ZS.app {w : World} {g bu : Nat} {O : Value} {T q q1 : Nat} {L L' : List Int} {f e : Nat} {W W' : World} (h : ZS w g bu O T q L f e W) (h1 : w.heap.size < g) (h2 : g < bu) (hg : W.grownBy W' (some g)) (ho : W'.ownsRow w.heap.size 3 1 (.slice (some ⟨g, 0, none⟩) q1 T) q1 (L'.map (Value.int .i64))) :
    ZS w g bu O T q1 L' f e (W'.setCell ⟨bu, 0, none⟩ (.slice (some ⟨g, 0, none⟩) q1 T)) := by
  have G1 := setCell_grown W' ⟨bu, 0, none⟩ (.slice (some ⟨g, 0, none⟩) q1 T)
  have n0 : ∀ k, k ≠ g → some k ≠ some g := fun k hk e => hk (Option.some.inj e)
  have n1 : ∀ k, k ≠ bu → some k ≠ some bu := fun k hk e => hk (Option.some.inj e)
  refine ⟨grown_blk G1 (grown_blk hg h.box (n0 _ (by omega))) (n1 _ (by omega)), blk_set (grown_blk hg h.out (n0 _ (by omega))) 0 _, grown_blk G1 (grown_blk hg h.frm (n0 _ (by omega))) (n1 _ (by omega)), grown_blk G1 (grown_blk hg h.to (n0 _ (by omega))) (n1 _ (by omega)), World.ownsRow.kept ho G1 (.inr ?_), kept_grow (kept_grow h.kept hg ?_) G1 ?_⟩
  · simp only [Value.ownBlock]; exact n1 _ (by omega)
  · rintro k hk; cases hk; omega
  · rintro k hk; cases hk; show w.heap.size ≤ bu; omega
theorem ZS.out2 {w : World} {g bu : Nat} {O : Value} {T q : Nat} {L : List Int} {f e : Nat} {W W' : World} (h : ZS w g bu O T q L f e W) (h2 : g < bu) (hg : W.grownBy W' (some g)) : W'.heap[bu]? = some (.cells #[.slice (some ⟨g, 0, none⟩) q T] 24) := grown_blk hg h.out (fun e => by have := Option.some.inj e; omega)
theorem app_fit {ops : Array Oper} {rest : List Oper} {o : Oper} {a : Act} {Q : Exit → Act → World → Prop} {wr : World} {T : TypeId} {s x : Operand} {base g q cap : Nat} {l : List Int} {z : Int} {i1 : TypeInfo} (hif1 : Tryz.prog.info? 3 = some i1) (hy1 : i1.size = 1) (hgd : o.guard = none)
    (ho : o.op = .call { callee := .builtin .append, args := #[s, x], argTypes := #[24, 24] }) (hs : a.eval s = .slice (some ⟨g, 0, none⟩) q cap) {H : Nat} (hx : a.eval x = .slice (some ⟨H, 0, none⟩) 1 1) (hH : wr.heap.size = H)
    (hown : wr.ownsRow base 3 1 (.slice (some ⟨g, 0, none⟩) q cap) q (l.map (Value.int .i64))) (hcap : q + 1 ≤ cap)
    (h : ∀ w1, w1.ownsRow base 3 1 (.slice (some ⟨g, 0, none⟩) (q + 1) cap) (q + 1) ((l ++ [z]).map (Value.int .i64)) → wr.grownBy w1 (some g) → wpList Tryz.prog ops Q rest (a.put o.dst (.slice (some ⟨g, 0, none⟩) (q + 1) cap)) w1) : wpList Tryz.prog ops Q (o :: rest) a (wr.alloc (.cells #[.int .i64 z] T)) := by
  subst hH
  refine wpList_append_fits _ hgd s x 24 ho base 3 i1 1 Tryz.underlying24 hif1 hy1 g q cap _ hs (hown.alloc _) ⟨wr.heap.size, 0, none⟩ 1 1 [.int .i64 z] hx rfl ?_ ?_ hcap ?_
  · intro q u hq
    match q, hq with
    | 0, hq => simp at hq; subst hq; simp [Addr.add]
  · intro u hu; simp at hu; subst hu; rfl
  · intro w1 hown' hgrow
    refine h w1 (by rw [List.map_append]; exact hown') ⟨hgrow.os, hgrow.tape, hgrow.output, ?_, fun j hj hne => ?_⟩
    · have := hgrow.size; simp at this; omega
    · rw [hgrow.block j (by simp; omega) hne]; exact Below.heap_alloc wr _ j hj
theorem not_goes {s t : ByteArray} {i n : Nat} (h : ¬ goesOn s t i n) : ¬ n < s.size ∨ (n < s.size ∧ ¬ i + n < t.size) ∨ (n < s.size ∧ i + n < t.size ∧ byteAt s n ≠ byteAt t (i + n)) := by
  unfold goesOn at h
  by_cases h1 : n < s.size
  · by_cases h2 : i + n < t.size
    · exact .inr (.inr ⟨h1, h2, fun e => h ⟨h1, h2, e⟩⟩)
    · exact .inr (.inl ⟨h1, h2⟩)
  · exact .inl h1
set_option maxRecDepth 100000 in
set_option maxHeartbeats 8000000 in
theorem rowsown_c (s t : ByteArray) (ad : Addr) (c : Nat) (hs : s.size ≤ 900000) (ht : t.size ≤ 900000) (w : World) (hr : Rd .i64 w (some ad) (lcpL s s)) :
    Calls Tryz.prog 185 #[.string s, .string t, .slice (some ad) s.size c] w fun e w' => ∃ g, e = .returned (.slice (some ⟨g, 0, none⟩) t.size t.size) ∧ w'.ownsRow w.heap.size 3 1 (.slice (some ⟨g, 0, none⟩) t.size t.size) t.size ((lcpL s t).map (Value.int .i64)) ∧ Kept w w' := by
  obtain ⟨i1, hif1, hy0, hy1, hy2⟩ := info_parts info_i64c
  have hb := blk_new w (.cells #[.slice (some ad) s.size c] 24)
  have ka := kept_alloc (kept_refl w) (.cells #[.slice (some ad) s.size c] 24)
  have hne := fun w1 => nilI_ne (some ad) s.size c w1
  have heq := fun w1 => nilI_eq (some ad) s.size c w1
  have hmf : ∀ (fn : Fn) (first cap : Array Value) (w : World), (Instr.makeFunc fn first cap).run Tryz.prog w = .ok (.func fn first cap) w := fun _ _ _ _ => rfl
  rw [lcpL_mk]
  go_enter Tryz.func185, Tryz.ntmps185
  go_wp2_with (refine wpList_make_own _ rfl (.const (.int .i64 0)) (.tmp 14) 24 rfl w.heap.size 3 i1 (.int .i64 0) 1 Tryz.underlying24 hif1 hy0 hy1 .i64 .i64 _ t.size rfl rfl rfl ?b2 ?b3 ?b4 ?_)
  case b2 => rw [hy2]; omega
  case b3 => unfold maxLen; omega
  case b4 => simp
  intro w4 hown4 hgrow
  have K4 : Kept (w.alloc (.cells #[.slice (some ad) s.size c] 24)) w4 := (kept_refl _).grown hgrow (Nat.le_refl _) (fun k h => by cases h)
  replace hb := blk_kept K4 hb
  replace ka := kept_trans ka K4
  clear K4 hgrow
  have hgl := World.ownsRow.lt hown4 _ rfl
  have hg0 : w.heap.size < w.heap.size + 1 := by omega
  dsimp only at hgl
  generalize hgg : w.heap.size + 1 = g at *
  have hU := blk_alloc (blk_alloc (blk_new w4 (.cells #[.slice (some ⟨g, 0, none⟩) 0 t.size] 24)) (.cells #[.int .i64 0] 3)) (.cells #[.int .i64 0] 3)
  have hFr := blk_alloc (blk_new1 w4 (.cells #[.slice (some ⟨g, 0, none⟩) 0 t.size] 24) (.cells #[.int .i64 0] 3)) (.cells #[.int .i64 0] 3)
  have hTo := blk_new2 w4 (.cells #[.slice (some ⟨g, 0, none⟩) 0 t.size] 24) (.cells #[.int .i64 0] 3) (.cells #[.int .i64 0] 3)
  have k5 := kept_alloc (kept_alloc (kept_alloc (kept_refl w4) (.cells #[.slice (some ⟨g, 0, none⟩) 0 t.size] 24)) (.cells #[.int .i64 0] 3)) (.cells #[.int .i64 0] 3)
  have Z0 : ZS w g w4.heap.size (.slice (some ad) s.size c) t.size 0 (mk 0 (lcpI s t)) 0 0 _ := ⟨blk_kept k5 hb, hU, hFr, hTo, rowKept hown4 k5, kept_trans ka k5⟩
  clear hown4 k5 hb ka hU hFr hTo
  go_wp2_with fail
  generalize ((w4.alloc (.cells #[.slice (some ⟨g, 0, none⟩) 0 t.size] 24)).alloc (.cells #[.int .i64 0] 3)).alloc (.cells #[.int .i64 0] 3) = w5 at *
  have hgb : g < w4.heap.size := hgl.2
  generalize w4.heap.size = bu at *
  clear hgl
  go_loopw [19] (fun iv wr => ∃ i f e : Nat, i ≤ t.size ∧ iv = .int .i64 i ∧ Far s t f e ∧ f ≤ i ∧ True ∧ ZS w g bu (.slice (some ad) s.size c) t.size i (mk i (lcpI s t)) f e wr) (fun iv _ => t.size - (intOf iv).toNat)
  case atStart => exact ⟨0, 0, 0, Nat.zero_le _, rfl, ⟨Nat.le_refl _, Nat.zero_le _, Nat.zero_le _, fun k hk => absurd hk (Nat.not_lt_zero k)⟩, Nat.le_refl _, trivial, Z0⟩
  case round =>
    clear Z0
    obtain ⟨i, f, e, hi, rfl, hF, hfi, hmode, Z⟩ := hrel
    by_cases hlt : i < t.size
    · obtain ⟨n0, hn0, hn1, hn2, hn3⟩ := seenV_nat hF hfi
      have hFe := hF.into
      have hFf := hF.few
      have SN := seenown_c i f e (bu + 1 + 1) w.heap.size (bu + 1) bu ad s.size c (fun k => ((lcp s s k : Nat) : Int)) (by omega) (by omega) hfi wr (blk_cell Z.to 0) (blk_cell Z.box 0) (blk_cell Z.frm 0) (fun h => by obtain ⟨ad2, e2, h2⟩ := (hr.kept Z.kept).at_ (j := i - f) (by rw [lcpL_mk, mk_length]; omega); cases e2; rw [lcpL_mk, nth_mk (by omega)] at h2; exact ⟨by omega, h2⟩)
      rw [hn0] at SN
      have HN2 := Lib.hid (⟨hn2, hF, Z, hmode⟩ : _ ∧ _ ∧ _ ∧ _)
      have he0 : e ≤ t.size := hFe
      clear hn2 hF hn0 hn3
      go_wp2_with fail
      refine SN.mono ?_
      rintro e6 w6 ⟨rfl, hk6⟩
      clear SN Z
      go_wp2_with fail
      go_loopw [12] (fun nv wq => ∃ n : Nat, n ≤ s.size ∧ nv = .int .i64 n ∧ Hid (∀ k, k < n → goesOn s t i k) ∧ Kept w6 wq) (fun nv _ => s.size - (intOf nv).toNat)
      case atStart => exact ⟨n0, hn1, rfl, HN2.out.1, kept_refl _⟩
      case round =>
        obtain ⟨n, hn, rfl, HG, hk7⟩ := hrel
        have cb := blk_cell (blk_kept (kept_trans hk6 hk7) HN2.out.2.2.1.box) 0
        have hx1 : 0 ≤ (i : Int) + (n : Int) := by omega
        have hx3 : ((i : Int) + (n : Int)).toNat = i + n := by omega
        by_cases hgo : goesOn s t i n
        · obtain ⟨g1, g2, g3⟩ := hgo
          have d1 : decide ((n : Int) < (s.size : Int)) = true := decide_eq_true (by omega)
          have d1n : decide (n < s.size) = true := decide_eq_true g1
          have d2 : decide ((i : Int) + (n : Int) < (t.size : Int)) = true := decide_eq_true (by omega)
          have d2n : decide (i + n < t.size) = true := decide_eq_true g2
          have hx2 : (i : Int) + (n : Int) < (t.size : Int) := by omega
          have hb1 := byteAt_eq g1
          have hb2 := byteAt_eq g2
          have HGN : Hid (∀ k, k < n + 1 → goesOn s t i k) := fun k hk => by
            rcases Nat.lt_or_ge k n with h | h
            · exact HG k h
            · obtain rfl : k = n := by omega
              exact ⟨g1, g2, g3⟩
          rw [← g3] at hb2
          clear g3
          go_wp2_with fail
          go_quiet (fail)
          go_wp2_with fail
          exact ⟨⟨n + 1, by omega, by go_num, HGN, kept_drewN hk7 _⟩, by simp [intOf]; omega⟩
        · have hL := isL_eq ⟨HG.out, hgo⟩
          have HLC := Lib.hid (⟨hL, hgo⟩ : _ ∧ _)
          clear hL
          have XR : (decide ((n : Int) < (s.size : Int)) = false ∧ decide (n < s.size) = false) ∨ ((decide ((n : Int) < (s.size : Int)) = true ∧ decide (n < s.size) = true) ∧ decide ((i : Int) + (n : Int) < (t.size : Int)) = false ∧ decide (i + n < t.size) = false) ∨ ∃ (h1 : n < s.size) (h2 : i + n < t.size), byteAt s n ≠ byteAt t (i + n) := by
            rcases not_goes hgo with h1 | ⟨h1, h2⟩ | ⟨h1, h2, h3⟩
            · exact .inl ⟨decide_eq_false (by omega), decide_eq_false h1⟩
            · exact .inr (.inl ⟨⟨decide_eq_true (by omega), decide_eq_true h1⟩, decide_eq_false (by omega), decide_eq_false h2⟩)
            · exact .inr (.inr ⟨h1, h2, h3⟩)
          clear hgo
          have HX : Hid (∀ (w8 : World), Kept wr w8 → ZS w g bu (.slice (some ad) s.size c) t.size i (mk i (lcpI s t)) f e w8) := fun w8 h8 => HN2.out.2.2.1.more (kept_trans hk6 (kept_trans hk7 h8))
          rcases XR with ⟨d1, d1n⟩ | ⟨⟨d1, d1n⟩, d2, d2n⟩ | ⟨h1, h2, h3⟩
          · go_wp2_with fail
            go_quiet (fail)
            generalize hw8 : World.drewN wr _ = w8 at *
            have Z8 := HX.out w8 (by rw [← hw8]; exact kept_drewN (kept_refl _) _)
            clear hw8
            have co := blk_cell Z8.box 0
            have ct := blk_cell Z8.to 0
            have hLc : lcpI s t i = (n : Int) := by unfold lcpI; rw [HLC.out.1]
            have hms := mk_succ i (lcpI s t)
            rw [hLc] at hms
            by_cases hu : e < i + n
            · have d5 : decide ((e : Int) < (i : Int) + (n : Int)) = true := decide_eq_true (by omega)
              have d5n : decide (e < i + n) = true := decide_eq_true hu
              have ff := blk_frozen Z8.frm 0
              have cf := blk_cell Z8.frm 0
              have hto := blk_far Z8.to (p := ⟨bu + 1, 0, none⟩) (by simp) (.int .i64 (i : Nat))
              have ft := blk_frozen hto 0
              have ct2 := blk_cell hto 0
              have Z9 := Z8.far hg0 hgb i ((i : Int) + (n : Int)) (i + n) (by omega)
              have c9 := blk_cell Z9.out 0
              have HZ := Lib.hid (⟨Z9, hms⟩ : _ ∧ _)
              clear Z8 Z9 hms hLc hto
              go_wp2_with (at_builtin; refine app_fit hif1 hy1 rfl rfl rfl rfl (by simp) HZ.out.1.own (by omega) ?_)
              intro w10 own10 hg10
              have own11 : w10.ownsRow w.heap.size 3 1 (.slice (some ⟨g, 0, none⟩) (i + 1) t.size) (i + 1) ((mk (i + 1) (lcpI s t)).map (Value.int .i64)) := by rw [HZ.out.2, List.map_append]; exact own10
              have fo := blk_frozen (HZ.out.1.out2 hgb hg10) 0
              have cw := blk_cell (HZ.out.1.out2 hgb hg10) 0
              have Z10 := HZ.out.1.app hg0 hgb hg10 own11
              have HZ2 := Lib.hid Z10
              clear Z10 own10 own11 hg10 ff ft c9 co ct ct2 cf
              go_wp2_with fail
              exact ⟨⟨i + 1, i, i + n, by omega, by go_num, far_new HG.out hi, by omega, trivial, HZ2.out⟩, by simp [intOf]; omega⟩
            · have d5 : decide ((e : Int) < (i : Int) + (n : Int)) = false := decide_eq_false (by omega)
              have d5n : decide (e < i + n) = false := decide_eq_false hu
              have c9 := blk_cell Z8.out 0
              have HZ := Lib.hid (⟨Z8, hms⟩ : _ ∧ _)
              clear Z8 hms hLc
              go_wp2_with (at_builtin; refine app_fit hif1 hy1 rfl rfl rfl rfl (by simp) HZ.out.1.own (by omega) ?_)
              intro w10 own10 hg10
              have own11 : w10.ownsRow w.heap.size 3 1 (.slice (some ⟨g, 0, none⟩) (i + 1) t.size) (i + 1) ((mk (i + 1) (lcpI s t)).map (Value.int .i64)) := by rw [HZ.out.2, List.map_append]; exact own10
              have fo := blk_frozen (HZ.out.1.out2 hgb hg10) 0
              have cw := blk_cell (HZ.out.1.out2 hgb hg10) 0
              have Z10 := HZ.out.1.app hg0 hgb hg10 own11
              have HZ2 := Lib.hid Z10
              clear Z10 own10 own11 hg10 c9 co ct
              go_wp2_with fail
              exact ⟨⟨i + 1, f, e, by omega, by go_num, HN2.out.2.1, by omega, trivial, HZ2.out⟩, by simp [intOf]; omega⟩
          · go_wp2_with fail
            go_quiet (fail)
            generalize hw8 : World.drewN wr _ = w8 at *
            have Z8 := HX.out w8 (by rw [← hw8]; exact kept_drewN (kept_refl _) _)
            clear hw8
            have co := blk_cell Z8.box 0
            have ct := blk_cell Z8.to 0
            have hLc : lcpI s t i = (n : Int) := by unfold lcpI; rw [HLC.out.1]
            have hms := mk_succ i (lcpI s t)
            rw [hLc] at hms
            by_cases hu : e < i + n
            · have d5 : decide ((e : Int) < (i : Int) + (n : Int)) = true := decide_eq_true (by omega)
              have d5n : decide (e < i + n) = true := decide_eq_true hu
              have ff := blk_frozen Z8.frm 0
              have cf := blk_cell Z8.frm 0
              have hto := blk_far Z8.to (p := ⟨bu + 1, 0, none⟩) (by simp) (.int .i64 (i : Nat))
              have ft := blk_frozen hto 0
              have ct2 := blk_cell hto 0
              have Z9 := Z8.far hg0 hgb i ((i : Int) + (n : Int)) (i + n) (by omega)
              have c9 := blk_cell Z9.out 0
              have HZ := Lib.hid (⟨Z9, hms⟩ : _ ∧ _)
              clear Z8 Z9 hms hLc hto
              go_wp2_with (at_builtin; refine app_fit hif1 hy1 rfl rfl rfl rfl (by simp) HZ.out.1.own (by omega) ?_)
              intro w10 own10 hg10
              have own11 : w10.ownsRow w.heap.size 3 1 (.slice (some ⟨g, 0, none⟩) (i + 1) t.size) (i + 1) ((mk (i + 1) (lcpI s t)).map (Value.int .i64)) := by rw [HZ.out.2, List.map_append]; exact own10
              have fo := blk_frozen (HZ.out.1.out2 hgb hg10) 0
              have cw := blk_cell (HZ.out.1.out2 hgb hg10) 0
              have Z10 := HZ.out.1.app hg0 hgb hg10 own11
              have HZ2 := Lib.hid Z10
              clear Z10 own10 own11 hg10 ff ft c9 co ct ct2 cf
              go_wp2_with fail
              exact ⟨⟨i + 1, i, i + n, by omega, by go_num, far_new HG.out hi, by omega, trivial, HZ2.out⟩, by simp [intOf]; omega⟩
            · have d5 : decide ((e : Int) < (i : Int) + (n : Int)) = false := decide_eq_false (by omega)
              have d5n : decide (e < i + n) = false := decide_eq_false hu
              have c9 := blk_cell Z8.out 0
              have HZ := Lib.hid (⟨Z8, hms⟩ : _ ∧ _)
              clear Z8 hms hLc
              go_wp2_with (at_builtin; refine app_fit hif1 hy1 rfl rfl rfl rfl (by simp) HZ.out.1.own (by omega) ?_)
              intro w10 own10 hg10
              have own11 : w10.ownsRow w.heap.size 3 1 (.slice (some ⟨g, 0, none⟩) (i + 1) t.size) (i + 1) ((mk (i + 1) (lcpI s t)).map (Value.int .i64)) := by rw [HZ.out.2, List.map_append]; exact own10
              have fo := blk_frozen (HZ.out.1.out2 hgb hg10) 0
              have cw := blk_cell (HZ.out.1.out2 hgb hg10) 0
              have Z10 := HZ.out.1.app hg0 hgb hg10 own11
              have HZ2 := Lib.hid Z10
              clear Z10 own10 own11 hg10 c9 co ct
              go_wp2_with fail
              exact ⟨⟨i + 1, f, e, by omega, by go_num, HN2.out.2.1, by omega, trivial, HZ2.out⟩, by simp [intOf]; omega⟩
          · have d1 : decide ((n : Int) < (s.size : Int)) = true := decide_eq_true (by omega)
            have d1n : decide (n < s.size) = true := decide_eq_true h1
            have d2 : decide ((i : Int) + (n : Int) < (t.size : Int)) = true := decide_eq_true (by omega)
            have d2n : decide (i + n < t.size) = true := decide_eq_true h2
            have hx2 : (i : Int) + (n : Int) < (t.size : Int) := by omega
            have hb1 := byteAt_eq h1
            have hb2 := byteAt_eq h2
            generalize byteAt s n = y1 at *
            generalize byteAt t (i + n) = y2 at *
            have e1 : (y1 == y2) = false := by rw [beq_eq_false_iff_ne]; exact h3
            have e2 : ((y1 : Int) == (y2 : Int)) = false := by rw [beq_eq_false_iff_ne]; omega
            have e3 : decide (y1 = y2) = false := decide_eq_false h3
            go_wp2_with fail
            go_quiet (fail)
            generalize hw8 : World.drewN wr _ = w8 at *
            have Z8 := HX.out w8 (by rw [← hw8]; exact kept_drewN (kept_refl _) _)
            clear hw8
            have co := blk_cell Z8.box 0
            have ct := blk_cell Z8.to 0
            have hLc : lcpI s t i = (n : Int) := by unfold lcpI; rw [HLC.out.1]
            have hms := mk_succ i (lcpI s t)
            rw [hLc] at hms
            by_cases hu : e < i + n
            · have d5 : decide ((e : Int) < (i : Int) + (n : Int)) = true := decide_eq_true (by omega)
              have d5n : decide (e < i + n) = true := decide_eq_true hu
              have ff := blk_frozen Z8.frm 0
              have cf := blk_cell Z8.frm 0
              have hto := blk_far Z8.to (p := ⟨bu + 1, 0, none⟩) (by simp) (.int .i64 (i : Nat))
              have ft := blk_frozen hto 0
              have ct2 := blk_cell hto 0
              have Z9 := Z8.far hg0 hgb i ((i : Int) + (n : Int)) (i + n) (by omega)
              have c9 := blk_cell Z9.out 0
              have HZ := Lib.hid (⟨Z9, hms⟩ : _ ∧ _)
              clear Z8 Z9 hms hLc hto
              go_wp2_with (at_builtin; refine app_fit hif1 hy1 rfl rfl rfl rfl (by simp) HZ.out.1.own (by omega) ?_)
              intro w10 own10 hg10
              have own11 : w10.ownsRow w.heap.size 3 1 (.slice (some ⟨g, 0, none⟩) (i + 1) t.size) (i + 1) ((mk (i + 1) (lcpI s t)).map (Value.int .i64)) := by rw [HZ.out.2, List.map_append]; exact own10
              have fo := blk_frozen (HZ.out.1.out2 hgb hg10) 0
              have cw := blk_cell (HZ.out.1.out2 hgb hg10) 0
              have Z10 := HZ.out.1.app hg0 hgb hg10 own11
              have HZ2 := Lib.hid Z10
              clear Z10 own10 own11 hg10 ff ft c9 co ct ct2 cf
              go_wp2_with fail
              exact ⟨⟨i + 1, i, i + n, by omega, by go_num, far_new HG.out hi, by omega, trivial, HZ2.out⟩, by simp [intOf]; omega⟩
            · have d5 : decide ((e : Int) < (i : Int) + (n : Int)) = false := decide_eq_false (by omega)
              have d5n : decide (e < i + n) = false := decide_eq_false hu
              have c9 := blk_cell Z8.out 0
              have HZ := Lib.hid (⟨Z8, hms⟩ : _ ∧ _)
              clear Z8 hms hLc
              go_wp2_with (at_builtin; refine app_fit hif1 hy1 rfl rfl rfl rfl (by simp) HZ.out.1.own (by omega) ?_)
              intro w10 own10 hg10
              have own11 : w10.ownsRow w.heap.size 3 1 (.slice (some ⟨g, 0, none⟩) (i + 1) t.size) (i + 1) ((mk (i + 1) (lcpI s t)).map (Value.int .i64)) := by rw [HZ.out.2, List.map_append]; exact own10
              have fo := blk_frozen (HZ.out.1.out2 hgb hg10) 0
              have cw := blk_cell (HZ.out.1.out2 hgb hg10) 0
              have Z10 := HZ.out.1.app hg0 hgb hg10 own11
              have HZ2 := Lib.hid Z10
              clear Z10 own10 own11 hg10 c9 co ct
              go_wp2_with fail
              exact ⟨⟨i + 1, f, e, by omega, by go_num, HN2.out.2.1, by omega, trivial, HZ2.out⟩, by simp [intOf]; omega⟩
    · obtain rfl : i = t.size := by omega
      have c9 := blk_cell Z.out 0
      have HZ := Lib.hid Z
      clear Z
      go_wp2_with fail
      go_ret
      exact ⟨g, rfl, HZ.out.own, HZ.out.kept⟩
set_option maxRecDepth 100000 in
set_option maxHeartbeats 8000000 in
theorem rowsnil_c (s : ByteArray) (hs : s.size ≤ 900000) (w : World) :
    Calls Tryz.prog 185 #[.string s, .string s, .slice none 0 0] w fun e w' => ∃ g, e = .returned (.slice (some ⟨g, 0, none⟩) s.size s.size) ∧ w'.ownsRow w.heap.size 3 1 (.slice (some ⟨g, 0, none⟩) s.size s.size) s.size ((lcpL s s).map (Value.int .i64)) ∧ Kept w w' := by
  obtain ⟨i1, hif1, hy0, hy1, hy2⟩ := info_parts info_i64c
  have hb := blk_new w (.cells #[.slice none 0 0] 24)
  have ka := kept_alloc (kept_refl w) (.cells #[.slice none 0 0] 24)
  have hne := fun w1 => nilI_ne none 0 0 w1
  have heq := fun w1 => nilI_eq none 0 0 w1
  have hmf : ∀ (fn : Fn) (first cap : Array Value) (w : World), (Instr.makeFunc fn first cap).run Tryz.prog w = .ok (.func fn first cap) w := fun _ _ _ _ => rfl
  rw [lcpL_mk]
  go_enter Tryz.func185, Tryz.ntmps185
  go_wp2_with (refine wpList_make_own _ rfl (.const (.int .i64 0)) (.tmp 14) 24 rfl w.heap.size 3 i1 (.int .i64 0) 1 Tryz.underlying24 hif1 hy0 hy1 .i64 .i64 _ s.size rfl rfl rfl ?b2 ?b3 ?b4 ?_)
  case b2 => rw [hy2]; omega
  case b3 => unfold maxLen; omega
  case b4 => simp
  intro w4 hown4 hgrow
  have K4 : Kept (w.alloc (.cells #[.slice none 0 0] 24)) w4 := (kept_refl _).grown hgrow (Nat.le_refl _) (fun k h => by cases h)
  replace hb := blk_kept K4 hb
  replace ka := kept_trans ka K4
  clear K4 hgrow
  have hgl := World.ownsRow.lt hown4 _ rfl
  have hg0 : w.heap.size < w.heap.size + 1 := by omega
  dsimp only at hgl
  generalize hgg : w.heap.size + 1 = g at *
  have hU := blk_alloc (blk_alloc (blk_new w4 (.cells #[.slice (some ⟨g, 0, none⟩) 0 s.size] 24)) (.cells #[.int .i64 0] 3)) (.cells #[.int .i64 0] 3)
  have hFr := blk_alloc (blk_new1 w4 (.cells #[.slice (some ⟨g, 0, none⟩) 0 s.size] 24) (.cells #[.int .i64 0] 3)) (.cells #[.int .i64 0] 3)
  have hTo := blk_new2 w4 (.cells #[.slice (some ⟨g, 0, none⟩) 0 s.size] 24) (.cells #[.int .i64 0] 3) (.cells #[.int .i64 0] 3)
  have k5 := kept_alloc (kept_alloc (kept_alloc (kept_refl w4) (.cells #[.slice (some ⟨g, 0, none⟩) 0 s.size] 24)) (.cells #[.int .i64 0] 3)) (.cells #[.int .i64 0] 3)
  have Z0 : ZS w g w4.heap.size (.slice none 0 0) s.size 0 (mk 0 (lcpI s s)) 0 0 _ := ⟨blk_kept k5 hb, hU, hFr, hTo, rowKept hown4 k5, kept_trans ka k5⟩
  clear hown4 k5 hb ka hU hFr hTo
  go_wp2_with fail
  generalize ((w4.alloc (.cells #[.slice (some ⟨g, 0, none⟩) 0 s.size] 24)).alloc (.cells #[.int .i64 0] 3)).alloc (.cells #[.int .i64 0] 3) = w5 at *
  have hgb : g < w4.heap.size := hgl.2
  generalize w4.heap.size = bu at *
  clear hgl
  go_loopw [19] (fun iv wr => ∃ i f e : Nat, i ≤ s.size ∧ iv = .int .i64 i ∧ Far s s f e ∧ f ≤ i ∧ (1 ≤ f ∨ e = 0) ∧ ZS w g bu (.slice none 0 0) s.size i (mk i (lcpI s s)) f e wr) (fun iv _ => s.size - (intOf iv).toNat)
  case atStart => exact ⟨0, 0, 0, Nat.zero_le _, rfl, ⟨Nat.le_refl _, Nat.zero_le _, Nat.zero_le _, fun k hk => absurd hk (Nat.not_lt_zero k)⟩, Nat.le_refl _, .inr rfl, Z0⟩
  case round =>
    clear Z0
    obtain ⟨i, f, e, hi, rfl, hF, hfi, hmode, Z⟩ := hrel
    by_cases hlt : i < s.size
    · obtain ⟨n0, hn0, hn1, hn2, hn3⟩ := seenV_nat hF hfi
      have hFe := hF.into
      have hFf := hF.few
      have SN := seennil_c i f e (bu + 1 + 1) w.heap.size (bu + 1) bu ⟨g, 0, none⟩ i s.size (fun k => ((lcp s s k : Nat) : Int)) (by omega) (by omega) hfi wr (blk_cell Z.to 0) (blk_cell Z.box 0) (blk_cell Z.frm 0) (blk_cell Z.out 0) (fun h => by have h3 := World.ownsRow.cellAt Z.own (i - f) (by omega); rw [List.getElem?_map, List.getElem?_eq_getElem (by rw [mk_length]; omega), Option.map_some, ← nth_lt (by rw [mk_length]; omega), nth_mk (by omega)] at h3; have ea : (⟨g, 0, none⟩ : Addr).add (i - f) = ⟨g, i - f, none⟩ := (by unfold Addr.add; split <;> simp_all); rw [ea]; exact ⟨by omega, h3⟩)
      rw [hn0] at SN
      have HN2 := Lib.hid (⟨hn2, hF, Z, hmode⟩ : _ ∧ _ ∧ _ ∧ _)
      have he0 : e ≤ s.size := hFe
      have HZ0 := Lib.hid (fun (h : i = 0) => (hn3 (by omega) : n0 = 0))
      clear hn2 hF hn0 hn3
      go_wp2_with fail
      refine SN.mono ?_
      rintro e6 w6 ⟨rfl, hk6⟩
      clear SN Z
      go_wp2_with fail
      by_cases hi0n : i = 0
      · have d3 : decide ((0 : Int) < (i : Int)) = false := decide_eq_false (by omega)
        have d3n : decide (0 < i) = false := decide_eq_false (by omega)
        have d4 : ((i : Int) == 0) = true := by rw [beq_iff_eq]; omega
        have d4n : (i == 0) = true := by rw [beq_iff_eq]; omega
        have d4m : decide (i = 0) = true := decide_eq_true (by omega)
        have d4k : decide ((i : Int) = 0) = true := decide_eq_true (by omega)
        have HI := Lib.hid hi0n
        clear hi0n
        go_loopw [12] (fun nv wq => ∃ n : Nat, nv = .int .i64 n ∧ Hid (n = 0) ∧ Kept w6 wq) (fun _ _ => 0)
        case atStart => exact ⟨n0, rfl, HZ0.out HI.out, kept_refl _⟩
        case round =>
          obtain ⟨n, rfl, HN0, hk7⟩ := hrel
          have cb := blk_cell (blk_kept (kept_trans hk6 hk7) HN2.out.2.2.1.box) 0
          have hx1 : 0 ≤ (i : Int) + (n : Int) := by omega
          have hx3 : ((i : Int) + (n : Int)).toNat = i + n := by omega
          have g1 : n < s.size := by have h1 := HN0.out; have h2 := HI.out; omega
          have g2 : i + n < s.size := by have h1 := HN0.out; have h2 := HI.out; omega
          have d1 : decide ((n : Int) < (s.size : Int)) = true := decide_eq_true (by omega)
          have d1n : decide (n < s.size) = true := decide_eq_true g1
          have d2 : decide ((i : Int) + (n : Int) < (s.size : Int)) = true := decide_eq_true (by omega)
          have d2n : decide (i + n < s.size) = true := decide_eq_true g2
          have hx2 : (i : Int) + (n : Int) < (s.size : Int) := by omega
          have hb1 := byteAt_eq g1
          have hb2 := byteAt_eq g2
          have g3 : byteAt s n = byteAt s (i + n) := by rw [HI.out, Nat.zero_add]
          rw [← g3] at hb2
          clear g3
          have HX : Hid (∀ (w8 : World), Kept wr w8 → ZS w g bu (.slice none 0 0) s.size i (mk i (lcpI s s)) f e w8) := fun w8 h8 => HN2.out.2.2.1.more (kept_trans hk6 (kept_trans hk7 h8))
          go_wp2_with fail
          go_quiet (fail)
          generalize hw8 : World.drewN wr _ = w8 at *
          have Z8 := HX.out w8 (by rw [← hw8]; exact kept_drewN (kept_refl _) _)
          clear hw8
          have co := blk_cell Z8.box 0
          have hLc : lcpI s s i = (s.size : Int) := by unfold lcpI; rw [HI.out, lcp_self]
          have hms := mk_succ i (lcpI s s)
          rw [hLc] at hms
          have c9 := blk_cell Z8.out 0
          have HZ := Lib.hid (⟨Z8, hms⟩ : _ ∧ _)
          clear Z8 hms hLc
          go_wp2_with (at_builtin; refine app_fit hif1 hy1 rfl rfl rfl rfl (by simp) HZ.out.1.own (by omega) ?_)
          intro w10 own10 hg10
          have own11 : w10.ownsRow w.heap.size 3 1 (.slice (some ⟨g, 0, none⟩) (i + 1) s.size) (i + 1) ((mk (i + 1) (lcpI s s)).map (Value.int .i64)) := by rw [HZ.out.2, List.map_append]; exact own10
          have fo := blk_frozen (HZ.out.1.out2 hgb hg10) 0
          have cw := blk_cell (HZ.out.1.out2 hgb hg10) 0
          have Z10 := HZ.out.1.app hg0 hgb hg10 own11
          have HZ2 := Lib.hid Z10
          clear Z10 own10 own11 hg10 c9 co
          go_wp2_with fail
          exact ⟨⟨i + 1, f, e, by omega, by go_num, HN2.out.2.1, by omega, HN2.out.2.2.2, HZ2.out⟩, by simp [intOf]; omega⟩
      go_loopw [12] (fun nv wq => ∃ n : Nat, n ≤ s.size ∧ nv = .int .i64 n ∧ Hid (∀ k, k < n → goesOn s s i k) ∧ Kept w6 wq) (fun nv _ => s.size - (intOf nv).toNat)
      case atStart => exact ⟨n0, hn1, rfl, HN2.out.1, kept_refl _⟩
      case round =>
        obtain ⟨n, hn, rfl, HG, hk7⟩ := hrel
        have cb := blk_cell (blk_kept (kept_trans hk6 hk7) HN2.out.2.2.1.box) 0
        have hi0 : 0 < i := by omega
        have d3 : decide ((0 : Int) < (i : Int)) = true := decide_eq_true (by omega)
        have d3n : decide (0 < i) = true := decide_eq_true hi0
        have d4 : ((i : Int) == 0) = false := by rw [beq_eq_false_iff_ne]; omega
        have d4n : (i == 0) = false := by rw [beq_eq_false_iff_ne]; omega
        have d4m : decide (i = 0) = false := decide_eq_false (by omega)
        have d4k : decide ((i : Int) = 0) = false := decide_eq_false (by omega)
        have hx1 : 0 ≤ (i : Int) + (n : Int) := by omega
        have hx3 : ((i : Int) + (n : Int)).toNat = i + n := by omega
        by_cases hgo : goesOn s s i n
        · obtain ⟨g1, g2, g3⟩ := hgo
          have d1 : decide ((n : Int) < (s.size : Int)) = true := decide_eq_true (by omega)
          have d1n : decide (n < s.size) = true := decide_eq_true g1
          have d2 : decide ((i : Int) + (n : Int) < (s.size : Int)) = true := decide_eq_true (by omega)
          have d2n : decide (i + n < s.size) = true := decide_eq_true g2
          have hx2 : (i : Int) + (n : Int) < (s.size : Int) := by omega
          have hb1 := byteAt_eq g1
          have hb2 := byteAt_eq g2
          have HGN : Hid (∀ k, k < n + 1 → goesOn s s i k) := fun k hk => by
            rcases Nat.lt_or_ge k n with h | h
            · exact HG k h
            · obtain rfl : k = n := by omega
              exact ⟨g1, g2, g3⟩
          rw [← g3] at hb2
          clear g3
          go_wp2_with fail
          go_quiet (fail)
          go_wp2_with fail
          exact ⟨⟨n + 1, by omega, by go_num, HGN, kept_drewN hk7 _⟩, by simp [intOf]; omega⟩
        · have hL := isL_eq ⟨HG.out, hgo⟩
          have HLC := Lib.hid (⟨hL, hgo⟩ : _ ∧ _)
          clear hL
          have XR : (decide ((n : Int) < (s.size : Int)) = false ∧ decide (n < s.size) = false) ∨ ((decide ((n : Int) < (s.size : Int)) = true ∧ decide (n < s.size) = true) ∧ decide ((i : Int) + (n : Int) < (s.size : Int)) = false ∧ decide (i + n < s.size) = false) ∨ ∃ (h1 : n < s.size) (h2 : i + n < s.size), byteAt s n ≠ byteAt s (i + n) := by
            rcases not_goes hgo with h1 | ⟨h1, h2⟩ | ⟨h1, h2, h3⟩
            · exact .inl ⟨decide_eq_false (by omega), decide_eq_false h1⟩
            · exact .inr (.inl ⟨⟨decide_eq_true (by omega), decide_eq_true h1⟩, decide_eq_false (by omega), decide_eq_false h2⟩)
            · exact .inr (.inr ⟨h1, h2, h3⟩)
          clear hgo
          have HX : Hid (∀ (w8 : World), Kept wr w8 → ZS w g bu (.slice none 0 0) s.size i (mk i (lcpI s s)) f e w8) := fun w8 h8 => HN2.out.2.2.1.more (kept_trans hk6 (kept_trans hk7 h8))
          rcases XR with ⟨d1, d1n⟩ | ⟨⟨d1, d1n⟩, d2, d2n⟩ | ⟨h1, h2, h3⟩
          · go_wp2_with fail
            go_quiet (fail)
            generalize hw8 : World.drewN wr _ = w8 at *
            have Z8 := HX.out w8 (by rw [← hw8]; exact kept_drewN (kept_refl _) _)
            clear hw8
            have co := blk_cell Z8.box 0
            have ct := blk_cell Z8.to 0
            have hLc : lcpI s s i = (n : Int) := by unfold lcpI; rw [HLC.out.1]
            have hms := mk_succ i (lcpI s s)
            rw [hLc] at hms
            by_cases hu : e < i + n
            · have d5 : decide ((e : Int) < (i : Int) + (n : Int)) = true := decide_eq_true (by omega)
              have d5n : decide (e < i + n) = true := decide_eq_true hu
              have ff := blk_frozen Z8.frm 0
              have cf := blk_cell Z8.frm 0
              have hto := blk_far Z8.to (p := ⟨bu + 1, 0, none⟩) (by simp) (.int .i64 (i : Nat))
              have ft := blk_frozen hto 0
              have ct2 := blk_cell hto 0
              have Z9 := Z8.far hg0 hgb i ((i : Int) + (n : Int)) (i + n) (by omega)
              have c9 := blk_cell Z9.out 0
              have HZ := Lib.hid (⟨Z9, hms⟩ : _ ∧ _)
              clear Z8 Z9 hms hLc hto
              go_wp2_with (at_builtin; refine app_fit hif1 hy1 rfl rfl rfl rfl (by simp) HZ.out.1.own (by omega) ?_)
              intro w10 own10 hg10
              have own11 : w10.ownsRow w.heap.size 3 1 (.slice (some ⟨g, 0, none⟩) (i + 1) s.size) (i + 1) ((mk (i + 1) (lcpI s s)).map (Value.int .i64)) := by rw [HZ.out.2, List.map_append]; exact own10
              have fo := blk_frozen (HZ.out.1.out2 hgb hg10) 0
              have cw := blk_cell (HZ.out.1.out2 hgb hg10) 0
              have Z10 := HZ.out.1.app hg0 hgb hg10 own11
              have HZ2 := Lib.hid Z10
              clear Z10 own10 own11 hg10 ff ft c9 co ct ct2 cf
              go_wp2_with fail
              exact ⟨⟨i + 1, i, i + n, by omega, by go_num, far_new HG.out hi, by omega, (by first | exact .inl hi0 | omega), HZ2.out⟩, by simp [intOf]; omega⟩
            · have d5 : decide ((e : Int) < (i : Int) + (n : Int)) = false := decide_eq_false (by omega)
              have d5n : decide (e < i + n) = false := decide_eq_false hu
              have c9 := blk_cell Z8.out 0
              have HZ := Lib.hid (⟨Z8, hms⟩ : _ ∧ _)
              clear Z8 hms hLc
              go_wp2_with (at_builtin; refine app_fit hif1 hy1 rfl rfl rfl rfl (by simp) HZ.out.1.own (by omega) ?_)
              intro w10 own10 hg10
              have own11 : w10.ownsRow w.heap.size 3 1 (.slice (some ⟨g, 0, none⟩) (i + 1) s.size) (i + 1) ((mk (i + 1) (lcpI s s)).map (Value.int .i64)) := by rw [HZ.out.2, List.map_append]; exact own10
              have fo := blk_frozen (HZ.out.1.out2 hgb hg10) 0
              have cw := blk_cell (HZ.out.1.out2 hgb hg10) 0
              have Z10 := HZ.out.1.app hg0 hgb hg10 own11
              have HZ2 := Lib.hid Z10
              clear Z10 own10 own11 hg10 c9 co ct
              go_wp2_with fail
              exact ⟨⟨i + 1, f, e, by omega, by go_num, HN2.out.2.1, by omega, HN2.out.2.2.2, HZ2.out⟩, by simp [intOf]; omega⟩
          · go_wp2_with fail
            go_quiet (fail)
            generalize hw8 : World.drewN wr _ = w8 at *
            have Z8 := HX.out w8 (by rw [← hw8]; exact kept_drewN (kept_refl _) _)
            clear hw8
            have co := blk_cell Z8.box 0
            have ct := blk_cell Z8.to 0
            have hLc : lcpI s s i = (n : Int) := by unfold lcpI; rw [HLC.out.1]
            have hms := mk_succ i (lcpI s s)
            rw [hLc] at hms
            by_cases hu : e < i + n
            · have d5 : decide ((e : Int) < (i : Int) + (n : Int)) = true := decide_eq_true (by omega)
              have d5n : decide (e < i + n) = true := decide_eq_true hu
              have ff := blk_frozen Z8.frm 0
              have cf := blk_cell Z8.frm 0
              have hto := blk_far Z8.to (p := ⟨bu + 1, 0, none⟩) (by simp) (.int .i64 (i : Nat))
              have ft := blk_frozen hto 0
              have ct2 := blk_cell hto 0
              have Z9 := Z8.far hg0 hgb i ((i : Int) + (n : Int)) (i + n) (by omega)
              have c9 := blk_cell Z9.out 0
              have HZ := Lib.hid (⟨Z9, hms⟩ : _ ∧ _)
              clear Z8 Z9 hms hLc hto
              go_wp2_with (at_builtin; refine app_fit hif1 hy1 rfl rfl rfl rfl (by simp) HZ.out.1.own (by omega) ?_)
              intro w10 own10 hg10
              have own11 : w10.ownsRow w.heap.size 3 1 (.slice (some ⟨g, 0, none⟩) (i + 1) s.size) (i + 1) ((mk (i + 1) (lcpI s s)).map (Value.int .i64)) := by rw [HZ.out.2, List.map_append]; exact own10
              have fo := blk_frozen (HZ.out.1.out2 hgb hg10) 0
              have cw := blk_cell (HZ.out.1.out2 hgb hg10) 0
              have Z10 := HZ.out.1.app hg0 hgb hg10 own11
              have HZ2 := Lib.hid Z10
              clear Z10 own10 own11 hg10 ff ft c9 co ct ct2 cf
              go_wp2_with fail
              exact ⟨⟨i + 1, i, i + n, by omega, by go_num, far_new HG.out hi, by omega, (by first | exact .inl hi0 | omega), HZ2.out⟩, by simp [intOf]; omega⟩
            · have d5 : decide ((e : Int) < (i : Int) + (n : Int)) = false := decide_eq_false (by omega)
              have d5n : decide (e < i + n) = false := decide_eq_false hu
              have c9 := blk_cell Z8.out 0
              have HZ := Lib.hid (⟨Z8, hms⟩ : _ ∧ _)
              clear Z8 hms hLc
              go_wp2_with (at_builtin; refine app_fit hif1 hy1 rfl rfl rfl rfl (by simp) HZ.out.1.own (by omega) ?_)
              intro w10 own10 hg10
              have own11 : w10.ownsRow w.heap.size 3 1 (.slice (some ⟨g, 0, none⟩) (i + 1) s.size) (i + 1) ((mk (i + 1) (lcpI s s)).map (Value.int .i64)) := by rw [HZ.out.2, List.map_append]; exact own10
              have fo := blk_frozen (HZ.out.1.out2 hgb hg10) 0
              have cw := blk_cell (HZ.out.1.out2 hgb hg10) 0
              have Z10 := HZ.out.1.app hg0 hgb hg10 own11
              have HZ2 := Lib.hid Z10
              clear Z10 own10 own11 hg10 c9 co ct
              go_wp2_with fail
              exact ⟨⟨i + 1, f, e, by omega, by go_num, HN2.out.2.1, by omega, HN2.out.2.2.2, HZ2.out⟩, by simp [intOf]; omega⟩
          · have d1 : decide ((n : Int) < (s.size : Int)) = true := decide_eq_true (by omega)
            have d1n : decide (n < s.size) = true := decide_eq_true h1
            have d2 : decide ((i : Int) + (n : Int) < (s.size : Int)) = true := decide_eq_true (by omega)
            have d2n : decide (i + n < s.size) = true := decide_eq_true h2
            have hx2 : (i : Int) + (n : Int) < (s.size : Int) := by omega
            have hb1 := byteAt_eq h1
            have hb2 := byteAt_eq h2
            generalize byteAt s n = y1 at *
            generalize byteAt s (i + n) = y2 at *
            have e1 : (y1 == y2) = false := by rw [beq_eq_false_iff_ne]; exact h3
            have e2 : ((y1 : Int) == (y2 : Int)) = false := by rw [beq_eq_false_iff_ne]; omega
            have e3 : decide (y1 = y2) = false := decide_eq_false h3
            go_wp2_with fail
            go_quiet (fail)
            generalize hw8 : World.drewN wr _ = w8 at *
            have Z8 := HX.out w8 (by rw [← hw8]; exact kept_drewN (kept_refl _) _)
            clear hw8
            have co := blk_cell Z8.box 0
            have ct := blk_cell Z8.to 0
            have hLc : lcpI s s i = (n : Int) := by unfold lcpI; rw [HLC.out.1]
            have hms := mk_succ i (lcpI s s)
            rw [hLc] at hms
            by_cases hu : e < i + n
            · have d5 : decide ((e : Int) < (i : Int) + (n : Int)) = true := decide_eq_true (by omega)
              have d5n : decide (e < i + n) = true := decide_eq_true hu
              have ff := blk_frozen Z8.frm 0
              have cf := blk_cell Z8.frm 0
              have hto := blk_far Z8.to (p := ⟨bu + 1, 0, none⟩) (by simp) (.int .i64 (i : Nat))
              have ft := blk_frozen hto 0
              have ct2 := blk_cell hto 0
              have Z9 := Z8.far hg0 hgb i ((i : Int) + (n : Int)) (i + n) (by omega)
              have c9 := blk_cell Z9.out 0
              have HZ := Lib.hid (⟨Z9, hms⟩ : _ ∧ _)
              clear Z8 Z9 hms hLc hto
              go_wp2_with (at_builtin; refine app_fit hif1 hy1 rfl rfl rfl rfl (by simp) HZ.out.1.own (by omega) ?_)
              intro w10 own10 hg10
              have own11 : w10.ownsRow w.heap.size 3 1 (.slice (some ⟨g, 0, none⟩) (i + 1) s.size) (i + 1) ((mk (i + 1) (lcpI s s)).map (Value.int .i64)) := by rw [HZ.out.2, List.map_append]; exact own10
              have fo := blk_frozen (HZ.out.1.out2 hgb hg10) 0
              have cw := blk_cell (HZ.out.1.out2 hgb hg10) 0
              have Z10 := HZ.out.1.app hg0 hgb hg10 own11
              have HZ2 := Lib.hid Z10
              clear Z10 own10 own11 hg10 ff ft c9 co ct ct2 cf
              go_wp2_with fail
              exact ⟨⟨i + 1, i, i + n, by omega, by go_num, far_new HG.out hi, by omega, (by first | exact .inl hi0 | omega), HZ2.out⟩, by simp [intOf]; omega⟩
            · have d5 : decide ((e : Int) < (i : Int) + (n : Int)) = false := decide_eq_false (by omega)
              have d5n : decide (e < i + n) = false := decide_eq_false hu
              have c9 := blk_cell Z8.out 0
              have HZ := Lib.hid (⟨Z8, hms⟩ : _ ∧ _)
              clear Z8 hms hLc
              go_wp2_with (at_builtin; refine app_fit hif1 hy1 rfl rfl rfl rfl (by simp) HZ.out.1.own (by omega) ?_)
              intro w10 own10 hg10
              have own11 : w10.ownsRow w.heap.size 3 1 (.slice (some ⟨g, 0, none⟩) (i + 1) s.size) (i + 1) ((mk (i + 1) (lcpI s s)).map (Value.int .i64)) := by rw [HZ.out.2, List.map_append]; exact own10
              have fo := blk_frozen (HZ.out.1.out2 hgb hg10) 0
              have cw := blk_cell (HZ.out.1.out2 hgb hg10) 0
              have Z10 := HZ.out.1.app hg0 hgb hg10 own11
              have HZ2 := Lib.hid Z10
              clear Z10 own10 own11 hg10 c9 co ct
              go_wp2_with fail
              exact ⟨⟨i + 1, f, e, by omega, by go_num, HN2.out.2.1, by omega, HN2.out.2.2.2, HZ2.out⟩, by simp [intOf]; omega⟩
    · obtain rfl : i = s.size := by omega
      have c9 := blk_cell Z.out 0
      have HZ := Lib.hid Z
      clear Z
      go_wp2_with fail
      go_ret
      exact ⟨g, rfl, HZ.out.own, HZ.out.kept⟩
end Go.Proofs.YtdejablhpljdfaaGreat
