/-
  Texts of one claim, joined: TFeed1, TFeed2, TCost1, TMapI, TCost2, TChoose.
-/
import Derived.Test.YtdejablhpljdfaaGreatQ22
import Derived.Test.YtdejablhpljdfaaGreatQ19
namespace Go.Proofs.YtdejablhpljdfaaGreat
open Go.RowKit BG
attribute [local go_sem ↓] Go.wp_at_zero Go.wp_at_succ run_max_at run_min_at
set_option linter.unusedVariables false
theorem rd_newsI {w : World} {ad : Addr} {xs : List Int} (h : Rd .i64 w (some ad) xs) : ∀ j u, (xs.map (Value.int .i64))[j]? = some u → w.cell? (ad.add j) = some u := by
  intro j u hu
  rw [List.getElem?_map] at hu
  by_cases hj : j < xs.length
  · obtain ⟨ad', e, hc⟩ := h.at_ hj
    cases e
    rw [List.getElem?_eq_getElem hj, Option.map_some] at hu
    rw [hc, nth_lt hj]; exact hu
  · rw [List.getElem?_eq_none (by omega)] at hu; cases hu
set_option maxRecDepth 100000 in
set_option maxHeartbeats 2000000 in
theorem cloneI_some (ad : Addr) (cap : Nat) (xs : List Int) (hm : xs.length ≤ 17592186043904) (w : World) (hr : Rd .i64 w (some ad) xs) : Calls Tryz.prog 43 #[.slice (some ad) xs.length cap] w fun e w' => ∃ g c, e = .returned (.slice (some ⟨g, 0, none⟩) xs.length c) ∧ Own .i64 3 w.heap.size w' (.slice (some ⟨g, 0, none⟩) xs.length c) xs ∧ Kept w w' := by
  obtain ⟨i1, hif1, hy0, hy1, hy2⟩ := info_parts info_i64c
  generalize hmm : xs.length = m at *
  have hn := nilI_eq (some ad) m cap w
  have hown : (w.alloc (.cells #[] 3)).ownsRow w.heap.size 3 1 (.slice (some ⟨w.heap.size, 0, none⟩) 0 0) 0 [] := ⟨rfl, .inr ⟨w.heap.size, 0, #[], rfl, Nat.le_refl _, blk_new w _, Nat.le_refl _, by unfold maxLen; omega, rfl, rfl⟩⟩
  have ka := kept_alloc (kept_refl w) (.cells #[] 3)
  have rda := hr.kept ka
  go_enter Tryz.func43, Tryz.ntmps43
  go_wp2_with (at_builtin; refine wpList_append_own _ rfl _ _ 24 rfl w.heap.size 3 i1 _ 1 8 Tryz.underlying24 hif1 hy0 hy1 hy2 rfl (by decide) _ 0 _ rfl hown ad m cap (xs.map (Value.int .i64)) rfl ?c0 (rd_newsI rda) ?c1 ?c2 ?c3 ?c4 ?_)
  case c0 => rw [List.length_map]; omega
  case c1 => intro u hu; obtain ⟨z, _, rfl⟩ := List.mem_map.1 hu; rfl
  case c2 => unfold maxLen; omega
  case c3 => omega
  case c4 => simp
  intro v' w1 o1 hg1 hnil
  have hk := kept_grow ka hg1 (by rintro k h; cases h; exact Nat.le_refl _)
  have hv : ∃ g c, v' = .slice (some ⟨g, 0, none⟩) m c := by
    rcases o1.2 with ⟨h, _⟩ | ⟨g, c, cur, h, _⟩
    · exact (hnil h).elim
    · exact ⟨g, c, h⟩
  obtain ⟨g, c, rfl⟩ := hv
  have HO : Hid (Own .i64 3 w.heap.size w1 (.slice (some ⟨g, 0, none⟩) m c) xs) := by
    refine Lib.hid ?_
    unfold Own
    rw [hmm]
    simpa using o1
  clear hnil hg1 hown rda ka o1
  go_wp2_with fail
  go_ret
  exact ⟨g, c, rfl, HO.out, hk⟩
set_option maxRecDepth 100000 in
set_option maxHeartbeats 1000000 in
theorem cloneI_c (A : Option Addr) (cap : Nat) (xs : List Int) (hm : xs.length ≤ 17592186043904) (w : World) (hA : A = none → xs.length = 0 ∧ cap = 0) (hr : Rd .i64 w A xs) : Calls Tryz.prog 43 #[.slice A xs.length cap] w fun e w' => ∃ B c, e = .returned (.slice B xs.length c) ∧ Own .i64 3 w.heap.size w' (.slice B xs.length c) xs ∧ Kept w w' := by
  cases A with
  | some ad =>
    refine (cloneI_some ad cap xs hm w hr).mono ?_
    rintro e w' ⟨g, c, rfl, h, k⟩
    exact ⟨_, c, rfl, h, k⟩
  | none =>
    obtain ⟨h0, rfl⟩ := hA rfl
    obtain rfl : xs = [] := List.length_eq_zero_iff.1 h0
    have hn := nilI_eq none 0 0 w
    show Calls _ _ #[.slice none 0 0] w _
    go_enter Tryz.func43, Tryz.ntmps43
    go_wp2_with fail
    go_ret
    exact ⟨none, 0, rfl, Own.nil _ _ _ _, kept_refl _⟩
def feedO (t : ByteArray) (P : Option Addr) (m c : Nat) (from_ to_ : Nat) (end_ : Int) : Obj := .cells #[.string t, .slice P m c, .int .i64 (from_ : Nat), .int .i64 (to_ : Nat), .int .i64 end_] 104
def feedTo (t : ByteArray) (fail : Int) : Nat := if 0 ≤ fail ∧ fail ≤ (t.size : Int) then fail.toNat else t.size
def feedEnd (t : ByteArray) (fail : Int) : Int := if 0 ≤ fail ∧ fail ≤ (t.size : Int) then 2 else 1
theorem feedTo_le (t : ByteArray) (fail : Int) : feedTo t fail ≤ t.size := by unfold feedTo; split <;> omega
set_option maxRecDepth 100000 in
set_option maxHeartbeats 4000000 in
theorem feednew_c (t : ByteArray) (A : Option Addr) (cap : Nat) (ys : List Int) (fail : Int) (ht : t.size ≤ 9223372036854775807) (hm : ys.length ≤ 17592186043904) (w : World) (hA : A = none → ys.length = 0 ∧ cap = 0) (hr : Rd .i64 w A ys) : Calls Tryz.prog 16 #[.string t, .slice A ys.length cap, .int .i64 fail] w fun e w' => ∃ B P c, e = .returned (.pointer (some ⟨B, 0, none⟩)) ∧ w.heap.size ≤ B ∧ w'.heap[B]? = some (feedO t P ys.length c 0 (feedTo t fail) (feedEnd t fail)) ∧ Own .i64 3 w.heap.size w' (.slice P ys.length c) ys ∧ Kept w w' := by
  have CL := fun w1 h => cloneI_c A cap ys hm w1 hA h
  have hto : feedTo t fail = if 0 ≤ fail ∧ fail ≤ (t.size : Int) then fail.toNat else t.size := rfl
  have hen : feedEnd t fail = if 0 ≤ fail ∧ fail ≤ (t.size : Int) then 2 else 1 := rfl
  have HT := Lib.hid (⟨hto, hen⟩ : _ ∧ _)
  clear hto hen hA
  generalize feedTo t fail = fto at *
  generalize feedEnd t fail = fen at *
  generalize hmm : ys.length = m at *
  clear hmm
  go_enter Tryz.func16, Tryz.ntmps16
  go_wp2_with fail
  refine (CL _ hr).mono ?_
  rintro e w1 ⟨P, c, rfl, own, hk1⟩
  clear CL
  have hB := blk_new w1 (.cells #[.string t, .slice P m c, .int .i64 0, .int .i64 (t.size : Nat), .int .i64 1] 104)
  have ka := kept_alloc (kept_refl w1) (.cells #[.string t, .slice P m c, .int .i64 0, .int .i64 (t.size : Nat), .int .i64 1] 104)
  have hs1 := hk1.size
  have HO := Lib.hid (⟨own, hk1⟩ : _ ∧ _)
  have c3 := blk_cell hB 3
  have c4 := blk_cell hB 4
  have f3 := blk_frozen hB 3
  have f4 := blk_frozen hB 4
  clear own ka hr hk1 hB
  by_cases hf : 0 ≤ fail ∧ fail ≤ (t.size : Int)
  · obtain ⟨hf1, hf2⟩ := hf
    have hx := HT.out
    rw [if_pos ⟨hf1, hf2⟩, if_pos ⟨hf1, hf2⟩] at hx
    obtain ⟨rfl, rfl⟩ := hx
    obtain ⟨fl, rfl⟩ : ∃ fl : Nat, fail = fl := ⟨fail.toNat, by omega⟩
    have d1 : decide ((0 : Int) ≤ (fl : Int)) = true := decide_eq_true hf1
    have d2 : decide ((fl : Int) ≤ (t.size : Int)) = true := decide_eq_true hf2
    have d2n : decide (fl ≤ t.size) = true := decide_eq_true (by omega)
    clear HT
    go_wp2_with fail
    go_ret
    exact ⟨_, P, c, rfl, hs1, blk_new _ _, HO.out.1.kept (kept_alloc (kept_refl w1) _), kept_alloc HO.out.2 _⟩
  · have hx := HT.out
    rw [if_neg hf, if_neg hf] at hx
    obtain ⟨rfl, rfl⟩ := hx
    by_cases hf1 : 0 ≤ fail
    · have d1 : decide ((0 : Int) ≤ fail) = true := decide_eq_true hf1
      have d2 : decide (fail ≤ (t.size : Int)) = false := decide_eq_false (fun h => hf ⟨hf1, h⟩)
      clear HT hf
      go_wp2_with fail
      go_ret
      exact ⟨_, P, c, rfl, hs1, blk_new _ _, HO.out.1.kept (kept_alloc (kept_refl w1) _), kept_alloc HO.out.2 _⟩
    · have d1 : decide ((0 : Int) ≤ fail) = false := decide_eq_false hf1
      clear HT hf
      go_wp2_with fail
      go_ret
      exact ⟨_, P, c, rfl, hs1, blk_new _ _, HO.out.1.kept (kept_alloc (kept_refl w1) _), kept_alloc HO.out.2 _⟩
end Go.Proofs.YtdejablhpljdfaaGreat
namespace Go.Proofs.YtdejablhpljdfaaGreat
open Go.RowKit BG
attribute [local go_sem ↓] Go.wp_at_zero Go.wp_at_succ run_max_at run_min_at
set_option linter.unusedVariables false
def feedN (ys : List Int) (d : Nat) : Nat := match ys with
  | [] => d
  | y :: _ => (max 0 (min (d : Int) y)).toNat
theorem feedN_le (ys : List Int) (d : Nat) : feedN ys d ≤ d := by
  unfold feedN
  split <;> omega
theorem grown_of_kept {w w1 : World} {row : Option Nat} (h : Kept w w1) : w.grownBy w1 row := ⟨h.os, h.tape, h.output, h.size, fun i hi _ => h.block i hi⟩
theorem Rd.of_nil {k : IntKind} {w w1 : World} {A : Option Addr} (h : Rd k w A []) : Rd k w1 A [] := ⟨h.1, fun h0 => absurd h0 (by simp)⟩
theorem add_next (ad : Addr) (j : Nat) : ad.add (j + 1) = (⟨ad.block, ad.off + 1, none⟩ : Addr).add j := by
  unfold Addr.add
  by_cases h : j = 0
  · subst h; simp
  · simp [h]; omega
def FeedS (t : ByteArray) (ys : List Int) (a b : Nat) (en : Int) (B : Nat) (Y : Nat → Prop) (W : World) : Prop := ∃ P c, W.heap[B]? = some (feedO t P ys.length c a b en) ∧ Rd .i64 W P ys ∧ (∀ ad, P = some ad → Y ad.block) ∧ ys.length ≤ c ∧ c ≤ 9223372036854775807
set_option maxRecDepth 100000 in
set_option maxHeartbeats 4000000 in
theorem feedread_end (t : ByteArray) (ys : List Int) (b : Nat) (en : Int) (B : Nat) (Y : Nat → Prop) (hY : ¬ Y B) (hb : b ≤ t.size) (ht : t.size ≤ 900000) (w : World) (h : FeedS t ys b b en B Y w) : Calls Tryz.prog 44 #[.pointer (some ⟨B, 0, none⟩)] w (Ret (.tuple #[.string ⟨#[]⟩, .int .i64 en]) w) := by
  obtain ⟨P, c, hB, hr, hP, h1, h2⟩ := h
  unfold feedO at hB
  have q2 := blk_cell hB 2
  have q3 := blk_cell hB 3
  have q4 := blk_cell hB 4
  have hBa := blk_alloc hB (.cells #[.int .i64 0, .int .i64 0] 102)
  have p2 := blk_cell hBa 2
  have p3 := blk_cell hBa 3
  go_enter Tryz.func44, Tryz.ntmps44
  go_wp2_with fail
  go_region
  have k1 := kept_drew (kept_alloc (kept_refl w) (.cells #[.int .i64 (b : Nat), .int .i64 (b : Nat)] 102))
  have hB1 := blk_kept k1 hB
  have hS := blk_kept (kept_drew (kept_refl _)) (blk_new w (.cells #[.int .i64 (b : Nat), .int .i64 (b : Nat)] 102))
  generalize (w.alloc (.cells #[.int .i64 (b : Nat), .int .i64 (b : Nat)] 102)).drew = w1 at *
  clear q2 q3 q4 p2 p3 hBa
  have q2 := blk_cell hB1 2
  have q3 := blk_cell hB1 3
  have q4 := blk_cell hB1 4
  have s0 := blk_cell hS 0
  have s1 := blk_cell hS 1
  go_wp2_with fail
  go_quiet (fail)
  have hB2 := blk_kept (kept_drewN (kept_refl w1) nq) hB1
  have q4 := blk_cell hB2 4
  go_wp2_with fail
  go_quiet (fail)
  go_wp2_with fail
  exact bodyPost_ret (v := .tuple #[.string ⟨#[]⟩, .int .i64 en]) (by simp [results, Tryz.results44, go_sem]) rfl ⟨rfl, kept_drewN (kept_drewN k1 _) _⟩
set_option maxRecDepth 100000 in
set_option maxHeartbeats 8000000 in
theorem feedread_nil (t : ByteArray) (a b : Nat) (en : Int) (B : Nat) (Y : Nat → Prop) (hY : ¬ Y B) (hab : a < b) (hb : b ≤ t.size) (ht : t.size ≤ 900000) (w : World) (h : FeedS t [] a b en B Y w) : Calls Tryz.prog 44 #[.pointer (some ⟨B, 0, none⟩)] w fun e w' => e = .returned (.tuple #[.string (t.extract a (a + feedN [] (b - a))), .int .i64 0]) ∧ FeedS t [] (a + feedN [] (b - a)) b en B Y w' ∧ w.grownBy w' (some B) := by
  obtain ⟨P, c, hB, hr, hP, h1, h2⟩ := h
  unfold feedO at hB
  have q2 := blk_cell hB 2
  have q3 := blk_cell hB 3
  have q4 := blk_cell hB 4
  have hBa := blk_alloc hB (.cells #[.int .i64 0, .int .i64 0] 102)
  have p2 := blk_cell hBa 2
  have p3 := blk_cell hBa 3
  obtain ⟨d, hd, hd2⟩ : ∃ d : Nat, (b : Int) - (a : Int) = d ∧ b - a = d := ⟨b - a, by omega, rfl⟩
  rw [hd2]
  have hf : feedN [] d = d := rfl
  rw [hf]
  clear hf
  have n1 : ((a : Int) == (b : Int)) = false := by rw [beq_eq_false_iff_ne]; omega
  have n2 : (a == b) = false := by rw [beq_eq_false_iff_ne]; omega
  have n3 : decide ((a : Int) = (b : Int)) = false := decide_eq_false (by omega)
  have n4 : decide (a = b) = false := decide_eq_false (by omega)
  go_enter Tryz.func44, Tryz.ntmps44
  go_wp2_with fail
  go_region
  have k1 := kept_drew (kept_alloc (kept_refl w) (.cells #[.int .i64 (b : Nat), .int .i64 (b : Nat)] 102))
  have hB1 := blk_kept k1 hB
  have hS := blk_kept (kept_drew (kept_refl _)) (blk_new w (.cells #[.int .i64 (b : Nat), .int .i64 (b : Nat)] 102))
  generalize (w.alloc (.cells #[.int .i64 (b : Nat), .int .i64 (b : Nat)] 102)).drew = w1 at *
  clear q2 q3 q4 p2 p3 hBa
  have q2 := blk_cell hB1 2
  have q3 := blk_cell hB1 3
  have q4 := blk_cell hB1 4
  have s0 := blk_cell hS 0
  have s1 := blk_cell hS 1
  go_wp2_with fail
  go_quiet (fail)
  have k2 := kept_drewN k1 nq
  have hB2 := blk_kept (kept_drewN (kept_refl w1) nq) hB1
  generalize w1.drewN nq = w2 at *
  clear q2 q3 q4 s0 s1 hS hB1
  have q2 := blk_cell hB2 2
  have q3 := blk_cell hB2 3
  go_wp2_with fail
  go_quiet (fail)
  have k3 := kept_drewN k2 nq
  have hB3 := blk_kept (kept_drewN (kept_refl w2) nq) hB2
  generalize w2.drewN nq = w3 at *
  clear q2 q3 hB2 n1 n2 n3 n4
  have r3 := hr.kept k3
  have q0 := blk_cell hB3 0
  have q1 := blk_cell hB3 1
  have q2 := blk_cell hB3 2
  have f1 := blk_frozen hB3 1
  have f2 := blk_frozen hB3 2
  have b2 := blk_set hB3 2 (.int .i64 ((a : Int) + (d : Int)))
  have z0 := blk_cell b2 0
  have hx1 : ((a : Int) + (d : Int)).toNat = a + d := by omega
  have G := setCell_grown w3 ⟨B, 2, none⟩ (.int .i64 ((a : Int) + (d : Int)))
  have HO := Lib.hid (⟨G, b2⟩ : _ ∧ _)
  clear G b2
  go_wp2_with fail
  obtain ⟨G, b2⟩ := HO.out
  exact bodyPost_ret (v := .tuple #[.string (t.extract a (a + d)), .int .i64 0]) (by simp [results, Tryz.results44, go_sem]) rfl ⟨rfl, ⟨P, c, by rw [b2]; simp [feedO], Rd.of_nil r3, hP, h1, h2⟩, grown_trans (grown_of_kept k3) G⟩
set_option maxRecDepth 100000 in
set_option maxHeartbeats 8000000 in
theorem feedread_cons (t : ByteArray) (y : Int) (r : List Int) (a b : Nat) (en : Int) (B : Nat) (Y : Nat → Prop) (hY : ¬ Y B) (hab : a < b) (hb : b ≤ t.size) (ht : t.size ≤ 900000) (w : World) (h : FeedS t (y :: r) a b en B Y w) : Calls Tryz.prog 44 #[.pointer (some ⟨B, 0, none⟩)] w fun e w' => e = .returned (.tuple #[.string (t.extract a (a + feedN (y :: r) (b - a))), .int .i64 0]) ∧ FeedS t r (a + feedN (y :: r) (b - a)) b en B Y w' ∧ w.grownBy w' (some B) := by
  obtain ⟨P, c, hB, hr, hP, h1, h2⟩ := h
  unfold feedO at hB
  have q2 := blk_cell hB 2
  have q3 := blk_cell hB 3
  have q4 := blk_cell hB 4
  have hBa := blk_alloc hB (.cells #[.int .i64 0, .int .i64 0] 102)
  have p2 := blk_cell hBa 2
  have p3 := blk_cell hBa 3
  obtain ⟨d, hd, hd2⟩ : ∃ d : Nat, (b : Int) - (a : Int) = d ∧ b - a = d := ⟨b - a, by omega, rfl⟩
  rw [hd2]
  obtain ⟨n, hn, hn2, hnd⟩ : ∃ n : Nat, max (0 : Int) (min (d : Int) y) = n ∧ feedN (y :: r) d = n ∧ n ≤ d := ⟨(max (0 : Int) (min (d : Int) y)).toNat, by omega, rfl, by omega⟩
  rw [hn2]
  clear hn2
  have n1 : ((a : Int) == (b : Int)) = false := by rw [beq_eq_false_iff_ne]; omega
  have n2 : (a == b) = false := by rw [beq_eq_false_iff_ne]; omega
  have n3 : decide ((a : Int) = (b : Int)) = false := decide_eq_false (by omega)
  have n4 : decide (a = b) = false := decide_eq_false (by omega)
  go_enter Tryz.func44, Tryz.ntmps44
  go_wp2_with fail
  go_region
  have k1 := kept_drew (kept_alloc (kept_refl w) (.cells #[.int .i64 (b : Nat), .int .i64 (b : Nat)] 102))
  have hB1 := blk_kept k1 hB
  have hS := blk_kept (kept_drew (kept_refl _)) (blk_new w (.cells #[.int .i64 (b : Nat), .int .i64 (b : Nat)] 102))
  generalize (w.alloc (.cells #[.int .i64 (b : Nat), .int .i64 (b : Nat)] 102)).drew = w1 at *
  clear q2 q3 q4 p2 p3 hBa
  have q2 := blk_cell hB1 2
  have q3 := blk_cell hB1 3
  have q4 := blk_cell hB1 4
  have s0 := blk_cell hS 0
  have s1 := blk_cell hS 1
  go_wp2_with fail
  go_quiet (fail)
  have k2 := kept_drewN k1 nq
  have hB2 := blk_kept (kept_drewN (kept_refl w1) nq) hB1
  generalize w1.drewN nq = w2 at *
  clear q2 q3 q4 s0 s1 hS hB1
  have q2 := blk_cell hB2 2
  have q3 := blk_cell hB2 3
  go_wp2_with fail
  go_quiet (fail)
  have k3 := kept_drewN k2 nq
  have hB3 := blk_kept (kept_drewN (kept_refl w2) nq) hB2
  generalize w2.drewN nq = w3 at *
  clear q2 q3 hB2 n1 n2 n3 n4
  have r3 := hr.kept k3
  have q0 := blk_cell hB3 0
  have q1 := blk_cell hB3 1
  have q2 := blk_cell hB3 2
  have f1 := blk_frozen hB3 1
  have f2 := blk_frozen hB3 2
  have hlen : (y :: r).length = r.length + 1 := rfl
  obtain ⟨ad, rfl, e0⟩ := r3.at_ (j := 0) (by rw [hlen]; omega)
  have ey : nth (y :: r) 0 = y := rfl
  have ea : ad.add 0 = ad := by unfold Addr.add; split <;> simp_all
  rw [ey, ea] at e0
  rw [hlen] at h1 hB3
  have hx1 : ((a : Int) + (n : Int)).toNat = a + n := by omega
  have RT : Rd .i64 w3 (some ⟨ad.block, ad.off + 1, none⟩) r := ⟨by have := r3.1; rw [hlen] at this; omega, fun h0 => ⟨_, rfl, fun j hj => by
    obtain ⟨ad2, e2, h3⟩ := r3.at_ (j := j + 1) (by rw [hlen]; omega)
    cases e2
    rw [← add_next ad j]
    exact h3⟩⟩
  have hP2 := hP ad rfl
  have hPB : ad.block ≠ B := fun e => hY (e ▸ hP2)
  have HO := Lib.hid (⟨hB3, RT, h1⟩ : _ ∧ _ ∧ _)
  clear RT r3 hP hlen ey ea hr
  go_wp2_with fail
  · obtain ⟨hB3, RT, h1⟩ := HO.out
    obtain rfl : r = [] := List.length_eq_zero_iff.1 (by omega)
    have G1 := setCell_grown w3 ⟨B, 1, none⟩ (.slice (some ad) 0 0)
    have G2 := setCell_grown (w3.setCell ⟨B, 1, none⟩ (.slice (some ad) 0 0)) ⟨B, 2, none⟩ (.int .i64 ((a : Int) + (n : Int)))
    exact bodyPost_ret (v := .tuple #[.string (t.extract a (a + n)), .int .i64 0]) (by simp [results, Tryz.results44, go_sem]) rfl ⟨rfl, ⟨some ad, 0, by have b2 := blk_set (blk_set hB3 1 (.slice (some ad) 0 0)) 2 (.int .i64 ((a : Int) + (n : Int))); exact b2.trans (by simp [feedO]), ⟨by simp, fun h0 => absurd h0 (by simp)⟩, fun ad' e => by cases e; exact hP2, by simp, by omega⟩, grown_trans (grown_of_kept k3) (grown_trans G1 G2)⟩
  · obtain ⟨hB3, RT, h1⟩ := HO.out
    have G1 := setCell_grown w3 ⟨B, 1, none⟩ (.slice (some ⟨ad.block, ad.off + 1, none⟩) r.length (c - 1))
    have G2 := setCell_grown (w3.setCell ⟨B, 1, none⟩ (.slice (some ⟨ad.block, ad.off + 1, none⟩) r.length (c - 1))) ⟨B, 2, none⟩ (.int .i64 ((a : Int) + (n : Int)))
    exact bodyPost_ret (v := .tuple #[.string (t.extract a (a + n)), .int .i64 0]) (by simp [results, Tryz.results44, go_sem]) rfl ⟨rfl, ⟨some ⟨ad.block, ad.off + 1, none⟩, c - 1, by have b2 := blk_set (blk_set hB3 1 (.slice (some ⟨ad.block, ad.off + 1, none⟩) r.length (c - 1))) 2 (.int .i64 ((a : Int) + (n : Int))); exact b2.trans (by simp [feedO]), rd_grown RT (grown_trans G1 G2) (fun ad' e h => by cases e; exact hPB (Option.some.inj h)), fun ad' e => by cases e; exact hP2, by omega, by omega⟩, grown_trans (grown_of_kept k3) (grown_trans G1 G2)⟩
end Go.Proofs.YtdejablhpljdfaaGreat
namespace Go.Proofs.YtdejablhpljdfaaGreat
open Go.RowKit BG
attribute [local go_sem ↓] Go.wp_at_zero Go.wp_at_succ run_max_at run_min_at
set_option linter.unusedVariables false
def Some1 (w : World) (e : Ending) (w' : World) : Prop := ∃ c : Int, e = .returned (.int .i64 c) ∧ Kept w w'
set_option maxRecDepth 100000 in
set_option maxHeartbeats 1000000 in
theorem cost1_c (bm : Nat) (xm : Int) (bn : Nat) (xn : Int) (w : World) (hm : w.cell? ⟨bm, 0, none⟩ = some (.int .i64 xm)) (hn : w.cell? ⟨bn, 0, none⟩ = some (.int .i64 xn)) : Calls Tryz.prog 242 #[.pointer (some ⟨bm, 0, none⟩), .pointer (some ⟨bn, 0, none⟩)] w (Some1 w) := by
  unfold Some1
  go_enter Tryz.func242, Tryz.ntmps242
  go_wp2_with fail
  go_ret
  exact ⟨_, rfl, kept_refl _⟩
set_option maxRecDepth 100000 in
set_option maxHeartbeats 1000000 in
theorem cost2_c (bn : Nat) (xn : Int) (bm : Nat) (xm : Int) (w : World) (hn : w.cell? ⟨bn, 0, none⟩ = some (.int .i64 xn)) (hm : w.cell? ⟨bm, 0, none⟩ = some (.int .i64 xm)) : Calls Tryz.prog 243 #[.pointer (some ⟨bn, 0, none⟩), .pointer (some ⟨bm, 0, none⟩)] w (Some1 w) := by
  unfold Some1
  go_enter Tryz.func243, Tryz.ntmps243
  go_wp2_with fail
  go_ret
  exact ⟨_, rfl, kept_refl _⟩
set_option maxRecDepth 100000 in
set_option maxHeartbeats 1000000 in
theorem cost3_c (bx : Nat) (xx : Int) (bn : Nat) (xn : Int) (w : World) (hx : w.cell? ⟨bx, 0, none⟩ = some (.int .i64 xx)) (hn : w.cell? ⟨bn, 0, none⟩ = some (.int .i64 xn)) : Calls Tryz.prog 244 #[.pointer (some ⟨bx, 0, none⟩), .pointer (some ⟨bn, 0, none⟩)] w (Some1 w) := by
  unfold Some1
  go_enter Tryz.func244, Tryz.ntmps244
  go_wp2_with fail
  go_ret
  exact ⟨_, rfl, kept_refl _⟩
set_option maxRecDepth 100000 in
set_option maxHeartbeats 1000000 in
theorem cost5_c (bx : Nat) (xx : Int) (bn : Nat) (xn : Int) (bf : Nat) (xf : Int) (bp : Nat) (xp : Int) (w : World) (hx : w.cell? ⟨bx, 0, none⟩ = some (.int .i64 xx)) (hn : w.cell? ⟨bn, 0, none⟩ = some (.int .i64 xn)) (hf : w.cell? ⟨bf, 0, none⟩ = some (.int .i64 xf)) (hp : w.cell? ⟨bp, 0, none⟩ = some (.int .i64 xp)) : Calls Tryz.prog 246 #[.pointer (some ⟨bx, 0, none⟩), .pointer (some ⟨bn, 0, none⟩), .pointer (some ⟨bf, 0, none⟩), .pointer (some ⟨bp, 0, none⟩)] w (Some1 w) := by
  unfold Some1
  go_enter Tryz.func246, Tryz.ntmps246
  go_wp2_with fail
  go_ret
  exact ⟨_, rfl, kept_refl _⟩
set_option maxRecDepth 100000 in
set_option maxHeartbeats 2000000 in
theorem cost4_c (bx bn bl : Nat) (xx xn : Int) (A : Option Addr) (cap n : Nat) (xs : List Int) (K : Int) (hu : U64 xs) (hl : xs.length = 4 * n) (hn : n ≤ 1000000) (w : World) (hr : Rd .u64 w A xs) (hx : w.cell? ⟨bx, 0, none⟩ = some (.int .i64 xx)) (hnn : w.cell? ⟨bn, 0, none⟩ = some (.int .i64 xn)) (h0 : w.cell? ⟨bl, 0, none⟩ = some (.slice A n cap)) (h1 : w.cell? ⟨bl, 1, none⟩ = some (.int .i64 K)) : Calls Tryz.prog 245 #[.pointer (some ⟨bx, 0, none⟩), .pointer (some ⟨bn, 0, none⟩), .pointer (some ⟨bl, 0, none⟩)] w (Some1 w) := by
  have KN := fun w1 h => lkinds_c A cap n xs K hu hl hn w1 h
  have kr := kept_refl w
  have hkl := kindsC_le xs n
  have hfl := flatC_length (kindsC xs n)
  unfold Some1
  go_enter Tryz.func245, Tryz.ntmps245
  go_wp2_with fail
  go_region_held3 (fun w' => w'.cell? ⟨bx, 0, none⟩ = some (.int .i64 xx) ∧ w'.cell? ⟨bn, 0, none⟩ = some (.int .i64 xn) ∧ w'.cell? ⟨bl, 0, none⟩ = some (.slice A n cap) ∧ w'.cell? ⟨bl, 1, none⟩ = some (.int .i64 K)) (first | exact ⟨by assumption, by assumption, by assumption, by assumption⟩ | exact ⟨kept_cell hk1 hx, kept_cell hk1 hnn, kept_cell hk1 h0, kept_cell hk1 h1⟩) (first | (go_at_call 197; refine (KN _ (hr.kept (kept_drew kr))).mono ?_; rintro e w1 ⟨v1, rfl, own1, hk1⟩; replace hk1 := kept_trans (kept_drew kr) hk1; obtain ⟨A1, cp1, rfl, -, -⟩ := ownN_rd own1 hfl (by omega)))
  go_wp2_with fail
  go_ret
  exact ⟨_, rfl, hk1⟩
end Go.Proofs.YtdejablhpljdfaaGreat
namespace Go.Proofs.YtdejablhpljdfaaGreat
open Go.RowKit BG
set_option linter.unusedVariables false
def IMap (w : World) (g : Nat) (l : List (Int × Value)) : Prop := ∃ es clk, w.heap[g]? = some (.map es clk) ∧ es.toList.map (fun e => (e.key, e.val)) = l.map fun p => (Value.int .i64 p.1, p.2)
theorem IMap.kept {w w1 : World} {g : Nat} {l : List (Int × Value)} (h : IMap w g l) (hk : Kept w w1) : IMap w1 g l := by obtain ⟨es, clk, h, r⟩ := h; exact ⟨es, clk, blk_kept hk h, r⟩
theorem IMap.grown {w w1 : World} {g : Nat} {l : List (Int × Value)} {row : Option Nat} (h : IMap w g l) (hg : w.grownBy w1 row) (hne : some g ≠ row) : IMap w1 g l := by obtain ⟨es, clk, h, r⟩ := h; exact ⟨es, clk, grown_blk hg h hne, r⟩
theorem IMap.new (w : World) : IMap (w.alloc (.map #[] 0)) w.heap.size [] := ⟨#[], 0, blk_new w _, rfl⟩
def atI (l : List (Int × Value)) (k : Int) : Option Value := (l.find? fun p => p.1 == k).map fun p => p.2
theorem findNow_int (k : Int) : ∀ (es : List MapEntry) (l : List (Int × Value)) (i : Nat), es.map (fun e => (e.key, e.val)) = l.map (fun p => (Value.int .i64 p.1, p.2)) → ∃ r, Instr.findNow (.int .i64) (.int .i64 k) es i = some r ∧ r.map (fun x => x.2) = atI l k
  | [], [], i, _ => ⟨none, rfl, rfl⟩
  | [], _ :: _, _, h => by simp at h
  | _ :: _, [], _, h => by simp at h
  | e :: es, p :: l, i, h => by
    simp only [List.map_cons, List.cons.injEq, Prod.mk.injEq] at h
    obtain ⟨⟨h1, h2⟩, h3⟩ := h
    obtain ⟨c, v⟩ := p
    dsimp only at h1 h2
    unfold Instr.findNow
    rw [h1]
    by_cases hb : k = c
    · subst hb
      exact ⟨some (i, e.val), by simp [Instr.sameNow], by simp [atI, h2]⟩
    · obtain ⟨r, hr, hor⟩ := findNow_int k es l (i + 1) h3
      have hbc : (k == c) = false := by simpa using hb
      have hcb : (c == k) = false := by simpa using fun e => hb e.symm
      refine ⟨r, by simp [Instr.sameNow, hbc, hr], ?_⟩
      rw [hor]
      simp [atI, hcb]
theorem findKey_int {w : World} {es : List MapEntry} {l : List (Int × Value)} (k : Int) (he : es.map (fun e => (e.key, e.val)) = l.map (fun p => (Value.int .i64 p.1, p.2))) :
    ∃ r, (Instr.findKey 3 (.int .i64 k) es).run Tryz.prog w = .ok r w ∧ r.map (fun x => x.2) = atI l k := by
  obtain ⟨r, hr, hor⟩ := findNow_int k es l 0 he
  refine ⟨r, ?_, hor⟩
  unfold Instr.findKey
  simp only [Sem.run_bind, run_underlying Tryz.underlying3, Result.andThen_ok, hr]
  rfl
section
variable {T e : TypeId} (hT : Tryz.prog.underlying T = some (.map 3 e))
include hT
theorem lookup_int {w : World} {g : Nat} {l : List (Int × Value)} (h : IMap w g l) {k : Int} {v : Value} (hv : atI l k = some v) : (Instr.lookup T (.map (some g)) (.int .i64 k) false).run Tryz.prog w = .ok v w := by
  obtain ⟨es, clk, hm, he⟩ := h
  obtain ⟨r, hr, hor⟩ := findKey_int (w := w) k he
  have hck := checkKey_int es.isEmpty 9999 3 .i64 Tryz.underlying3 k w
  rw [hv] at hor
  obtain ⟨⟨j, u⟩, rfl, hu⟩ := Option.map_eq_some_iff.1 hor
  dsimp only at hu
  subst hu
  unfold Instr.lookup
  simp only [Sem.run_bind, run_underlying hT, Result.andThen_ok, MapKept.run_getObj_map hm, hck, hr, Sem.run_pure]
  rfl
theorem update_int {w : World} {g : Nat} {l : List (Int × Value)} (h : IMap w g l) {k : Int} (hk : atI l k = none) (v : Value) : ∃ w1, (Instr.mapUpdate T (.map (some g)) (.int .i64 k) v).run Tryz.prog w = .ok () w1 ∧ IMap w1 g (l ++ [(k, v)]) ∧ w.grownBy w1 (some g) := by
  obtain ⟨es, clk, hm, he⟩ := h
  obtain ⟨r, hr, hor⟩ := findKey_int (w := w) k he
  have hck := checkKey_int false 9999 3 .i64 Tryz.underlying3 k w
  have hG : ∀ es' clk', w.grownBy (ChangeMaps.setBlock w g (.map es' clk')) (some g) := fun es' clk' => ⟨rfl, rfl, rfl, by simp [ChangeMaps.setBlock], fun i _ hi => ChangeMaps.heap_setBlock_other hm _ (fun e => hi (by rw [e]))⟩
  rw [hk] at hor
  obtain rfl := Option.map_eq_none_iff.1 hor
  refine ⟨ChangeMaps.setBlock w g (.map (es.push { key := .int .i64 k, val := v, born := clk }) (clk + 1)), ?_, ⟨_, _, ChangeMaps.heap_setBlock_same hm _, ?_⟩, hG _ _⟩
  · unfold Instr.mapUpdate
    simp only [Sem.run_bind, run_underlying hT, Result.andThen_ok, MapKept.run_getObj_map hm, hck, hr]
    exact MapKept.run_setObj_map _ hm
  · rw [Array.toList_push, List.map_append, he, List.map_append]; rfl
theorem wpList_insert_int {ops : Array Oper} {rest : List Oper} {o : Oper} {a : Act} {Q : Exit → Act → World → Prop} {w : World} {g : Nat} {l : List (Int × Value)} {m x y : Operand} (k : Int) {v : Value} (hg : o.guard = none) (ho : o.op = Op.insert T m x y)
    (hm : a.eval m = .map (some g)) (hx : a.eval x = .int .i64 k) (hy : a.eval y = v) (h : IMap w g l) (hk : atI l k = none) (hK : ∀ w1, IMap w1 g (l ++ [(k, v)]) → w.grownBy w1 (some g) → wpList Tryz.prog ops Q rest (a.put o.dst undef) w1) : wpList Tryz.prog ops Q (o :: rest) a w := by
  refine wpList_plain hg fun K hK' => ?_
  obtain ⟨w1, hr, h1, h2⟩ := update_int hT h hk v
  unfold Oper.wp
  simp [execOp, ho, hm, hx, hy, hr, Result.andThen]
  exact hK' _ _ (hK w1 h1 h2)
theorem wpList_lookup_int {ops : Array Oper} {rest : List Oper} {o : Oper} {a : Act} {Q : Exit → Act → World → Prop} {w : World} {g : Nat} {l : List (Int × Value)} {m x : Operand} {k : Int} {v : Value} (hg : o.guard = none) (ho : o.op = Op.lookup T m x false)
    (hm : a.eval m = .map (some g)) (hx : a.eval x = .int .i64 k) (h : IMap w g l) (hv : atI l k = some v) (hK : wpList Tryz.prog ops Q rest (a.put o.dst v) w) : wpList Tryz.prog ops Q (o :: rest) a w := by
  refine wpList_plain hg fun K hK' => ?_
  unfold Oper.wp
  simp [execOp, ho, hm, hx, lookup_int hT h hv, Result.andThen]
  exact hK' _ _ hK
end
end Go.Proofs.YtdejablhpljdfaaGreat
namespace Go.Proofs.YtdejablhpljdfaaGreat
open Go.RowKit BG
attribute [local go_sem ↓] Go.wp_at_zero Go.wp_at_succ run_max_at run_min_at
set_option linter.unusedVariables false
set_option maxRecDepth 100000 in
set_option maxHeartbeats 4000000 in
theorem pcost_c (way : Nat) (hw : way ≤ 5) (A : Option Addr) (cap n : Nat) (xs : List Int) (K : Int) (hu : U64 xs) (hl : xs.length = 4 * n) (hn : n ≤ 1000000) (N size : Int) (w : World) (hr : Rd .u64 w A xs) : Calls Tryz.prog 225 #[.int .i64 (way : Int), leafV A n cap K, .int .i64 N, .int .i64 size] w fun e w' => ∃ c : Int, e = .returned (.tuple #[.int .i64 c, .bool (sizedv way xs n K N size)]) ∧ Kept w w' := by
  have SZ := fun w1 h => psized_c way hw A cap n xs K hu hl hn N size w1 h
  have LG := fun w1 => log_c size w1
  have CT := fun m n w1 => count_c m n size w1
  have PT := fun w1 h => parts_c A cap n xs K hu hl hn w1 h
  have hb := blk_alloc (blk_new w (.cells #[.slice A n cap, .int .i64 K] 61)) (.cells #[.int .i64 N] 3)
  have hbn := blk_new1 w (.cells #[.slice A n cap, .int .i64 K] 61) (.cells #[.int .i64 N] 3)
  have ka := kept_alloc (kept_alloc (kept_refl w) (.cells #[.slice A n cap, .int .i64 K] 61)) (.cells #[.int .i64 N] 3)
  have c0 := blk_cell hb 0
  have c1 := blk_cell hb 1
  have c2 := blk_cell hbn 0
  have hmm := @run_makeMap Tryz.prog
  unfold Ltuple at LG
  have hw0 : sizedv way xs n K N size = true → way = 1 ∨ way = 2 ∨ way = 3 ∨ way = 4 ∨ way = 5 := fun h => by
    rcases Nat.eq_zero_or_pos way with rfl | h1
    · simp [sizedv, admitsv] at h
    · omega
  have HW := Lib.hid hw0
  clear hw0
  generalize sizedv way xs n K N size = z at *
  go_enter Tryz.func225, Tryz.ntmps225
  go_wp2_with fail
  refine (SZ _ (hr.kept ka)).mono ?_
  rintro e w1 ⟨rfl, hk1⟩
  replace hb := blk_kept hk1 hb
  replace hbn := blk_kept hk1 hbn
  replace ka := kept_trans ka hk1
  replace c0 := blk_cell hb 0
  replace c1 := blk_cell hb 1
  replace c2 := blk_cell hbn 0
  have f2 := blk_frozen hbn 0
  clear SZ hk1
  cases z
  · go_wp2_with fail
    exact bodyPost_ret (v := .tuple #[.int .i64 0, .bool false]) (by simp [results, Tryz.results225, go_sem]) rfl ⟨0, rfl, ka⟩
  · have hM := blk_set hbn 0 (.int .i64 (min N 100000))
    have G1 := setCell_grown w1 ⟨w.heap.size + 1, 0, none⟩ (.int .i64 (min N 100000))
    have hbs := grown_blk G1 hb (by simp)
    have k2 := kept_grow ka G1 (by rintro k h; cases h; show w.heap.size ≤ w.heap.size + 1; omega)
    have hb2 := blk_alloc hbs (.cells #[.int .i64 (n : Nat)] 3)
    have hn2 := blk_alloc hM (.cells #[.int .i64 (n : Nat)] 3)
    have hm2 := blk_new (w1.setCell ⟨w.heap.size + 1, 0, none⟩ (.int .i64 (min N 100000))) (.cells #[.int .i64 (n : Nat)] 3)
    have k3 := kept_alloc k2 (.cells #[.int .i64 (n : Nat)] 3)
    have hsz : (w1.setCell ⟨w.heap.size + 1, 0, none⟩ (.int .i64 (min N 100000))).heap.size = w1.heap.size := by simp
    rw [hsz] at hm2
    have a0 := blk_cell hb2 0
    have a1 := blk_cell hb2 1
    have a2 := blk_cell hn2 0
    have a3 := blk_cell hm2 0
    have HZ := Lib.hid (⟨hb2, hn2, hm2, k3⟩ : _ ∧ _ ∧ _ ∧ _)
    clear hb2 hn2 hm2 k3 k2 hbs hM G1 hsz
    by_cases hmn : min N 100000 < (n : Int)
    · have d1 : decide (min N 100000 < (n : Int)) = true := decide_eq_true hmn
      go_wp2_with fail
      exact bodyPost_ret (v := .tuple #[.int .i64 0, .bool true]) (by simp [results, Tryz.results225, go_sem]) rfl ⟨0, rfl, HZ.out.2.2.2⟩
    · have d1 : decide (min N 100000 < (n : Int)) = false := decide_eq_false hmn
      go_wp2_with fail
      refine (LG _).mono ?_
      rintro e w3 ⟨rfl, hk3⟩
      obtain ⟨hb2, hn2, hm2, k3⟩ := HZ.out
      replace hb2 := blk_kept hk3 hb2
      replace hn2 := blk_kept hk3 hn2
      replace hm2 := blk_kept hk3 hm2
      replace k3 := kept_trans k3 hk3
      generalize w1.heap.size = bm at *
      have a0 := blk_cell hb2 0
      have a1 := blk_cell hb2 1
      have a2 := blk_cell hn2 0
      have a3 := blk_cell hm2 0
      clear LG HZ hk3
      go_wp2_with fail
      refine (CT _ _ _).mono ?_
      rintro e w4 ⟨rfl, hk4⟩
      replace hb2 := blk_kept hk4 hb2
      replace hn2 := blk_kept hk4 hn2
      replace hm2 := blk_kept hk4 hm2
      replace k3 := kept_trans k3 hk4
      have hr4 := hr.kept k3
      replace a0 := blk_cell hb2 0
      replace a1 := blk_cell hb2 1
      clear CT hk4 a2 a3
      generalize countv _ _ _ = cv at *
      generalize hasLog size = hlg at *
      generalize lgv size = lg at *
      have hb4 := blk_alloc hb2 (.cells #[.int .i64 (wrap64 (wrap64 (cv * size) * wrap64 ((lg : Int) + 1)))] 3)
      have hn4 := blk_alloc hn2 (.cells #[.int .i64 (wrap64 (wrap64 (cv * size) * wrap64 ((lg : Int) + 1)))] 3)
      have hm4 := blk_alloc hm2 (.cells #[.int .i64 (wrap64 (wrap64 (cv * size) * wrap64 ((lg : Int) + 1)))] 3)
      have hx4 := blk_new w4 (.cells #[.int .i64 (wrap64 (wrap64 (cv * size) * wrap64 ((lg : Int) + 1)))] 3)
      have k4 := kept_alloc k3 (.cells #[.int .i64 (wrap64 (wrap64 (cv * size) * wrap64 ((lg : Int) + 1)))] 3)
      replace a0 := blk_cell hb4 0
      replace a1 := blk_cell hb4 1
      have hr5 := hr.kept k4
      go_wp2_with fail
      generalize wrap64 (wrap64 (cv * size) * wrap64 ((lg : Int) + 1)) = xv at *
      refine (PT _ hr5).mono ?_
      rintro e w5 ⟨rfl, hk5⟩
      replace hb4 := blk_kept hk5 hb4
      replace hn4 := blk_kept hk5 hn4
      replace hm4 := blk_kept hk5 hm4
      replace hx4 := blk_kept hk5 hx4
      replace k4 := kept_trans k4 hk5
      generalize w4.heap.size = bx at *
      generalize partsF xs n (kindsC xs n) = pf at *
      generalize partsP xs n (kindsC xs n) = pp at *
      clear PT hk5 a0 a1 hb2 hn2 hm2 hr4 hr5
      have k6 := kept_alloc (kept_alloc (kept_refl w5) (.cells #[.int .i64 (pf : Nat)] 3)) (.cells #[.int .i64 (pp : Nat)] 3)
      have hp1 := blk_alloc (blk_new w5 (.cells #[.int .i64 (pf : Nat)] 3)) (.cells #[.int .i64 (pp : Nat)] 3)
      have hp2 := blk_new1 w5 (.cells #[.int .i64 (pf : Nat)] 3) (.cells #[.int .i64 (pp : Nat)] 3)
      have lm := blk_lt hm4
      have lx := blk_lt hx4
      have lb := blk_lt hb4
      have ln := blk_lt hn4
      have hM := IMap.new ((w5.alloc (.cells #[.int .i64 (pf : Nat)] 3)).alloc (.cells #[.int .i64 (pp : Nat)] 3))
      have k7 := kept_alloc k6 (.map #[] 0)
      rw [show ((w5.alloc (.cells #[.int .i64 (pf : Nat)] 3)).alloc (.cells #[.int .i64 (pp : Nat)] 3)).heap.size = w5.heap.size + 1 + 1 by simp] at hM
      have hp1 := blk_alloc hp1 (.map #[] 0)
      have hp2 := blk_alloc hp2 (.map #[] 0)
      have hws := k4.size
      generalize hW : ((w5.alloc (.cells #[.int .i64 (pf : Nat)] 3)).alloc (.cells #[.int .i64 (pp : Nat)] 3)).alloc (.map #[] 0) = w6 at hM k7 hp1 hp2
      replace hb4 := blk_kept k7 hb4
      replace hn4 := blk_kept k7 hn4
      replace hm4 := blk_kept k7 hm4
      replace hx4 := blk_kept k7 hx4
      have l1 := blk_lt hb4
      replace k7 := kept_trans k4 k7
      subst hW
      clear k6 k4
      go_wp2_with (refine wpList_insert_int Tryz.underlying275 1 rfl rfl rfl rfl rfl hM (by rfl) ?_)
      intro v1 hM1 hg1
      clear hmm
      go_wp2_with (refine wpList_insert_int Tryz.underlying275 2 rfl rfl rfl rfl rfl hM1 (by rfl) ?_)
      intro v2 hM2 hg2
      clear hM1
      go_wp2_with (refine wpList_insert_int Tryz.underlying275 3 rfl rfl rfl rfl rfl hM2 (by rfl) ?_)
      intro v3 hM3 hg3
      clear hM2
      go_wp2_with (refine wpList_insert_int Tryz.underlying275 4 rfl rfl rfl rfl rfl hM3 (by rfl) ?_)
      intro v4 hM4 hg4
      clear hM3
      go_wp2_with (refine wpList_insert_int Tryz.underlying275 5 rfl rfl rfl rfl rfl hM4 (by rfl) ?_)
      intro v5 hM5 hg5
      clear hM4
      have G := grown_trans hg1 (grown_trans hg2 (grown_trans hg3 (grown_trans hg4 hg5)))
      clear hg1 hg2 hg3 hg4 hg5
      have hb5 := grown_blk G hb4 (fun e => by have := Option.some.inj e; omega)
      have hn5 := grown_blk G hn4 (fun e => by have := Option.some.inj e; omega)
      have hm5 := grown_blk G hm4 (fun e => by have := Option.some.inj e; omega)
      have hx5 := grown_blk G hx4 (fun e => by have := Option.some.inj e; omega)
      have hp5 := grown_blk G hp1 (fun e => by have := Option.some.inj e; omega)
      have hp6 := grown_blk G hp2 (fun e => by have := Option.some.inj e; omega)
      have k8 := kept_grow k7 G (by rintro k h; cases h; omega)
      have b0 := blk_cell hb5 0
      have b1 := blk_cell hb5 1
      have b2 := blk_cell hn5 0
      have b3 := blk_cell hm5 0
      have b4 := blk_cell hx5 0
      have b5 := blk_cell hp5 0
      have b6 := blk_cell hp6 0
      have hr8 := hr.kept k8
      have C1 := cost1_c _ _ _ _ v5 b3 b2
      have C2 := cost2_c _ _ _ _ v5 b2 b3
      have C3 := cost3_c _ _ _ _ v5 b4 b2
      have C4 := cost4_c _ _ _ _ _ A cap n xs K hu hl hn v5 hr8 b4 b2 b0 b1
      have C5 := cost5_c _ _ _ _ _ _ _ _ v5 b4 b2 b5 b6
      unfold Some1 at C1 C2 C3 C4 C5
      rcases HW.out (by first | rfl | trivial) with rfl | rfl | rfl | rfl | rfl
      · go_wp2_with (at_lookup; refine wpList_lookup_int Tryz.underlying275 rfl rfl rfl rfl hM5 (by rfl) ?_)
        go_wp2_with fail
        refine C1.mono ?_
        rintro e w9 ⟨c, rfl, hk9⟩
        go_wp2_with fail
        exact bodyPost_ret (v := .tuple #[.int .i64 c, .bool true]) (by simp [results, Tryz.results225, go_sem]) rfl ⟨c, rfl, kept_trans k8 hk9⟩
      · go_wp2_with (at_lookup; refine wpList_lookup_int Tryz.underlying275 rfl rfl rfl rfl hM5 (by rfl) ?_)
        go_wp2_with fail
        refine C2.mono ?_
        rintro e w9 ⟨c, rfl, hk9⟩
        go_wp2_with fail
        exact bodyPost_ret (v := .tuple #[.int .i64 c, .bool true]) (by simp [results, Tryz.results225, go_sem]) rfl ⟨c, rfl, kept_trans k8 hk9⟩
      · go_wp2_with (at_lookup; refine wpList_lookup_int Tryz.underlying275 rfl rfl rfl rfl hM5 (by rfl) ?_)
        go_wp2_with fail
        refine C3.mono ?_
        rintro e w9 ⟨c, rfl, hk9⟩
        go_wp2_with fail
        exact bodyPost_ret (v := .tuple #[.int .i64 c, .bool true]) (by simp [results, Tryz.results225, go_sem]) rfl ⟨c, rfl, kept_trans k8 hk9⟩
      · go_wp2_with (at_lookup; refine wpList_lookup_int Tryz.underlying275 rfl rfl rfl rfl hM5 (by rfl) ?_)
        go_wp2_with fail
        refine C4.mono ?_
        rintro e w9 ⟨c, rfl, hk9⟩
        go_wp2_with fail
        exact bodyPost_ret (v := .tuple #[.int .i64 c, .bool true]) (by simp [results, Tryz.results225, go_sem]) rfl ⟨c, rfl, kept_trans k8 hk9⟩
      · go_wp2_with (at_lookup; refine wpList_lookup_int Tryz.underlying275 rfl rfl rfl rfl hM5 (by rfl) ?_)
        go_wp2_with fail
        refine C5.mono ?_
        rintro e w9 ⟨c, rfl, hk9⟩
        go_wp2_with fail
        exact bodyPost_ret (v := .tuple #[.int .i64 c, .bool true]) (by simp [results, Tryz.results225, go_sem]) rfl ⟨c, rfl, kept_trans k8 hk9⟩
end Go.Proofs.YtdejablhpljdfaaGreat
namespace Go.Proofs.YtdejablhpljdfaaGreat
open Go.RowKit BG
attribute [local go_sem ↓] Go.wp_at_zero Go.wp_at_succ run_max_at run_min_at
set_option linter.unusedVariables false
def Chosen (sz : Nat → Bool) (k : Nat) : Prop := k ≤ 5 ∧ (k = 0 ∨ sz k = true) ∧ (k = 0 → ∀ j, 1 ≤ j → j ≤ 5 → sz j = false)
set_option maxRecDepth 100000 in
set_option maxHeartbeats 4000000 in
theorem choose_c (A : Option Addr) (cap n : Nat) (xs : List Int) (K : Int) (hu : U64 xs) (hl : xs.length = 4 * n) (hn : n ≤ 1000000) (N size : Int) (w : World) (hr : Rd .u64 w A xs) : Calls Tryz.prog 181 #[leafV A n cap K, .int .i64 N, .int .i64 size] w fun e w' => ∃ k : Nat, e = .returned (.int .i64 (k : Nat)) ∧ Chosen (fun j => sizedv j xs n K N size) k ∧ Kept w w' := by
  have CO := fun way hw w1 h => pcost_c way hw A cap n xs K hu hl hn N size w1 h
  have hb := blk_new w (.cells #[.slice A n cap, .int .i64 K] 61)
  have ka := kept_alloc (kept_refl w) (.cells #[.slice A n cap, .int .i64 K] 61)
  generalize hsz : (fun j => sizedv j xs n K N size) = sz at *
  have hsj : ∀ j, sizedv j xs n K N size = sz j := fun j => by rw [← hsz]
  simp only [hsj] at CO
  clear hsz hsj
  go_enter Tryz.func181, Tryz.ntmps181
  go_wp2_with fail
  go_loopw [7, 8, 9] (fun bv lv wv wr => ∃ (q b : Nat) (c : Int), q ≤ 6 ∧ 1 ≤ q ∧ wv = .int .i64 q ∧ bv = .int .i64 b ∧ lv = .int .i64 c ∧ Hid (b < q ∧ (b = 0 ∨ sz b = true) ∧ (b = 0 → ∀ j, 1 ≤ j → j < q → sz j = false)) ∧ wr.heap[w.heap.size]? = some (.cells #[.slice A n cap, .int .i64 K] 61) ∧ Kept w wr) (fun _ _ wv _ => 6 - (intOf wv).toNat)
  case atStart => exact ⟨1, 0, 0, by omega, by omega, rfl, rfl, rfl, ⟨by omega, .inl rfl, fun _ j h1 h2 => by omega⟩, hb, ka⟩
  case round =>
    clear hb ka
    obtain ⟨q, b, c, hq, hq1, rfl, rfl, rfl, HI, hb, hk⟩ := hrel
    by_cases hlt : q ≤ 5
    · have d0 : decide ((q : Int) ≤ 5) = true := decide_eq_true (by omega)
      have d0n : decide (q ≤ 5) = true := decide_eq_true hlt
      have c0 := blk_cell hb 0
      have c1 := blk_cell hb 1
      have CQ := CO q hlt wr (hr.kept hk)
      clear CO
      generalize hz : sz q = z at *
      have HZ := Lib.hid hz
      clear hz
      go_wp2_with fail
      refine CQ.mono ?_
      rintro e w1 ⟨c2, rfl, hk1⟩
      replace hb := blk_kept hk1 hb
      replace hk := kept_trans hk hk1
      clear CQ c0 c1 hk1
      cases z
      · go_wp2_with fail
        exact ⟨⟨q + 1, b, c, by omega, by omega, by go_num, rfl, rfl, ⟨by have := HI.out.1; omega, HI.out.2.1, fun h j h1 h2 => by
          rcases Nat.lt_or_ge j q with h3 | h3
          · exact HI.out.2.2 h j h1 h3
          · obtain rfl : j = q := by omega
            exact HZ.out⟩, hb, hk⟩, by simp [intOf]; omega⟩
      · by_cases hb0 : b = 0
        · subst hb0
          go_wp2_with fail
          exact ⟨⟨q + 1, q, c2, by omega, by omega, by go_num, rfl, rfl, ⟨by omega, .inr HZ.out, fun h => by omega⟩, hb, hk⟩, by simp [intOf]; omega⟩
        · have e1 : ((b : Int) == 0) = false := by rw [beq_eq_false_iff_ne]; omega
          have e2 : decide (b = 0) = false := decide_eq_false hb0
          have e3 : (b == 0) = false := by rw [beq_eq_false_iff_ne]; exact hb0
          by_cases hcc : c2 < c
          · have d1 : decide (c2 < c) = true := decide_eq_true hcc
            go_wp2_with fail
            exact ⟨⟨q + 1, q, c2, by omega, by omega, by go_num, rfl, rfl, ⟨by omega, .inr HZ.out, fun h => by omega⟩, hb, hk⟩, by simp [intOf]; omega⟩
          · have d1 : decide (c2 < c) = false := decide_eq_false hcc
            go_wp2_with fail
            exact ⟨⟨q + 1, b, c, by omega, by omega, by go_num, rfl, rfl, ⟨by have := HI.out.1; omega, HI.out.2.1, fun h => absurd h hb0⟩, hb, hk⟩, by simp [intOf]; omega⟩
    · have d0 : decide ((q : Int) ≤ 5) = false := decide_eq_false (by omega)
      have d0n : decide (q ≤ 5) = false := decide_eq_false hlt
      go_wp2_with fail
      go_ret
      exact ⟨b, rfl, ⟨by have := HI.out.1; omega, HI.out.2.1, fun h j h1 h2 => HI.out.2.2 h j h1 (by omega)⟩, hk⟩
end Go.Proofs.YtdejablhpljdfaaGreat
