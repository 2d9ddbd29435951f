/-
  Layer 3: rows joined, and rows of residues joined back.
-/
import Derived.Test.YtjfpcggpdbkjgaaLaw03s
import Derived.Deep.AppendLies
import Derived.Deep.RegionLaw
namespace Go.Proofs.Ytjfpcggpdbkjgaa
open Go.RowKit BG
attribute [local go_sem ↓] Go.wp_at_zero Go.wp_at_succ
set_option linter.unusedVariables false

theorem sameL_refl (xs : List Int) : sameL xs xs = true := by simp [sameL]
theorem u64_all {xs : List Int} (h : ∀ z ∈ xs, 0 ≤ z ∧ z ≤ 18446744073709551615) : U64 xs := by
  intro j
  unfold nth
  rw [List.getD_eq_getElem?_getD]
  by_cases hj : j < xs.length
  · rw [List.getElem?_eq_getElem hj]; exact h _ (List.getElem_mem _)
  · rw [List.getElem?_eq_none (by omega)]; exact ⟨Int.le_refl 0, by decide⟩
theorem u64_ofs (k : Int) (n : Nat) (f : Nat → Int) : U64 (mk n fun j => of k (f j)) := by
  refine u64_all fun z hz => ?_
  unfold mk at hz
  rw [List.mem_map] at hz
  obtain ⟨j, _, rfl⟩ := hz
  have := of_bd k (f j)
  omega
theorem rows_back {xs : List Int} (hu : U64 xs) : rowsOk (mk xs.length fun j => of 0 (nth xs j)) (mk xs.length fun j => of 1 (nth xs j)) (mk xs.length fun j => of 2 (nth xs j)) = true ∧ rowsv (mk xs.length fun j => of 0 (nth xs j)) (mk xs.length fun j => of 1 (nth xs j)) (mk xs.length fun j => of 2 (nth xs j)) = xs := by
  have h : rowsOk (mk xs.length fun j => of 0 (nth xs j)) (mk xs.length fun j => of 1 (nth xs j)) (mk xs.length fun j => of 2 (nth xs j)) = true := by
    simp only [rowsOk, decide_eq_true_eq]
    refine ⟨by rw [mk_length, mk_length], by rw [mk_length, mk_length], fun j hj => ?_⟩
    rw [mk_length] at hj
    rw [nth_mk hj, nth_mk hj, nth_mk hj]
    exact fits_of (hu j).1 (hu j).2 (cong_of _ _) (cong_of _ _) (cong_of _ _)
  refine ⟨h, ?_⟩
  unfold rowsv
  rw [if_pos h, mk_length]
  refine Eq.trans (mk_congr fun j hj => ?_) (mk_nth xs)
  rw [nth_mk hj, nth_mk hj, nth_mk hj]
  exact num_of (hu j).1 (hu j).2 (cong_of _ _) (cong_of _ _) (cong_of _ _)
def Apart2 (u v : Value) : Prop := ∀ g, u.ownBlock = some g → v.ownBlock ≠ some g
theorem Apart2.ne {u v : Value} (h : Apart2 u v) : u.ownBlock = none ∨ u.ownBlock ≠ v.ownBlock := by
  cases e : u.ownBlock with
  | none => exact .inl rfl
  | some g => exact .inr fun e2 => h g e e2.symm
theorem Apart2.symm {u v : Value} (h : Apart2 u v) : Apart2 v u := fun g e e2 => h g e2 e
theorem apart_lies {u v : Value} {w : World} {base n g m cap : Nat} {e : TypeId} {xs : List Value} (h : Apart2 u v) (hu : w.ownsRow base e 1 u n xs) (hat : v.ownBlock = some g ∨ g = w.heap.size + 1) : Apart2 u (.slice (some ⟨g, 0, none⟩) m cap) := by
  intro g' e1 e2
  have e3 : g = g' := by simpa [Value.ownBlock] using e2
  subst e3
  rcases hat with hat | hat
  · exact h g e1 hat
  · have := (World.ownsRow.lt hu _ e1).2
    omega
theorem apart_new {u v v' : Value} {w : World} {base n : Nat} {e : TypeId} {xs : List Value} (h : Apart2 u v) (hu : w.ownsRow base e 1 u n xs) (hv : v'.ownBlock = v.ownBlock ∨ v'.ownBlock = some (w.heap.size + 1)) : Apart2 u v' := by
  intro g e e2
  rcases hv with hv | hv
  · rw [hv] at e2; exact h g e e2
  · rw [hv] at e2; cases e2
    exact absurd (World.ownsRow.lt hu _ e).2 (by omega)
theorem blk_grown {w w1 : World} {row : Option Nat} {g : Nat} {o : Obj} (hg : w.grownBy w1 row) (h : w.heap[g]? = some o) (hne : some g ≠ row) : w1.heap[g]? = some o := (hg.block g (blk_lt h) hne).trans h
theorem own_set {w : World} {base n size : Nat} {e : TypeId} {v : Value} {xs : List Value} (h : w.ownsRow base e size v n xs) {p : Addr} (hp : p.block < base) (u : Value) : (w.setCell p u).ownsRow base e size v n xs :=
  World.ownsRow.kept h (⟨rfl, rfl, rfl, by simp, fun i hi hne => Below.heap_setCell w p u i fun e => hne (by rw [e])⟩ : w.grownBy (w.setCell p u) (some p.block)) (by
    cases e : v.ownBlock with
    | none => exact .inl rfl
    | some g => exact .inr fun e2 => by cases e2; have := (World.ownsRow.lt h _ e).1; omega)
theorem lies_ne {w : World} {base n size gl : Nat} {e : TypeId} {v : Value} {xs : List Value} (h : w.ownsRow base e size v n xs) (hg : gl < base) : some gl ≠ v.ownBlock := fun e2 => by
  have := (World.ownsRow.lt h _ e2.symm).1
  omega
set_option maxRecDepth 100000 in
set_option maxHeartbeats 8000000 in
theorem crtRows_w (A B C : Option Addr) (ca cb cc : Nat) (xs ys zs : List Int) (ux : U64 xs) (uy : U64 ys) (uz : U64 zs) (w : World) (hx : Rd .u64 w A xs) (hy : Rd .u64 w B ys) (hz : Rd .u64 w C zs) : Calls Try.prog 13 #[.slice A xs.length ca, .slice B ys.length cb, .slice C zs.length cc] w (Ret (.bool true) w) := by
  obtain ⟨i1, hif1, hy0, hy1, hy2⟩ := info_parts info_u64
  by_cases h1 : xs.length ≤ 1000
  · by_cases h2 : ys.length ≤ 1000
    · by_cases h3 : zs.length ≤ 1000
      · have g1 : decide (1000 < xs.length) = false := decide_eq_false (by omega)
        have g2 : decide (1000 < ys.length) = false := decide_eq_false (by omega)
        have g3 : decide (1000 < zs.length) = false := decide_eq_false (by omega)
        have R1 := rows_c A B C ca cb cc xs ys zs w hx hy hz ux uy uz (by omega)
        have R2 := fun w1 a b c => rrows_c A B C ca cb cc xs ys zs w1 a b c ux uy uz (by omega)
        generalize rowsOk xs ys zs = ok at *
        generalize rowsv xs ys zs = rs at *
        go_enter Try.func13, Try.ntmps13
        go_wp2_with fail
        refine R1.mono ?_
        rintro e w1 ⟨v1, rfl, hown1, hk1⟩
        clear R1
        have R2 := R2 w1 (hx.kept hk1) (hy.kept hk1) (hz.kept hk1)
        go_wp2_with fail
        refine R2.mono ?_
        rintro e w2 ⟨v2, rfl, hown2, hk2⟩
        clear R2
        obtain ⟨A1, c1, rfl, _, _, r1⟩ := (hown1.kept hk2).rd
        obtain ⟨A2, c2, rfl, _, _, r2⟩ := hown2.rd
        clear hown1 hown2
        have S := same_c A1 A2 c1 c2 _ _ w2 r1 r2
        rw [sameL_refl] at S
        go_wp2_with fail
        refine S.mono ?_
        rintro e w3 ⟨rfl, hk3⟩
        clear S r1 r2
        have hk := kept_trans hk1 (kept_trans hk2 hk3)
        clear hk1 hk2 hk3 hy hz uy uz g2 g3 h2 h3
        have hL := blk_new w3 (.cells #[.slice none 0 0, .slice none 0 0, .slice none 0 0] 47)
        have hkL := kept_alloc (kept_refl w3) (.cells #[.slice none 0 0, .slice none 0 0, .slice none 0 0] 47)
        have hszL : (w3.alloc (.cells #[.slice none 0 0, .slice none 0 0, .slice none 0 0] 47)).heap.size = w3.heap.size + 1 := World.size_alloc _ _
        have RB := rows_back ux
        have hux := fun j => (ux j).1
        go_wp2_with fail
        generalize hgl : w3.heap.size = gl at *
        generalize hn : xs.length = n at *
        have HN := Lib.hid hn
        clear hn
        go_loopw [57] (fun i wr => ∃ q : Nat, q ≤ n ∧ i = .int .i64 q ∧ (∃ v0 v1 v2 : Value, wr.heap[gl]? = some (.cells #[v0, v1, v2] 47 (0, 0)) ∧ wr.ownsRow (gl + 1) 22 1 v0 q ((mk q fun j => of 0 (nth xs j)).map (Value.int .u64)) ∧ wr.ownsRow (gl + 1) 22 1 v1 q ((mk q fun j => of 1 (nth xs j)).map (Value.int .u64)) ∧ wr.ownsRow (gl + 1) 22 1 v2 q ((mk q fun j => of 2 (nth xs j)).map (Value.int .u64)) ∧ Apart2 v0 v1 ∧ Apart2 v0 v2 ∧ Apart2 v1 v2) ∧ Kept w3 wr ∧ gl + 1 ≤ wr.heap.size) (fun i _ => n - (intOf i).toNat)
        case atStart => exact ⟨0, Nat.zero_le _, rfl, ⟨_, _, _, hL, ⟨by simp [mk], .inl ⟨rfl, rfl⟩⟩, ⟨by simp [mk], .inl ⟨rfl, rfl⟩⟩, ⟨by simp [mk], .inl ⟨rfl, rfl⟩⟩, fun g e => by simp [Value.ownBlock] at e, fun g e => by simp [Value.ownBlock] at e, fun g e => by simp [Value.ownBlock] at e⟩, hkL, by rw [hszL]; exact Nat.le_refl _⟩
        case round =>
          clear hL hkL hszL
          obtain ⟨q, hq, rfl, ⟨v0, v1, v2, hb, o0, o1, o2, PA01, PA02, PA12⟩, kw, hsz⟩ := hrel
          by_cases hlt : q < n
          · obtain ⟨ad, rfl, c0⟩ := ((hx.kept hk).kept kw).at_ (j := q) (by have := HN.out; omega)
            have P := parts_c (nth xs q) (hux q)
            unfold arr3 at P
            have E0 := Lib.hid (rfl : of 0 (nth xs q) = of 0 (nth xs q))
            generalize hr0 : of 0 (nth xs q) = r0 at *
            generalize hr1 : of 1 (nth xs q) = r1 at *
            generalize hr2 : of 2 (nth xs q) = r2 at *
            have HR0 := Lib.hid hr0
            have HR1 := Lib.hid hr1
            have HR2 := Lib.hid hr2
            clear hr0 hr1 hr2 E0
            go_wp2_with fail
            refine (P _).mono ?_
            rintro e w4 ⟨rfl, hk4⟩
            clear P c0
            replace hb := blk_kept hk4 hb
            replace o0 := rowKept3 o0 hk4
            replace o1 := rowKept3 o1 hk4
            replace o2 := rowKept3 o2 hk4
            replace kw := kept_trans kw hk4
            have hgp : gl + 1 ≤ w4.heap.size := Nat.le_trans hsz hk4.size
            have np0 : some w4.heap.size ≠ v0.ownBlock := fun e => by have := (World.ownsRow.lt o0 _ e.symm).2; omega
            have np1 : some w4.heap.size ≠ v1.ownBlock := fun e => by have := (World.ownsRow.lt o1 _ e.symm).2; omega
            have np2 : some w4.heap.size ≠ v2.ownBlock := fun e => by have := (World.ownsRow.lt o2 _ e.symm).2; omega
            have hp := blk_new w4 (.cells #[.int .u64 r0, .int .u64 r1, .int .u64 r2] 35)
            have hk5 := kept_alloc (kept_refl w4) (.cells #[.int .u64 r0, .int .u64 r1, .int .u64 r2] 35)
            replace hb := blk_kept hk5 hb
            replace o0 := rowKept3 o0 hk5
            replace o1 := rowKept3 o1 hk5
            replace o2 := rowKept3 o2 hk5
            replace kw := kept_trans kw hk5
            have hszA : gl + 1 ≤ (w4.alloc (.cells #[.int .u64 r0, .int .u64 r1, .int .u64 r2] 35)).heap.size := Nat.le_trans hgp hk5.size
            clear hk4 hk5 hsz
            go_wp2_with fail
            generalize w4.heap.size = gp at *
            generalize w4.alloc (.cells #[.int .u64 r0, .int .u64 r1, .int .u64 r2] 35) = wA at *
            have hne : gp ≠ gl := by omega
            refine wp_loop_rounds 4 ?_
            rw [rounds_succ]
            go_wp2_with fail
            have ce : wA.cell? ⟨gl, 0, none⟩ = some v0 := blk_cell hb 0
            have cp : wA.cell? ⟨gp, 0, none⟩ = some (.int .u64 r0) := blk_cell hp 0
            have ce2 : wA.drew.cell? ⟨gl, 0, none⟩ = some v0 := ce
            have cp2 : wA.drew.cell? ⟨gp, 0, none⟩ = some (.int .u64 r0) := cp
            have ce3 : (wA.alloc (.cells #[.int .u64 r0] 22)).drew.cell? ⟨gl, 0, none⟩ = some v0 := kept_cell (kept_drew (kept_alloc (kept_refl _) _)) ce
            have cp3 : (wA.alloc (.cells #[.int .u64 r0] 22)).drew.cell? ⟨gp, 0, none⟩ = some (.int .u64 r0) := kept_cell (kept_drew (kept_alloc (kept_refl _) _)) cp
            refine (fun (KEY : PLift (?stmt0 : Prop)) => ?main0) (PLift.up ?pf0)
            case main0 =>
              go_region_law (refine step_append_lies _ (by rfl) _ _ _ (by rfl) (gl + 1) 22 i1 _ 1 8 Try.underlying43 hif1 hy0 hy1 hy2 rfl (by omega) _ q _ (by rfl) ((World.ownsRow.alloc o0 _).drew) ⟨wA.heap.size, 0, none⟩ 1 1 [.int .u64 r0] (by rfl) (by rfl) (World.news_of_block (cs := #[.int .u64 r0]) (t := 22) (fr := (0, 0)) (heap_alloc_new wA _)) (by simp [Value.oneCell']) (by omega) (by unfold maxLen; omega) (by omega) (by simp; omega) (wA.heap.size + 1) (by simp) ?_; intro g cap w6 hown6 hgrow hat hlt'; have hb6 := blk_grown hgrow (show ((wA.alloc _).drew).heap[gl]? = _ from blk_alloc hb _) (lies_ne o0 (Nat.lt_succ_self gl)); have D0 : w6.cell? ⟨gl, 0, none⟩ = some v0 := blk_cell hb6 0; have F0 := blk_frozen hb6 0)
              all_goals (clear D0 F0 hb6; revert hlt' hat hgrow hown6 w6 cap g; exact KEY.down)
            clear ce cp ce2 cp2 ce3 cp3
            intro g0 cap0 wC0 hA hgrow hblk hlt0
            have K := kept_grown (kept_drew (kept_alloc kw _)) ((World.ownsRow.alloc o0 _).drew) (Nat.le_succ_of_le (by rw [hgl]; exact Nat.le_refl _)) hgrow
            have hb1 := blk_grown hgrow (show ((wA.alloc _).drew).heap[gl]? = _ from blk_alloc hb _) (lies_ne o0 (Nat.lt_succ_self gl))
            have hp1 := blk_grown hgrow (show ((wA.alloc _).drew).heap[gp]? = _ from blk_alloc hp _) np0
            have hszC : gl + 1 ≤ wC0.heap.size := Nat.le_trans hszA (Nat.le_trans (by simp) hgrow.size)
            have oo1 := World.ownsRow.kept ((World.ownsRow.alloc o1 _).drew) hgrow PA01.symm.ne
            have q1 := apart_lies (m := q + 1) (cap := cap0) PA01.symm o1 hblk
            have oo2 := World.ownsRow.kept ((World.ownsRow.alloc o2 _).drew) hgrow PA02.symm.ne
            have q2 := apart_lies (m := q + 1) (cap := cap0) PA02.symm o2 hblk
            have D0 : wC0.cell? ⟨gl, 0, none⟩ = some v0 := blk_cell hb1 0
            have F0 := blk_frozen hb1 0
            have hb2 := blk_set hb1 0 (.slice (some ⟨g0, 0, none⟩) (q + 1) cap0)
            have hp2 := blk_far hp1 (p := ⟨gl, 0, none⟩) hne (.slice (some ⟨g0, 0, none⟩) (q + 1) cap0)
            have K2 := kept_set K (p := ⟨gl, 0, none⟩) (by rw [hgl]; exact Nat.le_refl _) (.slice (some ⟨g0, 0, none⟩) (q + 1) cap0)
            have hA2 := own_set hA (p := ⟨gl, 0, none⟩) (Nat.lt_succ_self gl) (.slice (some ⟨g0, 0, none⟩) (q + 1) cap0)
            have hsz2 : gl + 1 ≤ (wC0.setCell ⟨gl, 0, none⟩ (.slice (some ⟨g0, 0, none⟩) (q + 1) cap0)).heap.size := by simpa using hszC
            have os1 := own_set oo1 (p := ⟨gl, 0, none⟩) (Nat.lt_succ_self gl) (.slice (some ⟨g0, 0, none⟩) (q + 1) cap0)
            have os2 := own_set oo2 (p := ⟨gl, 0, none⟩) (Nat.lt_succ_self gl) (.slice (some ⟨g0, 0, none⟩) (q + 1) cap0)
            clear hb hp o0 kw hA hgrow hblk K hb1 hp1 hszC o1 PA01 o2 PA02 oo1 oo2
            go_wp2_with fail
            generalize wC0.setCell ⟨gl, 0, none⟩ (.slice (some ⟨g0, 0, none⟩) (q + 1) cap0) = wD0 at *
            have hb : wD0.heap[gl]? = some (.cells #[(.slice (some ⟨g0, 0, none⟩) (q + 1) cap0), v1, v2] 47 (0, 0)) := hb2
            have hp := hp2
            have kw := K2
            have o0 := hA2
            have hsz_0 := hsz2
            clear hb2 hp2 K2 hA2 hsz2 D0 F0
            have o1 := os1
            have PA01 := q1.symm
            clear os1 q1
            have o2 := os2
            have PA02 := q2.symm
            clear os2 q2
            rw [rounds_succ]
            go_wp2_with fail
            have ce : wD0.cell? ⟨gl, 1, none⟩ = some v1 := blk_cell hb 1
            have cp : wD0.cell? ⟨gp, 1, none⟩ = some (.int .u64 r1) := blk_cell hp 1
            have ce2 : wD0.drew.cell? ⟨gl, 1, none⟩ = some v1 := ce
            have cp2 : wD0.drew.cell? ⟨gp, 1, none⟩ = some (.int .u64 r1) := cp
            have ce3 : (wD0.alloc (.cells #[.int .u64 r1] 22)).drew.cell? ⟨gl, 1, none⟩ = some v1 := kept_cell (kept_drew (kept_alloc (kept_refl _) _)) ce
            have cp3 : (wD0.alloc (.cells #[.int .u64 r1] 22)).drew.cell? ⟨gp, 1, none⟩ = some (.int .u64 r1) := kept_cell (kept_drew (kept_alloc (kept_refl _) _)) cp
            refine (fun (KEY : PLift (?stmt1 : Prop)) => ?main1) (PLift.up ?pf1)
            case main1 =>
              go_region_law (refine step_append_lies _ (by rfl) _ _ _ (by rfl) (gl + 1) 22 i1 _ 1 8 Try.underlying43 hif1 hy0 hy1 hy2 rfl (by omega) _ q _ (by rfl) ((World.ownsRow.alloc o1 _).drew) ⟨wD0.heap.size, 0, none⟩ 1 1 [.int .u64 r1] (by rfl) (by rfl) (World.news_of_block (cs := #[.int .u64 r1]) (t := 22) (fr := (0, 0)) (heap_alloc_new wD0 _)) (by simp [Value.oneCell']) (by omega) (by unfold maxLen; omega) (by omega) (by simp; omega) (wD0.heap.size + 1) (by simp) ?_; intro g cap w6 hown6 hgrow hat hlt'; have hb6 := blk_grown hgrow (show ((wD0.alloc _).drew).heap[gl]? = _ from blk_alloc hb _) (lies_ne o1 (Nat.lt_succ_self gl)); have D0 : w6.cell? ⟨gl, 1, none⟩ = some v1 := blk_cell hb6 1; have F0 := blk_frozen hb6 1)
              all_goals (clear D0 F0 hb6; revert hlt' hat hgrow hown6 w6 cap g; exact KEY.down)
            clear ce cp ce2 cp2 ce3 cp3
            intro g1 cap1 wC1 hA hgrow hblk hlt1
            have K := kept_grown (kept_drew (kept_alloc kw _)) ((World.ownsRow.alloc o1 _).drew) (Nat.le_succ_of_le (by rw [hgl]; exact Nat.le_refl _)) hgrow
            have hb1 := blk_grown hgrow (show ((wD0.alloc _).drew).heap[gl]? = _ from blk_alloc hb _) (lies_ne o1 (Nat.lt_succ_self gl))
            have hp1 := blk_grown hgrow (show ((wD0.alloc _).drew).heap[gp]? = _ from blk_alloc hp _) np1
            have hszC : gl + 1 ≤ wC1.heap.size := Nat.le_trans hsz_0 (Nat.le_trans (by simp) hgrow.size)
            have oo0 := World.ownsRow.kept ((World.ownsRow.alloc o0 _).drew) hgrow PA01.ne
            have q0 := apart_lies (m := q + 1) (cap := cap1) PA01 o0 hblk
            have oo2 := World.ownsRow.kept ((World.ownsRow.alloc o2 _).drew) hgrow PA12.symm.ne
            have q2 := apart_lies (m := q + 1) (cap := cap1) PA12.symm o2 hblk
            have D0 : wC1.cell? ⟨gl, 1, none⟩ = some v1 := blk_cell hb1 1
            have F0 := blk_frozen hb1 1
            have hb2 := blk_set hb1 1 (.slice (some ⟨g1, 0, none⟩) (q + 1) cap1)
            have hp2 := blk_far hp1 (p := ⟨gl, 1, none⟩) hne (.slice (some ⟨g1, 0, none⟩) (q + 1) cap1)
            have K2 := kept_set K (p := ⟨gl, 1, none⟩) (by rw [hgl]; exact Nat.le_refl _) (.slice (some ⟨g1, 0, none⟩) (q + 1) cap1)
            have hA2 := own_set hA (p := ⟨gl, 1, none⟩) (Nat.lt_succ_self gl) (.slice (some ⟨g1, 0, none⟩) (q + 1) cap1)
            have hsz2 : gl + 1 ≤ (wC1.setCell ⟨gl, 1, none⟩ (.slice (some ⟨g1, 0, none⟩) (q + 1) cap1)).heap.size := by simpa using hszC
            have os0 := own_set oo0 (p := ⟨gl, 1, none⟩) (Nat.lt_succ_self gl) (.slice (some ⟨g1, 0, none⟩) (q + 1) cap1)
            have os2 := own_set oo2 (p := ⟨gl, 1, none⟩) (Nat.lt_succ_self gl) (.slice (some ⟨g1, 0, none⟩) (q + 1) cap1)
            clear hb hp o1 kw hA hgrow hblk K hb1 hp1 hszC o0 PA01 o2 PA12 oo0 oo2
            go_wp2_with fail
            generalize wC1.setCell ⟨gl, 1, none⟩ (.slice (some ⟨g1, 0, none⟩) (q + 1) cap1) = wD1 at *
            have hb : wD1.heap[gl]? = some (.cells #[(.slice (some ⟨g0, 0, none⟩) (q + 1) cap0), (.slice (some ⟨g1, 0, none⟩) (q + 1) cap1), v2] 47 (0, 0)) := hb2
            have hp := hp2
            have kw := K2
            have o1 := hA2
            have hsz_1 := hsz2
            clear hb2 hp2 K2 hA2 hsz2 D0 F0
            have o0 := os0
            have PA01 := q0
            clear os0 q0
            have o2 := os2
            have PA12 := q2.symm
            clear os2 q2
            rw [rounds_succ]
            go_wp2_with fail
            have ce : wD1.cell? ⟨gl, 2, none⟩ = some v2 := blk_cell hb 2
            have cp : wD1.cell? ⟨gp, 2, none⟩ = some (.int .u64 r2) := blk_cell hp 2
            have ce2 : wD1.drew.cell? ⟨gl, 2, none⟩ = some v2 := ce
            have cp2 : wD1.drew.cell? ⟨gp, 2, none⟩ = some (.int .u64 r2) := cp
            have ce3 : (wD1.alloc (.cells #[.int .u64 r2] 22)).drew.cell? ⟨gl, 2, none⟩ = some v2 := kept_cell (kept_drew (kept_alloc (kept_refl _) _)) ce
            have cp3 : (wD1.alloc (.cells #[.int .u64 r2] 22)).drew.cell? ⟨gp, 2, none⟩ = some (.int .u64 r2) := kept_cell (kept_drew (kept_alloc (kept_refl _) _)) cp
            refine (fun (KEY : PLift (?stmt2 : Prop)) => ?main2) (PLift.up ?pf2)
            case main2 =>
              go_region_law (refine step_append_lies _ (by rfl) _ _ _ (by rfl) (gl + 1) 22 i1 _ 1 8 Try.underlying43 hif1 hy0 hy1 hy2 rfl (by omega) _ q _ (by rfl) ((World.ownsRow.alloc o2 _).drew) ⟨wD1.heap.size, 0, none⟩ 1 1 [.int .u64 r2] (by rfl) (by rfl) (World.news_of_block (cs := #[.int .u64 r2]) (t := 22) (fr := (0, 0)) (heap_alloc_new wD1 _)) (by simp [Value.oneCell']) (by omega) (by unfold maxLen; omega) (by omega) (by simp; omega) (wD1.heap.size + 1) (by simp) ?_; intro g cap w6 hown6 hgrow hat hlt'; have hb6 := blk_grown hgrow (show ((wD1.alloc _).drew).heap[gl]? = _ from blk_alloc hb _) (lies_ne o2 (Nat.lt_succ_self gl)); have D0 : w6.cell? ⟨gl, 2, none⟩ = some v2 := blk_cell hb6 2; have F0 := blk_frozen hb6 2)
              all_goals (clear D0 F0 hb6; revert hlt' hat hgrow hown6 w6 cap g; exact KEY.down)
            clear ce cp ce2 cp2 ce3 cp3
            intro g2 cap2 wC2 hA hgrow hblk hlt2
            have K := kept_grown (kept_drew (kept_alloc kw _)) ((World.ownsRow.alloc o2 _).drew) (Nat.le_succ_of_le (by rw [hgl]; exact Nat.le_refl _)) hgrow
            have hb1 := blk_grown hgrow (show ((wD1.alloc _).drew).heap[gl]? = _ from blk_alloc hb _) (lies_ne o2 (Nat.lt_succ_self gl))
            have hp1 := blk_grown hgrow (show ((wD1.alloc _).drew).heap[gp]? = _ from blk_alloc hp _) np2
            have hszC : gl + 1 ≤ wC2.heap.size := Nat.le_trans hsz_1 (Nat.le_trans (by simp) hgrow.size)
            have oo0 := World.ownsRow.kept ((World.ownsRow.alloc o0 _).drew) hgrow PA02.ne
            have q0 := apart_lies (m := q + 1) (cap := cap2) PA02 o0 hblk
            have oo1 := World.ownsRow.kept ((World.ownsRow.alloc o1 _).drew) hgrow PA12.ne
            have q1 := apart_lies (m := q + 1) (cap := cap2) PA12 o1 hblk
            have D0 : wC2.cell? ⟨gl, 2, none⟩ = some v2 := blk_cell hb1 2
            have F0 := blk_frozen hb1 2
            have hb2 := blk_set hb1 2 (.slice (some ⟨g2, 0, none⟩) (q + 1) cap2)
            have hp2 := blk_far hp1 (p := ⟨gl, 2, none⟩) hne (.slice (some ⟨g2, 0, none⟩) (q + 1) cap2)
            have K2 := kept_set K (p := ⟨gl, 2, none⟩) (by rw [hgl]; exact Nat.le_refl _) (.slice (some ⟨g2, 0, none⟩) (q + 1) cap2)
            have hA2 := own_set hA (p := ⟨gl, 2, none⟩) (Nat.lt_succ_self gl) (.slice (some ⟨g2, 0, none⟩) (q + 1) cap2)
            have hsz2 : gl + 1 ≤ (wC2.setCell ⟨gl, 2, none⟩ (.slice (some ⟨g2, 0, none⟩) (q + 1) cap2)).heap.size := by simpa using hszC
            have os0 := own_set oo0 (p := ⟨gl, 2, none⟩) (Nat.lt_succ_self gl) (.slice (some ⟨g2, 0, none⟩) (q + 1) cap2)
            have os1 := own_set oo1 (p := ⟨gl, 2, none⟩) (Nat.lt_succ_self gl) (.slice (some ⟨g2, 0, none⟩) (q + 1) cap2)
            clear hb hp o2 kw hA hgrow hblk K hb1 hp1 hszC o0 PA02 o1 PA12 oo0 oo1
            go_wp2_with fail
            generalize wC2.setCell ⟨gl, 2, none⟩ (.slice (some ⟨g2, 0, none⟩) (q + 1) cap2) = wD2 at *
            have hb : wD2.heap[gl]? = some (.cells #[(.slice (some ⟨g0, 0, none⟩) (q + 1) cap0), (.slice (some ⟨g1, 0, none⟩) (q + 1) cap1), (.slice (some ⟨g2, 0, none⟩) (q + 1) cap2)] 47 (0, 0)) := hb2
            have hp := hp2
            have kw := K2
            have o2 := hA2
            have hsz_2 := hsz2
            clear hb2 hp2 K2 hA2 hsz2 D0 F0
            have o0 := os0
            have PA02 := q0
            clear os0 q0
            have o1 := os1
            have PA12 := q1
            clear os1 q1
            rw [rounds_succ]
            go_wp2_with fail
            have R0 : wD2.ownsRow (gl + 1) 22 1 (.slice (some ⟨g0, 0, none⟩) (q + 1) cap0) (q + 1) ((mk (q + 1) fun j => of 0 (nth xs j)).map (Value.int .u64)) := by rw [mk_succ, List.map_append, HR0.out]; exact o0
            have R1 : wD2.ownsRow (gl + 1) 22 1 (.slice (some ⟨g1, 0, none⟩) (q + 1) cap1) (q + 1) ((mk (q + 1) fun j => of 1 (nth xs j)).map (Value.int .u64)) := by rw [mk_succ, List.map_append, HR1.out]; exact o1
            have R2 : wD2.ownsRow (gl + 1) 22 1 (.slice (some ⟨g2, 0, none⟩) (q + 1) cap2) (q + 1) ((mk (q + 1) fun j => of 2 (nth xs j)).map (Value.int .u64)) := by rw [mk_succ, List.map_append, HR2.out]; exact o2
            exact ⟨⟨q + 1, by omega, by go_num, ⟨(.slice (some ⟨g0, 0, none⟩) (q + 1) cap0), (.slice (some ⟨g1, 0, none⟩) (q + 1) cap1), (.slice (some ⟨g2, 0, none⟩) (q + 1) cap2), hb, R0, R1, R2, PA01, PA02, PA12⟩, kw, hsz_2⟩, by simp [intOf]; omega⟩
          · obtain rfl : q = n := by omega
            have ce0 : wr.cell? ⟨gl, 0, none⟩ = some v0 := blk_cell hb 0
            have ce1 : wr.cell? ⟨gl, 1, none⟩ = some v1 := blk_cell hb 1
            have ce2 : wr.cell? ⟨gl, 2, none⟩ = some v2 := blk_cell hb 2
            have q0 : Own .u64 22 (gl + 1) wr v0 (mk q fun j => of 0 (nth xs j)) := by unfold Own; rw [mk_length]; exact o0
            have q1 : Own .u64 22 (gl + 1) wr v1 (mk q fun j => of 1 (nth xs j)) := by unfold Own; rw [mk_length]; exact o1
            have q2 : Own .u64 22 (gl + 1) wr v2 (mk q fun j => of 2 (nth xs j)) := by unfold Own; rw [mk_length]; exact o2
            obtain ⟨Z0, d0, rfl, _, _, s0⟩ := q0.rd
            obtain ⟨Z1, d1, rfl, _, _, s1⟩ := q1.rd
            obtain ⟨Z2, d2, rfl, _, _, s2⟩ := q2.rd
            have R := rows_at true xs Z0 Z1 Z2 d0 d1 d2 _ _ _ wr s0 s1 s2 (u64_ofs _ _ _) (u64_ofs _ _ _) (u64_ofs _ _ _) (by rw [mk_length]; omega) RB.1 RB.2
            rw [mk_length, mk_length, mk_length] at R
            rw [mk_length] at ce0 ce1 ce2
            clear o0 o1 o2 q0 q1 q2 s0 s1 s2 PA01 PA02 PA12 hb RB
            go_wp2_with fail
            refine R.mono ?_
            rintro e w5 ⟨v5, rfl, hown5, hk5⟩
            clear R
            obtain ⟨A5, c5, rfl, _, _, r5⟩ := hown5.rd
            clear hown5
            rw [HN.out]
            go_wp2_with fail
            refine (alive03_c _).mono ?_
            rintro e w6 ⟨rfl, hk6⟩
            have S := same_c A5 A c5 ca xs xs w6 (r5.kept hk6) ((((hx.kept hk).kept kw).kept hk5).kept hk6)
            rw [sameL_refl, HN.out] at S
            go_wp2_with fail
            refine S.mono ?_
            rintro e w7 ⟨rfl, hk7⟩
            clear S
            go_wp2_with fail
            go_ret
            exact ⟨rfl, kept_trans hk (kept_trans kw (kept_trans hk5 (kept_trans hk6 hk7)))⟩
      · have g1 : ¬ 1000 < xs.length := by omega
        have g2 : ¬ 1000 < ys.length := by omega
        have g3 : 1000 < zs.length := by omega
        clear h1 h2 h3
        go_enter Try.func13, Try.ntmps13
        go_wp2_with fail
        refine (alive03_c _).mono ?_
        rintro e w1 ⟨rfl, hk1⟩
        go_wp2_with fail
        go_ret
        exact ⟨rfl, hk1⟩
    · have g1 : ¬ 1000 < xs.length := by omega
      have g2 : 1000 < ys.length := by omega
      clear h1 h2
      go_enter Try.func13, Try.ntmps13
      go_wp2_with fail
      refine (alive03_c _).mono ?_
      rintro e w1 ⟨rfl, hk1⟩
      go_wp2_with fail
      go_ret
      exact ⟨rfl, hk1⟩
  · have g1 : 1000 < xs.length := by omega
    clear h1
    go_enter Try.func13, Try.ntmps13
    go_wp2_with fail
    refine (alive03_c _).mono ?_
    rintro e w1 ⟨rfl, hk1⟩
    go_wp2_with fail
    go_ret
    exact ⟨rfl, hk1⟩
end Go.Proofs.Ytjfpcggpdbkjgaa
