/-
  Layer 22 (grid): where a mask stands, however it is turned.
-/
import Derived.Test.YthbbkmkaopgmdaaWGrid11
namespace Go.Proofs.Ythbbkmkaopgmdaa
open Go.RowKit BG
attribute [local go_sem ↓] Go.wp_at_zero Go.wp_at_succ
set_option linter.unusedVariables false

theorem flatC_u64 {l : List Cl} (h : ∀ x, x ∈ l → x.ok) : U64 (flatC l) := by
  intro j
  by_cases hj : j < 4 * l.length
  · have hc := flatC_cls l (j / 4) (by omega)
    obtain ⟨h0, h1, h2, h3⟩ := h _ (List.getElem_mem (show j / 4 < l.length by omega))
    rw [← hc] at h0 h1 h2 h3
    have e : j = j / 4 * 4 ∨ j = j / 4 * 4 + 1 ∨ j = j / 4 * 4 + 2 ∨ j = j / 4 * 4 + 3 := by omega
    rcases e with e | e | e | e <;> rw [e]
    · exact h0
    · exact h1
    · exact h2
    · exact h3
  · unfold nth; rw [List.getD_eq_getElem?_getD, List.getElem?_eq_none (by rw [flatC_length]; omega)]; exact ⟨Int.le_refl 0, by decide⟩
theorem turnF_u64 {xs : List Int} (hu : U64 xs) (V n : Nat) (k : Int) : U64 (turnF xs V n k) := flatC_u64 fun x hx => by
  obtain ⟨p, _, e⟩ := List.mem_map.1 hx
  rw [← e]
  exact cls_ok hu _
theorem turnF_len (xs : List Int) (V n : Nat) (k : Int) : (turnF xs V n k).length = 4 * n := by unfold turnF; rw [flatC_length, turnT_len]
/-- What is amiss, or where it stands, with a mask turned k times. -/
def turnE (W V : Int) (xs : List Int) (n : Nat) (s : ByteArray) (size : Int) (k : Nat) : Int := findE W (wideN V.toNat (n / V.toNat) k : Nat) (turnF xs V.toNat n k) n s size
def turnL (W V : Int) (xs : List Int) (n : Nat) (s : ByteArray) (size : Int) (k : Nat) : List Nat := findL W (wideN V.toNat (n / V.toNat) k : Nat) (turnF xs V.toNat n k) n s size
def firstE (f : Nat → Int) : Nat → Int
  | 0 => 0
  | n + 1 => if firstE f n = 0 then f n else firstE f n
theorem firstE_zero {f : Nat → Int} : ∀ {n}, (∀ j, j < n → f j = 0) → firstE f n = 0
  | 0, _ => rfl
  | n + 1, h => by
    show (if firstE f n = 0 then f n else firstE f n) = 0
    rw [if_pos (firstE_zero fun j hj => h j (by omega))]
    exact h n (by omega)
theorem firstE_at {f : Nat → Int} {q : Nat} (h : ∀ j, j < q → f j = 0) (hq : f q ≠ 0) : ∀ d, firstE f (q + 1 + d) = f q
  | 0 => by
    show (if firstE f q = 0 then f q else firstE f q) = _
    rw [if_pos (firstE_zero h)]
  | d + 1 => by
    show (if firstE f (q + 1 + d) = 0 then f (q + 1 + d) else firstE f (q + 1 + d)) = _
    rw [firstE_at h hq d, if_neg hq]
def allE (W V : Int) (xs : List Int) (n : Nat) (s : ByteArray) (size : Int) : Int := if fok W V xs n s = true then firstE (turnE W V xs n s size) 4 else 220
def allT (f : Nat → List Nat) (q : Nat) : List (Nat × Nat) := (List.range q).flatMap fun k => (f k).map fun i => (k, i)
def allP (W V : Int) (xs : List Int) (n : Nat) (s : ByteArray) (size : Int) : List (Nat × Nat) := if allE W V xs n s size = 0 then allT (turnL W V xs n s size) 4 else []
def flat3 (F : Nat) (l : List (Nat × Nat)) : List Int := l.flatMap fun p => [((p.1 : Nat) : Int), ((p.2 % F : Nat) : Int), ((p.2 / F : Nat) : Int)]
theorem flat3_append (F : Nat) (a b : List (Nat × Nat)) : flat3 F (a ++ b) = flat3 F a ++ flat3 F b := by unfold flat3; rw [List.flatMap_append]
theorem flat3_one (F k i : Nat) : flat3 F [(k, i)] = [((k : Nat) : Int), ((i % F : Nat) : Int), ((i / F : Nat) : Int)] := by simp [flat3]
theorem allT_succ (f : Nat → List Nat) (q : Nat) : allT f (q + 1) = allT f q ++ (f q).map fun i => (q, i) := by unfold allT; rw [List.range_succ, List.flatMap_append]; simp
theorem take_next {l : List Nat} {i : Nat} (h : i < l.length) (q : Nat) : (l.take (i + 1)).map (fun i => (q, i)) = (l.take i).map (fun i => (q, i)) ++ [(q, l[i])] := by
  rw [List.take_add_one, List.getElem?_eq_getElem h, List.map_append]
  simp
theorem flatP_at {F : Nat} {l : List Nat} : ∀ {i : Nat} (h : i < l.length), nth (flatP F l) (i * 2) = ((l[i] % F : Nat) : Int) ∧ nth (flatP F l) (i * 2 + 1) = ((l[i] / F : Nat) : Int) := by
  induction l with
  | nil => intro i h; exact absurd h (Nat.not_lt_zero _)
  | cons a l ih =>
    intro i h
    have e : flatP F (a :: l) = [((a % F : Nat) : Int), ((a / F : Nat) : Int)] ++ flatP F l := by unfold flatP; rw [List.flatMap_cons]
    rw [e]
    cases i with
    | zero => exact ⟨rfl, rfl⟩
    | succ i =>
      obtain ⟨h1, h2⟩ := ih (i := i) (by simpa using h)
      rw [nth_append_r (by simp; omega), nth_append_r (by simp; omega)]
      rw [show (i + 1) * 2 - [((a % F : Nat) : Int), ((a / F : Nat) : Int)].length = i * 2 by simp; omega, show (i + 1) * 2 + 1 - [((a % F : Nat) : Int), ((a / F : Nat) : Int)].length = i * 2 + 1 by simp; omega]
      exact ⟨h1, h2⟩
theorem allT_le {f : Nat → List Nat} (h : ∀ k, (f k).length ≤ 5000) : ∀ q, (allT f q).length ≤ 5000 * q
  | 0 => Nat.le_refl _
  | q + 1 => by
    rw [allT_succ, List.length_append, List.length_map]
    have := allT_le h q
    have := h q
    omega
theorem findL_le (W V : Int) (xs : List Int) (n : Nat) (s : ByteArray) (size : Int) : (findL W V xs n s size).length ≤ 5000 := by
  unfold findL
  split
  · rename_i h
    unfold findOk at h
    rw [Bool.and_eq_true, Bool.and_eq_true] at h
    obtain ⟨F, K, rfl, rfl, hF, hF2, _, _, _, _, _, _, h3, _, _⟩ := fok_parts h.1.1
    refine Nat.le_trans (placesL_le _ _ _ _ _ _) ?_
    rw [Int.toNat_natCast, Int.toNat_natCast]
    exact Nat.le_trans (Nat.mul_le_mul (show s.size / F - n / K + 1 ≤ 65 by omega) hF2) (by decide)
  · exact Nat.zero_le _
theorem info_p3 : (Try.prog.info? 52).map (fun i => (i.zero, i.size, i.bytes)) = some (some (.agg #[.int .i64 0, .int .i64 0, .int .i64 0]), 3, 24) := by kernel_rfl
/-- What a call of All tells. -/
def AnsA (W V : Int) (xs : List Int) (n : Nat) (s : ByteArray) (size : Int) (w : World) (e : Ending) (w' : World) : Prop :=
  ∃ v, e = .returned (.tuple #[v, .int .i64 (allE W V xs n s size)]) ∧ w'.ownsRow w.heap.size 52 3 v (allP W V xs n s size).length ((flat3 W.toNat (allP W V xs n s size)).map (Value.int .i64)) ∧ Kept w w'
set_option maxRecDepth 100000 in
set_option maxHeartbeats 8000000 in
theorem all_form (W V : Int) (A : Option Addr) (cap n : Nat) (xs : List Int) (s : ByteArray) (size : Int) (hu : U64 xs) (hl : xs.length = 4 * n) (hn : n ≤ 1000000) (hs : s.size ≤ 1000000) (w : World) (hr : Rd .u64 w A xs) (hno : fok W V xs n s = false) : Calls Try.prog 21 #[fieldV W s, maskV V A n cap, .int .i64 size] w (AnsA W V xs n s size w) := by
  have e1 : allE W V xs n s size = 220 := by unfold allE; rw [hno]; rfl
  have e2 : allP W V xs n s size = [] := by unfold allP; rw [e1]; rfl
  unfold AnsA
  rw [e1, e2]
  clear e1 e2
  have hm := hr.1
  have ka := kept_alloc (kept_alloc (kept_refl w) (.cells #[.int .i64 W, .string s] 30)) (.cells #[.int .i64 V, .slice A n cap] 33)
  have hbf := blk_alloc (blk_new w (.cells #[.int .i64 W, .string s] 30)) (.cells #[.int .i64 V, .slice A n cap] 33)
  have hbm := blk_new1 w (.cells #[.int .i64 W, .string s] 30) (.cells #[.int .i64 V, .slice A n cap] 33)
  have R := fun w1 => fieldright_c W s (by omega) w1
  have M := fun w1 h => may_c V A cap n xs hu hl w1 h
  unfold fok at hno
  generalize rowsb W s.size = rb at *
  generalize mayb V xs n = mb at *
  go_enter Try.func21, Try.ntmps21
  cases rb
  · go_wp2_with fail
    refine (R _).mono ?_
    rintro e w1 ⟨rfl, hk1⟩
    go_wp2_with fail
    exact bodyPost_ret (v := .tuple #[.slice none 0 0, .int .i64 220]) (by simp [results, Try.results21, go_sem]) rfl ⟨_, rfl, World.ownsRow_nil _ _ _ _, kept_trans ka hk1⟩
  · cases mb
    · go_wp2_with fail
      refine (R _).mono ?_
      rintro e w1 ⟨rfl, hk1⟩
      have c0 := cell_at (blk_kept hk1 hbm) 0 rfl
      have c1 := cell_at (blk_kept hk1 hbm) 1 rfl
      go_wp2_with fail
      refine (M _ (hr.kept (kept_trans ka hk1))).mono ?_
      rintro e w2 ⟨rfl, hk2⟩
      go_wp2_with fail
      exact bodyPost_ret (v := .tuple #[.slice none 0 0, .int .i64 220]) (by simp [results, Try.results21, go_sem]) rfl ⟨_, rfl, World.ownsRow_nil _ _ _ _, kept_trans ka (kept_trans hk1 hk2)⟩
    · cases hno
set_option maxRecDepth 100000 in
set_option maxHeartbeats 8000000 in
theorem rall_form (W V : Int) (A : Option Addr) (cap n : Nat) (xs : List Int) (s : ByteArray) (size : Int) (hu : U64 xs) (hl : xs.length = 4 * n) (hn : n ≤ 1000000) (hs : s.size ≤ 1000000) (w : World) (hr : Rd .u64 w A xs) (hno : fok W V xs n s = false) : Calls Try.prog 22 #[fieldV W s, maskV V A n cap, .int .i64 size] w (AnsA W V xs n s size w) := by
  have e1 : allE W V xs n s size = 220 := by unfold allE; rw [hno]; rfl
  have e2 : allP W V xs n s size = [] := by unfold allP; rw [e1]; rfl
  unfold AnsA
  rw [e1, e2]
  clear e1 e2
  have hm := hr.1
  have ka := kept_alloc (kept_alloc (kept_refl w) (.cells #[.int .i64 W, .string s] 23)) (.cells #[.int .i64 V, .slice A n cap] 26)
  have hbf := blk_alloc (blk_new w (.cells #[.int .i64 W, .string s] 23)) (.cells #[.int .i64 V, .slice A n cap] 26)
  have hbm := blk_new1 w (.cells #[.int .i64 W, .string s] 23) (.cells #[.int .i64 V, .slice A n cap] 26)
  have R := fun w1 => rfieldright_c W s (by omega) w1
  have M := fun w1 h => rmay_c V A cap n xs hu hl w1 h
  unfold fok at hno
  generalize rowsb W s.size = rb at *
  generalize mayb V xs n = mb at *
  go_enter Try.func22, Try.ntmps22
  cases rb
  · go_wp2_with fail
    refine (R _).mono ?_
    rintro e w1 ⟨rfl, hk1⟩
    go_wp2_with fail
    exact bodyPost_ret (v := .tuple #[.slice none 0 0, .int .i64 220]) (by simp [results, Try.results22, go_sem]) rfl ⟨_, rfl, World.ownsRow_nil _ _ _ _, kept_trans ka hk1⟩
  · cases mb
    · go_wp2_with fail
      refine (R _).mono ?_
      rintro e w1 ⟨rfl, hk1⟩
      have c0 := cell_at (blk_kept hk1 hbm) 0 rfl
      have c1 := cell_at (blk_kept hk1 hbm) 1 rfl
      go_wp2_with fail
      refine (M _ (hr.kept (kept_trans ka hk1))).mono ?_
      rintro e w2 ⟨rfl, hk2⟩
      go_wp2_with fail
      exact bodyPost_ret (v := .tuple #[.slice none 0 0, .int .i64 220]) (by simp [results, Try.results22, go_sem]) rfl ⟨_, rfl, World.ownsRow_nil _ _ _ _, kept_trans ka (kept_trans hk1 hk2)⟩
    · cases hno
set_option maxRecDepth 100000 in
set_option maxHeartbeats 16000000 in
theorem all_main (F V : Nat) (A : Option Addr) (cap n : Nat) (xs : List Int) (s : ByteArray) (size : Int) (hu : U64 xs) (hl : xs.length = 4 * n) (hn : n ≤ 1000000) (hs : s.size ≤ 1000000) (w : World) (hr : Rd .u64 w A xs) (hV : 1 ≤ V) (hok : fok (F : Int) (V : Int) xs n s = true) : Calls Try.prog 21 #[fieldV (F : Int) s, maskV (V : Int) A n cap, .int .i64 size] w (AnsA (F : Int) (V : Int) xs n s size w) := by
  obtain ⟨i2, hif2, hz0, hz1, hz2⟩ := info_parts info_p3
  have hm := hr.1
  have ka := kept_alloc (kept_alloc (kept_refl w) (.cells #[.int .i64 (F : Nat), .string s] 30)) (.cells #[.int .i64 (V : Nat), .slice A n cap] 33)
  have hbf := blk_alloc (blk_new w (.cells #[.int .i64 (F : Nat), .string s] 30)) (.cells #[.int .i64 (V : Nat), .slice A n cap] 33)
  have hbm := blk_new1 w (.cells #[.int .i64 (F : Nat), .string s] 30) (.cells #[.int .i64 (V : Nat), .slice A n cap] 33)
  have R := fun w1 => fieldright_c (F : Int) s (by omega) w1
  have M := fun w1 h => may_c (V : Int) A cap n xs hu hl w1 h
  have hok' := hok
  unfold fok at hok'
  rw [Bool.and_eq_true] at hok'
  obtain ⟨hrb, hmb⟩ := hok'
  rw [hrb] at R
  rw [hmb] at M
  have hE : allE (F : Int) (V : Int) xs n s size = firstE (turnE (F : Int) (V : Int) xs n s size) 4 := by unfold allE; rw [if_pos hok]
  have hP0 : firstE (turnE (F : Int) (V : Int) xs n s size) 4 = 0 → allP (F : Int) (V : Int) xs n s size = allT (turnL (F : Int) (V : Int) xs n s size) 4 := fun h => by unfold allP; rw [hE, if_pos h]
  have hP1 : firstE (turnE (F : Int) (V : Int) xs n s size) 4 ≠ 0 → allP (F : Int) (V : Int) xs n s size = [] := fun h => by unfold allP; rw [hE, if_neg h]
  have HP0 := Lib.hid hP0
  have HP1 := Lib.hid hP1
  have HE := Lib.hid hE
  have TE : ∀ k : Nat, findE (F : Int) (wideN V (n / V) k : Nat) (turnF xs V n k) n s size = turnE (F : Int) (V : Int) xs n s size k := fun k => by unfold turnE; rw [Int.toNat_natCast]
  have TL : ∀ k : Nat, findL (F : Int) (wideN V (n / V) k : Nat) (turnF xs V n k) n s size = turnL (F : Int) (V : Int) xs n s size k := fun k => by unfold turnL; rw [Int.toNat_natCast]
  have hLe : ∀ k, (turnL (F : Int) (V : Int) xs n s size k).length ≤ 5000 := fun k => findL_le _ _ _ _ _ _
  have HLE := Lib.hid hLe
  have hAL := allT_le hLe
  have HAL := Lib.hid hAL
  have hTs := allT_succ (turnL (F : Int) (V : Int) xs n s size)
  have HTS := Lib.hid hTs
  clear hP0 hP1 hE hLe hAL hTs hrb
  go_enter Try.func21, Try.ntmps21
  go_wp2_with fail
  refine (R _).mono ?_
  rintro e w1 ⟨rfl, hk1⟩
  have c0 := cell_at (blk_kept hk1 hbm) 0 rfl
  have c1 := cell_at (blk_kept hk1 hbm) 1 rfl
  go_wp2_with fail
  refine (M _ (hr.kept (kept_trans ka hk1))).mono ?_
  rintro e w2 ⟨rfl, hk2⟩
  replace hk2 := kept_trans hk1 hk2
  replace hbm := blk_kept hk2 hbm
  replace hbf := blk_kept hk2 hbf
  replace ka := kept_trans ka hk2
  clear hk1 hk2 R M c0 c1
  go_wp2_with fail
  go_loopw [8, 25] (fun v i wr => ∃ q : Nat, q ≤ 4 ∧ i = .int .i64 q ∧ wr.ownsRow w2.heap.size 52 3 v (allT (turnL (F : Int) (V : Int) xs n s size) q).length ((flat3 F (allT (turnL (F : Int) (V : Int) xs n s size) q)).map (Value.int .i64)) ∧ Hid (∀ j, j < q → turnE (F : Int) (V : Int) xs n s size j = 0) ∧ Kept w2 wr) (fun _ i _ => 4 - (intOf i).toNat)
  case atStart => exact ⟨0, by decide, rfl, World.ownsRow_nil _ _ _ _, Lib.hid (fun j hj => absurd hj (Nat.not_lt_zero j)), kept_refl _⟩
  case round =>
    obtain ⟨q, hq, rfl, hown, HZ, hk⟩ := hrel
    by_cases hlt : q < 4
    · have c0 := cell_at (blk_kept hk hbm) 0 rfl
      have c1 := cell_at (blk_kept hk hbm) 1 rfl
      have T := turnm_c (V : Int) A cap n xs (q : Int) (by omega) (by omega) hu hl hn wr (hr.kept (kept_trans ka hk))
      go_wp2_with fail
      refine T.mono ?_
      clear T
      rintro e w3 (⟨_, A3, c3, rfl, rd3, hk3, hc3⟩ | ⟨hbad, _, _⟩)
      rotate_left
      · rw [hmb] at hbad; cases hbad
      rw [Int.toNat_natCast] at rd3 ⊢
      replace hown := rowKept hown hk3
      replace hk := kept_trans hk hk3
      clear c0 c1 hk3
      have FC := fun w4 h => find_c (F : Int) (wideN V (n / V) (q : Nat) : Nat) A3 c3 n (turnF xs V n (q : Nat)) s size (turnF_u64 hu V n q) (turnF_len xs V n q) hn hs w4 h
      have TEq := TE q
      have TLq := TL q
      unfold AnsF at FC
      rw [TEq, TLq, Int.toNat_natCast] at FC
      have HLq := HLE.out q
      have HTq := HTS.out q
      have HAq := HAL.out q
      have HT := Lib.hid HTq
      clear TEq TLq HTq
      have f0 := cell_at (blk_kept hk hbf) 0 rfl
      have f1 := cell_at (blk_kept hk hbf) 1 rfl
      have kb := kept_alloc (kept_refl w3) (.cells #[.int .i64 (wideN V (n / V) (q : Nat) : Nat), .slice A3 n c3] 33)
      have hlf : w.heap.size < w3.heap.size := blk_lt' (blk_kept hk hbf)
      generalize wideN V (n / V) (q : Nat) = WW at *
      generalize hTE : turnE (F : Int) (V : Int) xs n s size q = ee at *
      generalize hTL : turnL (F : Int) (V : Int) xs n s size q = ll at *
      have HTE := Lib.hid hTE
      have HTL := Lib.hid hTL
      clear hTE hTL
      generalize findN (F : Int) (WW : Int) (turnF xs V n (q : Nat)) n s size = nn at *
      go_wp2_with fail
      refine (FC _ (rd3.kept kb)).mono ?_
      rintro e w5 ⟨v5, rfl, own5, hk5⟩
      have kk := kept_trans kb hk5
      have hown5 := rowKept hown kk
      have hfar : ∀ g, u8.ownBlock = some g → v5.ownBlock ≠ some g := fun g hg e => by
        have h1 := (World.ownsRow.lt hown g hg).2
        have h2 := (World.ownsRow.lt own5 g e).1
        have h3 := kb.size
        omega
      replace hk := kept_trans hk kk
      clear FC hown f0 f1 kb kk hk5 rd3
      by_cases hee : ee = 0
      · subst hee
        obtain ⟨A5, c5, rfl, hl5, _⟩ := own5.rd (by omega)
        unfold Own2 at own5
        replace own5 := World.ownsRow.less2 own5 (show w3.heap.size + 1 ≤ (w3.alloc (.cells #[.int .i64 (WW : Nat), .slice A3 n c3] 33)).heap.size by simp)
        go_wp2_with fail
        go_loopw [8, 47] (fun v i wr => ∃ j : Nat, j ≤ ll.length ∧ i = .int .i64 j ∧ wr.ownsRow w2.heap.size 52 3 v (allT (turnL (F : Int) (V : Int) xs n s size) q ++ (ll.take j).map fun i => (q, i)).length ((flat3 F (allT (turnL (F : Int) (V : Int) xs n s size) q ++ (ll.take j).map fun i => (q, i))).map (Value.int .i64)) ∧ wr.ownsRow (w3.heap.size + 1) 53 2 (.slice A5 ll.length c5) ll.length ((flatP F ll).map (Value.int .i64)) ∧ (∀ g, v.ownBlock = some g → (Value.slice A5 ll.length c5).ownBlock ≠ some g) ∧ Kept w2 wr) (fun _ i _ => ll.length - (intOf i).toNat)
        case atStart => exact ⟨0, Nat.zero_le _, rfl, by rw [List.take_zero, List.map_nil, List.append_nil]; exact hown5, own5, hfar, hk⟩
        case round =>
          clear hown5 own5 hfar hk
          obtain ⟨j, hj, rfl, hown, ownL, hne, hk⟩ := hrel
          by_cases hjl : j < ll.length
          · obtain ⟨gl, cl, e5, _, hgl⟩ := World.ownsRow.form ownL (by omega)
            simp only [Value.slice.injEq, true_and] at e5
            obtain ⟨rfl, rfl⟩ := e5
            have x0 := World.ownsRow.cellAt ownL (j * 2) (by omega)
            have x1 := World.ownsRow.cellAt ownL (j * 2 + 1) (by omega)
            obtain ⟨y0, y1⟩ := flatP_at (F := F) hjl
            rw [List.getElem?_map, List.getElem?_eq_getElem (by rw [flatP_length]; omega), Option.map_some, ← nth_lt (by rw [flatP_length]; omega), y0] at x0
            rw [List.getElem?_map, List.getElem?_eq_getElem (by rw [flatP_length]; omega), Option.map_some, ← nth_lt (by rw [flatP_length]; omega), y1] at x1
            have hnx := take_next hjl q
            have hfl := flat3_append F (allT (turnL (F : Int) (V : Int) xs n s size) q ++ (ll.take j).map fun i => (q, i)) [(q, ll[j])]
            rw [flat3_one] at hfl
            have hlen : (allT (turnL (F : Int) (V : Int) xs n s size) q ++ (ll.take j).map fun i => (q, i)).length ≤ 30000 := by
              rw [List.length_append, List.length_map, List.length_take]; omega
            have HNX := Lib.hid (⟨hnx, hfl⟩ : _ ∧ _)
            clear hnx hfl y0 y1
            generalize hpq : (allT (turnL (F : Int) (V : Int) xs n s size) q ++ (ll.take j).map fun i => (q, i)) = pq at *
            have HPQ := Lib.hid hpq
            clear hpq
            generalize ll[j] % F = r at *
            generalize ll[j] / F = d at *
            have ea : (⟨gl, 0, none⟩ : Addr).add (j * 2) = ⟨gl, j * 2, none⟩ := by unfold Addr.add; split <;> simp_all
            have hb5 := hk.size
            have kb2 := kept_alloc (kept_refl wr) (.cells #[.int .i64 (r : Nat), .int .i64 (d : Nat)] 53)
            have x1' : wr.cell? ⟨gl, j * 2 + 1, none⟩ = some (.int .i64 (d : Nat)) := x1
            go_wp2_with (at_builtin; refine wpList_append_lies _ rfl _ _ 48 rfl w2.heap.size 52 i2 _ 3 24 Try.underlying48 hif2 hz0 hz1 hz2 rfl (by decide) _ _ _ rfl ((hown.alloc _).alloc _) ⟨wr.heap.size + 1, 0, none⟩ 1 1 [.int .i64 (q : Nat), .int .i64 (r : Nat), .int .i64 (d : Nat)] rfl rfl ?c1 ?c2 ?c3 ?c4 ?c5 ?c6 (wr.heap.size + 2) ?c7 ?_)
            case c1 => exact World.news_of_block (cs := #[.int .i64 (q : Nat), .int .i64 (r : Nat), .int .i64 (d : Nat)]) (t := 52) (fr := (0, 0)) (by rw [show wr.heap.size + 1 = (wr.alloc (.cells #[.int .i64 (r : Nat), .int .i64 (d : Nat)] 53)).heap.size by simp]; exact heap_alloc_new _ _)
            case c2 => simp [Value.oneCell']
            case c3 => decide
            case c4 => unfold maxLen; omega
            case c5 => omega
            case c6 => simp; omega
            case c7 => simp
            intro g capn wn own9 hgrow hat hlt9
            have K9 := kept_grown (kept_alloc (kept_alloc hk _) _) ((hown.alloc _).alloc _) (Nat.le_refl _) hgrow
            have ownL2 := World.ownsRow.kept ((ownL.alloc _).alloc _) hgrow (by
              cases h8 : u8.ownBlock with
              | none => exact .inr (by simp [Value.ownBlock])
              | some g0 => exact .inr fun e => hne g0 h8 e)
            have own10 : wn.ownsRow w2.heap.size 52 3 (.slice (some ⟨g, 0, none⟩) (pq.length + 1) capn) (allT (turnL (F : Int) (V : Int) xs n s size) q ++ (ll.take (j + 1)).map fun i => (q, i)).length ((flat3 F (allT (turnL (F : Int) (V : Int) xs n s size) q ++ (ll.take (j + 1)).map fun i => (q, i))).map (Value.int .i64)) := by
              rw [HNX.out.1, ← List.append_assoc, HPQ.out, HNX.out.2, List.map_append, List.length_append]; exact own9
            have hnn : ∀ g', (Value.slice (some ⟨g, 0, none⟩) (pq.length + 1) capn).ownBlock = some g' → (Value.slice (some ⟨gl, 0, none⟩) ll.length c5).ownBlock ≠ some g' := fun g' h1 h2 => by
              obtain rfl : g = g' := by simpa [Value.ownBlock] using h1
              obtain rfl : gl = g := by simpa [Value.ownBlock] using h2
              rcases hat with h | h
              · exact hne _ h (by simp [Value.ownBlock])
              · omega
            clear own9 hgrow hat hlt9 hown ownL hne hk HNX HPQ x0 x1 x1' kb2
            go_wp2_with fail
            exact ⟨⟨j + 1, by omega, by go_num, own10, ownL2, hnn, K9⟩, by simp [intOf]; omega⟩
          · obtain rfl : j = ll.length := by omega
            have hown' : wr.ownsRow w2.heap.size 52 3 u8 (allT (turnL (F : Int) (V : Int) xs n s size) (q + 1)).length ((flat3 F (allT (turnL (F : Int) (V : Int) xs n s size) (q + 1))).map (Value.int .i64)) := by
              rw [HT.out]
              rw [List.take_length] at hown
              exact hown
            have HZ2 : Hid (∀ j, j < q + 1 → turnE (F : Int) (V : Int) xs n s size j = 0) := Lib.hid fun j hj => by
              rcases Nat.lt_or_ge j q with h | h
              · exact HZ.out j h
              · obtain rfl : j = q := by omega
                exact HTE.out
            clear hown ownL hne HZ
            go_wp2_with fail
            exact ⟨⟨q + 1, by omega, by go_num, hown', HZ2, hk⟩, by simp [intOf]; omega⟩
      · have heb : (ee != 0) = true := bne_iff_ne.2 hee
        have heb2 : (ee == 0) = false := beq_eq_false_iff_ne.2 hee
        have hfe : firstE (turnE (F : Int) (V : Int) xs n s size) 4 = ee := by
          have h := firstE_at HZ.out (by rw [HTE.out]; exact hee) (4 - (q + 1))
          rw [show q + 1 + (4 - (q + 1)) = 4 by omega, HTE.out] at h
          exact h
        have hAE : allE (F : Int) (V : Int) xs n s size = ee := by rw [HE.out, hfe]
        have hAP : allP (F : Int) (V : Int) xs n s size = [] := HP1.out (by rw [hfe]; exact hee)
        have HAE := Lib.hid (⟨hAE, hAP⟩ : _ ∧ _)
        clear hfe hAE hAP
        go_wp2_with fail
        unfold AnsA
        rw [HAE.out.1, HAE.out.2]
        exact bodyPost_ret (v := .tuple #[.slice none 0 0, .int .i64 ee]) (by simp [results, Try.results21, go_sem]) rfl ⟨_, rfl, World.ownsRow_nil _ _ _ _, kept_trans ka hk⟩
    · obtain rfl : q = 4 := by omega
      have hfe := firstE_zero HZ.out
      have hAE : allE (F : Int) (V : Int) xs n s size = 0 := by rw [HE.out, hfe]
      have hAP := HP0.out hfe
      have HAE := Lib.hid (⟨hAE, hAP⟩ : _ ∧ _)
      clear hfe hAE hAP
      go_wp2_with fail
      unfold AnsA
      rw [HAE.out.1, HAE.out.2, Int.toNat_natCast]
      exact bodyPost_ret (v := .tuple #[u8, .int .i64 0]) (by simp [results, Try.results21, go_sem]) rfl ⟨_, rfl, World.ownsRow.less2 hown (by have := ka.size; omega), kept_trans ka hk⟩
set_option maxRecDepth 100000 in
set_option maxHeartbeats 16000000 in
theorem rall_main (F V : Nat) (A : Option Addr) (cap n : Nat) (xs : List Int) (s : ByteArray) (size : Int) (hu : U64 xs) (hl : xs.length = 4 * n) (hn : n ≤ 1000000) (hs : s.size ≤ 1000000) (w : World) (hr : Rd .u64 w A xs) (hV : 1 ≤ V) (hok : fok (F : Int) (V : Int) xs n s = true) : Calls Try.prog 22 #[fieldV (F : Int) s, maskV (V : Int) A n cap, .int .i64 size] w (AnsA (F : Int) (V : Int) xs n s size w) := by
  obtain ⟨i2, hif2, hz0, hz1, hz2⟩ := info_parts info_p3
  have hm := hr.1
  have ka := kept_alloc (kept_alloc (kept_refl w) (.cells #[.int .i64 (F : Nat), .string s] 23)) (.cells #[.int .i64 (V : Nat), .slice A n cap] 26)
  have hbf := blk_alloc (blk_new w (.cells #[.int .i64 (F : Nat), .string s] 23)) (.cells #[.int .i64 (V : Nat), .slice A n cap] 26)
  have hbm := blk_new1 w (.cells #[.int .i64 (F : Nat), .string s] 23) (.cells #[.int .i64 (V : Nat), .slice A n cap] 26)
  have R := fun w1 => rfieldright_c (F : Int) s (by omega) w1
  have M := fun w1 h => rmay_c (V : Int) A cap n xs hu hl w1 h
  have hok' := hok
  unfold fok at hok'
  rw [Bool.and_eq_true] at hok'
  obtain ⟨hrb, hmb⟩ := hok'
  rw [hrb] at R
  rw [hmb] at M
  have hE : allE (F : Int) (V : Int) xs n s size = firstE (turnE (F : Int) (V : Int) xs n s size) 4 := by unfold allE; rw [if_pos hok]
  have hP0 : firstE (turnE (F : Int) (V : Int) xs n s size) 4 = 0 → allP (F : Int) (V : Int) xs n s size = allT (turnL (F : Int) (V : Int) xs n s size) 4 := fun h => by unfold allP; rw [hE, if_pos h]
  have hP1 : firstE (turnE (F : Int) (V : Int) xs n s size) 4 ≠ 0 → allP (F : Int) (V : Int) xs n s size = [] := fun h => by unfold allP; rw [hE, if_neg h]
  have HP0 := Lib.hid hP0
  have HP1 := Lib.hid hP1
  have HE := Lib.hid hE
  have TE : ∀ k : Nat, findE (F : Int) (wideN V (n / V) k : Nat) (turnF xs V n k) n s size = turnE (F : Int) (V : Int) xs n s size k := fun k => by unfold turnE; rw [Int.toNat_natCast]
  have TL : ∀ k : Nat, findL (F : Int) (wideN V (n / V) k : Nat) (turnF xs V n k) n s size = turnL (F : Int) (V : Int) xs n s size k := fun k => by unfold turnL; rw [Int.toNat_natCast]
  have hLe : ∀ k, (turnL (F : Int) (V : Int) xs n s size k).length ≤ 5000 := fun k => findL_le _ _ _ _ _ _
  have HLE := Lib.hid hLe
  have hAL := allT_le hLe
  have HAL := Lib.hid hAL
  have hTs := allT_succ (turnL (F : Int) (V : Int) xs n s size)
  have HTS := Lib.hid hTs
  clear hP0 hP1 hE hLe hAL hTs hrb
  go_enter Try.func22, Try.ntmps22
  go_wp2_with fail
  refine (R _).mono ?_
  rintro e w1 ⟨rfl, hk1⟩
  have c0 := cell_at (blk_kept hk1 hbm) 0 rfl
  have c1 := cell_at (blk_kept hk1 hbm) 1 rfl
  go_wp2_with fail
  refine (M _ (hr.kept (kept_trans ka hk1))).mono ?_
  rintro e w2 ⟨rfl, hk2⟩
  replace hk2 := kept_trans hk1 hk2
  replace hbm := blk_kept hk2 hbm
  replace hbf := blk_kept hk2 hbf
  replace ka := kept_trans ka hk2
  clear hk1 hk2 R M c0 c1
  go_wp2_with fail
  go_loopw [8, 9] (fun v i wr => ∃ q : Nat, q ≤ 4 ∧ i = .int .i64 q ∧ wr.ownsRow w2.heap.size 52 3 v (allT (turnL (F : Int) (V : Int) xs n s size) q).length ((flat3 F (allT (turnL (F : Int) (V : Int) xs n s size) q)).map (Value.int .i64)) ∧ Hid (∀ j, j < q → turnE (F : Int) (V : Int) xs n s size j = 0) ∧ Kept w2 wr) (fun _ i _ => 4 - (intOf i).toNat)
  case atStart => exact ⟨0, by decide, rfl, World.ownsRow_nil _ _ _ _, Lib.hid (fun j hj => absurd hj (Nat.not_lt_zero j)), kept_refl _⟩
  case round =>
    obtain ⟨q, hq, rfl, hown, HZ, hk⟩ := hrel
    by_cases hlt : q < 4
    · have c0 := cell_at (blk_kept hk hbm) 0 rfl
      have c1 := cell_at (blk_kept hk hbm) 1 rfl
      have T := rturnm_c (V : Int) A cap n xs (q : Int) (by omega) (by omega) hu hl hn wr (hr.kept (kept_trans ka hk))
      go_wp2_with fail
      refine T.mono ?_
      clear T
      rintro e w3 (⟨_, A3, c3, rfl, rd3, hk3, hc3⟩ | ⟨hbad, _, _⟩)
      rotate_left
      · rw [hmb] at hbad; cases hbad
      rw [Int.toNat_natCast] at rd3 ⊢
      replace hown := rowKept hown hk3
      replace hk := kept_trans hk hk3
      clear c0 c1 hk3
      have FC := fun w4 h => rfind_c (F : Int) (wideN V (n / V) (q : Nat) : Nat) A3 c3 n (turnF xs V n (q : Nat)) s size (turnF_u64 hu V n q) (turnF_len xs V n q) hn hs w4 h
      have TEq := TE q
      have TLq := TL q
      unfold AnsF at FC
      rw [TEq, TLq, Int.toNat_natCast] at FC
      have HLq := HLE.out q
      have HTq := HTS.out q
      have HAq := HAL.out q
      have HT := Lib.hid HTq
      clear TEq TLq HTq
      have f0 := cell_at (blk_kept hk hbf) 0 rfl
      have f1 := cell_at (blk_kept hk hbf) 1 rfl
      have kb := kept_alloc (kept_refl w3) (.cells #[.int .i64 (wideN V (n / V) (q : Nat) : Nat), .slice A3 n c3] 26)
      have hlf : w.heap.size < w3.heap.size := blk_lt' (blk_kept hk hbf)
      generalize wideN V (n / V) (q : Nat) = WW at *
      generalize hTE : turnE (F : Int) (V : Int) xs n s size q = ee at *
      generalize hTL : turnL (F : Int) (V : Int) xs n s size q = ll at *
      have HTE := Lib.hid hTE
      have HTL := Lib.hid hTL
      clear hTE hTL
      generalize findN (F : Int) (WW : Int) (turnF xs V n (q : Nat)) n s size = nn at *
      go_wp2_with fail
      refine (FC _ (rd3.kept kb)).mono ?_
      rintro e w5 ⟨v5, rfl, own5, hk5⟩
      have kk := kept_trans kb hk5
      have hown5 := rowKept hown kk
      have hfar : ∀ g, u8.ownBlock = some g → v5.ownBlock ≠ some g := fun g hg e => by
        have h1 := (World.ownsRow.lt hown g hg).2
        have h2 := (World.ownsRow.lt own5 g e).1
        have h3 := kb.size
        omega
      replace hk := kept_trans hk kk
      clear FC hown f0 f1 kb kk hk5 rd3
      by_cases hee : ee = 0
      · subst hee
        obtain ⟨A5, c5, rfl, hl5, _⟩ := own5.rd (by omega)
        unfold Own2 at own5
        replace own5 := World.ownsRow.less2 own5 (show w3.heap.size + 1 ≤ (w3.alloc (.cells #[.int .i64 (WW : Nat), .slice A3 n c3] 26)).heap.size by simp)
        go_wp2_with fail
        go_loopw [8, 15] (fun v i wr => ∃ j : Nat, j ≤ ll.length ∧ i = .int .i64 j ∧ wr.ownsRow w2.heap.size 52 3 v (allT (turnL (F : Int) (V : Int) xs n s size) q ++ (ll.take j).map fun i => (q, i)).length ((flat3 F (allT (turnL (F : Int) (V : Int) xs n s size) q ++ (ll.take j).map fun i => (q, i))).map (Value.int .i64)) ∧ wr.ownsRow (w3.heap.size + 1) 53 2 (.slice A5 ll.length c5) ll.length ((flatP F ll).map (Value.int .i64)) ∧ (∀ g, v.ownBlock = some g → (Value.slice A5 ll.length c5).ownBlock ≠ some g) ∧ Kept w2 wr) (fun _ i _ => ll.length - (intOf i).toNat)
        case atStart => exact ⟨0, Nat.zero_le _, rfl, by rw [List.take_zero, List.map_nil, List.append_nil]; exact hown5, own5, hfar, hk⟩
        case round =>
          clear hown5 own5 hfar hk
          obtain ⟨j, hj, rfl, hown, ownL, hne, hk⟩ := hrel
          by_cases hjl : j < ll.length
          · obtain ⟨gl, cl, e5, _, hgl⟩ := World.ownsRow.form ownL (by omega)
            simp only [Value.slice.injEq, true_and] at e5
            obtain ⟨rfl, rfl⟩ := e5
            have x0 := World.ownsRow.cellAt ownL (j * 2) (by omega)
            have x1 := World.ownsRow.cellAt ownL (j * 2 + 1) (by omega)
            obtain ⟨y0, y1⟩ := flatP_at (F := F) hjl
            rw [List.getElem?_map, List.getElem?_eq_getElem (by rw [flatP_length]; omega), Option.map_some, ← nth_lt (by rw [flatP_length]; omega), y0] at x0
            rw [List.getElem?_map, List.getElem?_eq_getElem (by rw [flatP_length]; omega), Option.map_some, ← nth_lt (by rw [flatP_length]; omega), y1] at x1
            have hnx := take_next hjl q
            have hfl := flat3_append F (allT (turnL (F : Int) (V : Int) xs n s size) q ++ (ll.take j).map fun i => (q, i)) [(q, ll[j])]
            rw [flat3_one] at hfl
            have hlen : (allT (turnL (F : Int) (V : Int) xs n s size) q ++ (ll.take j).map fun i => (q, i)).length ≤ 30000 := by
              rw [List.length_append, List.length_map, List.length_take]; omega
            have HNX := Lib.hid (⟨hnx, hfl⟩ : _ ∧ _)
            clear hnx hfl y0 y1
            generalize hpq : (allT (turnL (F : Int) (V : Int) xs n s size) q ++ (ll.take j).map fun i => (q, i)) = pq at *
            have HPQ := Lib.hid hpq
            clear hpq
            generalize ll[j] % F = r at *
            generalize ll[j] / F = d at *
            have ea : (⟨gl, 0, none⟩ : Addr).add (j * 2) = ⟨gl, j * 2, none⟩ := by unfold Addr.add; split <;> simp_all
            have hb5 := hk.size
            have hnb : some gl ≠ u8.ownBlock := fun e => hne gl e.symm rfl
            have x1' : wr.cell? ⟨gl, j * 2 + 1, none⟩ = some (.int .i64 (d : Nat)) := x1
            have x0' : wr.cell? ⟨gl, j * 2, none⟩ = some (.int .i64 (r : Nat)) := x0
            have hj1 : (0 : Int) ≤ (j : Int) := Int.natCast_nonneg _
            have hj2 : (j : Int) < (ll.length : Int) := Int.ofNat_lt.2 hjl
            have hj3 : (j : Int).toNat = j := Int.toNat_natCast _
            go_wp2_with fail
            go_region_held3 (fun w' => w'.cell? ⟨gl, j * 2, none⟩ = some (.int .i64 (r : Nat)) ∧ w'.cell? ⟨gl, j * 2 + 1, none⟩ = some (.int .i64 (d : Nat))) (first | go_keep | exact ⟨D1, D2⟩) ((refine step_append_lies _ (by rfl) _ _ _ (by rfl) w2.heap.size 52 i2 _ 3 24 Try.underlying48 hif2 hz0 hz1 hz2 rfl (by omega) _ pq.length _ (by rfl) ((World.ownsRow.alloc hown _).drew) ⟨wr.heap.size, 0, none⟩ 1 1 [.int .i64 (q : Nat), .int .i64 (r : Nat), .int .i64 (d : Nat)] (by rfl) (by rfl) (World.news_of_block (cs := #[.int .i64 (q : Nat), .int .i64 (r : Nat), .int .i64 (d : Nat)]) (t := 52) (fr := (0, 0)) (heap_alloc_new wr _)) (by simp [Value.oneCell']) (by omega) (by unfold maxLen; omega) (by omega) (by simp; omega) (wr.heap.size + 1) (by simp) ?_; intro g capn wn own9 hgrow hat hlt9; have D1 := far_cell hgrow x0' hgl hnb; have D2 := far_cell (a := ⟨gl, j * 2 + 1, none⟩) hgrow x1' hgl hnb))
            have K9 := kept_grown (kept_drew (kept_alloc hk _)) ((World.ownsRow.alloc hown _).drew) (Nat.le_refl _) hgrow
            have ownL2 := World.ownsRow.kept ((World.ownsRow.alloc ownL _).drew) hgrow (by
              cases h8 : u8.ownBlock with
              | none => exact .inr (by simp [Value.ownBlock])
              | some g0 => exact .inr fun e => hne g0 h8 e)
            have own10 : wn.ownsRow w2.heap.size 52 3 (.slice (some ⟨g, 0, none⟩) (pq.length + 1) capn) (allT (turnL (F : Int) (V : Int) xs n s size) q ++ (ll.take (j + 1)).map fun i => (q, i)).length ((flat3 F (allT (turnL (F : Int) (V : Int) xs n s size) q ++ (ll.take (j + 1)).map fun i => (q, i))).map (Value.int .i64)) := by
              rw [HNX.out.1, ← List.append_assoc, HPQ.out, HNX.out.2, List.map_append, List.length_append]; exact own9
            have hnn : ∀ g', (Value.slice (some ⟨g, 0, none⟩) (pq.length + 1) capn).ownBlock = some g' → (Value.slice (some ⟨gl, 0, none⟩) ll.length c5).ownBlock ≠ some g' := fun g' h1 h2 => by
              obtain rfl : g = g' := by simpa [Value.ownBlock] using h1
              obtain rfl : gl = g := by simpa [Value.ownBlock] using h2
              rcases hat with h | h
              · exact hne _ h (by simp [Value.ownBlock])
              · omega
            clear own9 hgrow hat hlt9 hown ownL hne hk HNX HPQ x0 x1 x0' x1'
            go_wp2_with fail
            exact ⟨⟨j + 1, by omega, by go_num, own10, ownL2, hnn, K9⟩, by simp [intOf]; omega⟩
          · obtain rfl : j = ll.length := by omega
            have hown' : wr.ownsRow w2.heap.size 52 3 u8 (allT (turnL (F : Int) (V : Int) xs n s size) (q + 1)).length ((flat3 F (allT (turnL (F : Int) (V : Int) xs n s size) (q + 1))).map (Value.int .i64)) := by
              rw [HT.out]
              rw [List.take_length] at hown
              exact hown
            have HZ2 : Hid (∀ j, j < q + 1 → turnE (F : Int) (V : Int) xs n s size j = 0) := Lib.hid fun j hj => by
              rcases Nat.lt_or_ge j q with h | h
              · exact HZ.out j h
              · obtain rfl : j = q := by omega
                exact HTE.out
            clear hown ownL hne HZ
            go_wp2_with fail
            exact ⟨⟨q + 1, by omega, by go_num, hown', HZ2, hk⟩, by simp [intOf]; omega⟩
      · have heb : (ee != 0) = true := bne_iff_ne.2 hee
        have heb2 : (ee == 0) = false := beq_eq_false_iff_ne.2 hee
        have hfe : firstE (turnE (F : Int) (V : Int) xs n s size) 4 = ee := by
          have h := firstE_at HZ.out (by rw [HTE.out]; exact hee) (4 - (q + 1))
          rw [show q + 1 + (4 - (q + 1)) = 4 by omega, HTE.out] at h
          exact h
        have hAE : allE (F : Int) (V : Int) xs n s size = ee := by rw [HE.out, hfe]
        have hAP : allP (F : Int) (V : Int) xs n s size = [] := HP1.out (by rw [hfe]; exact hee)
        have HAE := Lib.hid (⟨hAE, hAP⟩ : _ ∧ _)
        clear hfe hAE hAP
        go_wp2_with fail
        unfold AnsA
        rw [HAE.out.1, HAE.out.2]
        exact bodyPost_ret (v := .tuple #[.slice none 0 0, .int .i64 ee]) (by simp [results, Try.results22, go_sem]) rfl ⟨_, rfl, World.ownsRow_nil _ _ _ _, kept_trans ka hk⟩
    · obtain rfl : q = 4 := by omega
      have hfe := firstE_zero HZ.out
      have hAE : allE (F : Int) (V : Int) xs n s size = 0 := by rw [HE.out, hfe]
      have hAP := HP0.out hfe
      have HAE := Lib.hid (⟨hAE, hAP⟩ : _ ∧ _)
      clear hfe hAE hAP
      go_wp2_with fail
      unfold AnsA
      rw [HAE.out.1, HAE.out.2, Int.toNat_natCast]
      exact bodyPost_ret (v := .tuple #[u8, .int .i64 0]) (by simp [results, Try.results22, go_sem]) rfl ⟨_, rfl, World.ownsRow.less2 hown (by have := ka.size; omega), kept_trans ka hk⟩
theorem all_c (W V : Int) (A : Option Addr) (cap n : Nat) (xs : List Int) (s : ByteArray) (size : Int) (hu : U64 xs) (hl : xs.length = 4 * n) (hn : n ≤ 1000000) (hs : s.size ≤ 1000000) (w : World) (hr : Rd .u64 w A xs) : Calls Try.prog 21 #[fieldV W s, maskV V A n cap, .int .i64 size] w (AnsA W V xs n s size w) := by
  cases hok : fok W V xs n s
  · exact all_form W V A cap n xs s size hu hl hn hs w hr hok
  · obtain ⟨F, K, rfl, rfl, _, _, hK, _, _, _, _, _, _, _, _⟩ := fok_parts hok
    exact all_main F K A cap n xs s size hu hl hn hs w hr hK hok
theorem rall_c (W V : Int) (A : Option Addr) (cap n : Nat) (xs : List Int) (s : ByteArray) (size : Int) (hu : U64 xs) (hl : xs.length = 4 * n) (hn : n ≤ 1000000) (hs : s.size ≤ 1000000) (w : World) (hr : Rd .u64 w A xs) : Calls Try.prog 22 #[fieldV W s, maskV V A n cap, .int .i64 size] w (AnsA W V xs n s size w) := by
  cases hok : fok W V xs n s
  · exact rall_form W V A cap n xs s size hu hl hn hs w hr hok
  · obtain ⟨F, K, rfl, rfl, _, _, hK, _, _, _, _, _, _, _, _⟩ := fok_parts hok
    exact rall_main F K A cap n xs s size hu hl hn hs w hr hK hok
end Go.Proofs.Ythbbkmkaopgmdaa
