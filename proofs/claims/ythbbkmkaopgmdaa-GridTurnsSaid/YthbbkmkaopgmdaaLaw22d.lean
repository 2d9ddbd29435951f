/-
  Layer 22's statements: the walk of turns.
-/
import Derived.Test.YthbbkmkaopgmdaaLaw22
import Derived.Test.YthbbkmkaopgmdaaGridQ
namespace Go.Proofs.Ythbbkmkaopgmdaa
open Go.RowKit BG
attribute [local go_sem ↓] Go.wp_at_zero Go.wp_at_succ
set_option linter.unusedVariables false

set_option maxRecDepth 100000 in
set_option maxHeartbeats 8000000 in
theorem gridTurns_w (V : Int) (A : Option Addr) (cap n : Nat) (xs : List Int) (k : Int) (k1 : -9223372036854775808 ≤ k) (k2 : k ≤ 9223372036854775807) (hl : xs.length = 4 * n) (hn : n ≤ 9223372036854775807) (hu : U64 xs) (w : World) (hr : 4 * n ≤ 9223372036854775807 → Rd .u64 w A xs) : Calls Try.prog 5 #[maskV V A n cap, .int .i64 k] w (Ret (.bool true) w) := by
  have ka := kept_alloc (kept_refl w) (.cells #[.int .i64 V, .slice A n cap] 26)
  have hbm := blk_new w (.cells #[.int .i64 V, .slice A n cap] 26)
  have FW := fun w1 => few22_c 0 V ⟨#[]⟩ A cap n hn (by decide) w1
  by_cases hfew : n ≤ 400
  · have hr := hr (by omega)
    rw [show few22 (⟨#[]⟩ : ByteArray).size n = true by unfold few22; rw [show (⟨#[]⟩ : ByteArray).size = 0 from rfl]; simp [hfew]] at FW
    go_enter Try.func5, Try.ntmps5
    go_wp2_with fail
    refine (FW _).mono ?_
    rintro e w1 ⟨rfl, hk1⟩
    replace hbm := blk_kept hk1 hbm
    have hk := kept_trans ka hk1
    have rd := hr.kept hk
    clear FW ka hk1 hr
    have m0 : w1.cell? ⟨w.heap.size, 0, none⟩ = some (.int .i64 V) := cell_at hbm 0 rfl
    have m1 : w1.cell? ⟨w.heap.size, 1, none⟩ = some (.slice A n cap) := cell_at hbm 1 rfl
    have S1 := fun w1 h => turnm_c V A cap n xs k k1 k2 hu hl (by omega) w1 h
    have S2 := fun w1 h => rturnm_c V A cap n xs k k1 k2 hu hl (by omega) w1 h
    have AV := fun w => alive22_c w
    have htb := tmod_back k
    have hr3 : -4 < k.tmod 4 ∧ k.tmod 4 < 4 := by
      have := Int.mul_tdiv_add_tmod k 4
      have h1 := Int.tmod_lt_of_pos k (by decide : (0 : Int) < 4)
      have h2 := Int.lt_tmod_of_pos k (by decide : (0 : Int) < 4)
      omega
    generalize hr4 : k.tmod 4 = r at *
    go_wp2_with fail
    refine (S1 _ rd).mono ?_
    rintro e w2 (⟨hm, A2, c2, rfl, rd2, hk2, hc2⟩ | ⟨hm, rfl, hk2⟩)
    · replace hbm := blk_kept hk2 hbm
      replace hk := kept_trans hk hk2
      replace rd := rd.kept hk2
      clear m0 m1 S1 hk2
      obtain ⟨K, rfl, hK, hK2, hmod, h1, h2, hnK, hcz⟩ := mayb_parts hm
      rw [Int.toNat_natCast] at rd2 ⊢
      have ht := turn_may k hK hK2 h1 h2 hnK hcz
      have hbk := mask_back (xs := xs) (k := k) (k' := -r) htb hK h1 hnK
      have hu2 := turnF_u64 hu K n k
      have hl2 := turnF_len xs K n k
      have hl3 := turnF_len (turnF xs K n k) (wideN K (n / K) k) n (-r)
      have hSA : sameM (wideN K (n / K) k : Nat) (wideN K (n / K) k : Nat) (turnF xs K n k) (turnF xs K n k) n n = true := sameM_yes fun _ _ => rfl
      have hSB : sameM (K : Int) (K : Int) (turnF (turnF xs K n k) (wideN K (n / K) k) n (-r)) xs n n = true := sameM_yes hbk.2
      have hbk1 := hbk.1
      have S3 := fun w1 h => turnm_c (wideN K (n / K) k : Nat) A2 c2 n (turnF xs K n k) (-r) (by omega) (by omega) hu2 hl2 (by omega) w1 h
      unfold AnsT at S3
      rw [ht, Int.toNat_natCast, hbk1] at S3
      clear hbk ht hnK hcz hmod h1 h2 htb hbk1
      have lm := blk_lt' hbm
      have m0 : w2.cell? ⟨w.heap.size, 0, none⟩ = some (.int .i64 (K : Nat)) := cell_at hbm 0 rfl
      have m1 : w2.cell? ⟨w.heap.size, 1, none⟩ = some (.slice A n cap) := cell_at hbm 1 rfl
      have kb2 := kept_alloc (kept_refl w2) (.cells #[.int .i64 (wideN K (n / K) k : Nat), .slice A2 n c2] 33)
      have hba := blk_new w2 (.cells #[.int .i64 (wideN K (n / K) k : Nat), .slice A2 n c2] 33)
      go_wp2_with fail
      refine (S2 _ (rd.kept kb2)).mono ?_
      rintro e w3 (⟨_, A3, c3, rfl, rd3, hk3, hc3⟩ | ⟨hbad, _, _⟩)
      rotate_left
      · rw [hm] at hbad; cases hbad
      rw [Int.toNat_natCast] at rd3 ⊢
      replace hba := blk_kept hk3 hba
      replace hk3 := kept_trans kb2 hk3
      replace hbm := blk_kept hk3 hbm
      replace hk := kept_trans hk hk3
      replace rd := rd.kept hk3
      replace rd2 := rd2.kept hk3
      clear m0 m1 S2 hk3 kb2 lm
      generalize turnF (turnF xs K n k) (wideN K (n / K) k) n (-r) = zs at *
      generalize turnF xs K n k = ys at *
      generalize wideN K (n / K) k = WW at *
      generalize w2.heap.size = G2 at *
      have lm := blk_lt' hbm
      have la := blk_lt' hba
      have m0 : w3.cell? ⟨w.heap.size, 0, none⟩ = some (.int .i64 (K : Nat)) := cell_at hbm 0 rfl
      have m1 : w3.cell? ⟨w.heap.size, 1, none⟩ = some (.slice A n cap) := cell_at hbm 1 rfl
      have a0 : w3.cell? ⟨G2, 0, none⟩ = some (.int .i64 (WW : Nat)) := cell_at hba 0 rfl
      have a1 : w3.cell? ⟨G2, 1, none⟩ = some (.slice A2 n c2) := cell_at hba 1 rfl
      have kb3 := kept_alloc (kept_refl w3) (.cells #[.int .i64 (WW : Nat), .slice A3 n c3] 26)
      have SM := masksame_c (WW : Nat) (WW : Nat) A2 A3 c2 c3 n n ys ys hl2 hl2 _ (rd2.kept kb3) (rd3.kept kb3)
      rw [hSA] at SM
      go_wp2_with fail
      refine SM.mono ?_
      rintro e w4 ⟨rfl, hk4⟩
      replace hk4 := kept_trans kb3 hk4
      replace hbm := blk_kept hk4 hbm
      replace hba := blk_kept hk4 hba
      replace hk := kept_trans hk hk4
      replace rd := rd.kept hk4
      replace rd2 := rd2.kept hk4
      clear m0 m1 a0 a1 SM hk4 kb3 lm la rd3 hSA
      have m0 : w4.cell? ⟨w.heap.size, 0, none⟩ = some (.int .i64 (K : Nat)) := cell_at hbm 0 rfl
      have m1 : w4.cell? ⟨w.heap.size, 1, none⟩ = some (.slice A n cap) := cell_at hbm 1 rfl
      have a0 : w4.cell? ⟨G2, 0, none⟩ = some (.int .i64 (WW : Nat)) := cell_at hba 0 rfl
      have a1 : w4.cell? ⟨G2, 1, none⟩ = some (.slice A2 n c2) := cell_at hba 1 rfl
      go_wp2_with fail
      refine (S3 _ rd2).mono ?_
      rintro e w5 (⟨_, A5, c5, rfl, rd5, hk5, hc5⟩ | ⟨hbad, _, _⟩)
      rotate_left
      · cases hbad
      replace hbm := blk_kept hk5 hbm
      replace hk := kept_trans hk hk5
      replace rd := rd.kept hk5
      clear m0 m1 a0 a1 S3 hk5 rd2 hba
      have hbc := blk_new w5 (.cells #[.int .i64 (K : Nat), .slice A5 n c5] 33)
      have kb5 := kept_alloc (kept_refl w5) (.cells #[.int .i64 (K : Nat), .slice A5 n c5] 33)
      go_wp2_with fail
      refine (AV _).mono ?_
      rintro e w6 ⟨rfl, hk6⟩
      replace hbc := blk_kept hk6 hbc
      replace hk6 := kept_trans kb5 hk6
      replace hbm := blk_kept hk6 hbm
      replace hk := kept_trans hk hk6
      have SN := masksame_c (K : Nat) (K : Nat) A5 A c5 cap n n zs xs hl3 hl _ (rd5.kept hk6) (rd.kept hk6)
      rw [hSB] at SN
      generalize w5.heap.size = G5 at *
      clear AV hk6 kb5 rd rd5 hSB
      have m0 : w6.cell? ⟨w.heap.size, 0, none⟩ = some (.int .i64 (K : Nat)) := cell_at hbm 0 rfl
      have m1 : w6.cell? ⟨w.heap.size, 1, none⟩ = some (.slice A n cap) := cell_at hbm 1 rfl
      have b0 : w6.cell? ⟨G5, 0, none⟩ = some (.int .i64 (K : Nat)) := cell_at hbc 0 rfl
      have b1 : w6.cell? ⟨G5, 1, none⟩ = some (.slice A5 n c5) := cell_at hbc 1 rfl
      go_wp2_with fail
      refine SN.mono ?_
      rintro e w7 ⟨rfl, hk7⟩
      clear SN m0 m1 b0 b1
      go_wp2_with fail
      go_ret
      exact ⟨by simp, kept_trans hk hk7⟩
    · replace hbm := blk_kept hk2 hbm
      replace hk := kept_trans hk hk2
      replace rd := rd.kept hk2
      clear m0 m1 S1 hk2
      have lm := blk_lt' hbm
      have S3 := fun w1 => turnm_c 0 none 0 0 [] (-r) (by omega) (by omega) uN rfl (by decide) w1 (Rd.nil _ _ _)
      have m0 : w2.cell? ⟨w.heap.size, 0, none⟩ = some (.int .i64 V) := cell_at hbm 0 rfl
      have m1 : w2.cell? ⟨w.heap.size, 1, none⟩ = some (.slice A n cap) := cell_at hbm 1 rfl
      have kb2 := kept_alloc (kept_refl w2) (.cells #[.int .i64 0, .slice none 0 0] 33)
      have hba := blk_new w2 (.cells #[.int .i64 0, .slice none 0 0] 33)
      go_wp2_with fail
      refine (S2 _ (rd.kept kb2)).mono ?_
      rintro e w3 (⟨hbad, _⟩ | ⟨_, rfl, hk3⟩)
      · rw [hm] at hbad; cases hbad
      replace hba := blk_kept hk3 hba
      replace hk := kept_trans hk (kept_trans kb2 hk3)
      clear m0 m1 S2 hk3 kb2 lm hbm rd
      generalize w2.heap.size = G2 at *
      have la := blk_lt' hba
      have a0 : w3.cell? ⟨G2, 0, none⟩ = some (.int .i64 0) := cell_at hba 0 rfl
      have a1 : w3.cell? ⟨G2, 1, none⟩ = some (.slice none 0 0) := cell_at hba 1 rfl
      have kb3 := kept_alloc (kept_refl w3) (.cells #[.int .i64 0, .slice none 0 0] 26)
      have SM := masksame_c 0 0 none none 0 0 0 0 [] [] rfl rfl (w3.alloc (.cells #[.int .i64 0, .slice none 0 0] 26)) (Rd.nil _ _ _) (Rd.nil _ _ _)
      rw [show sameM 0 0 [] [] 0 0 = true from rfl] at SM
      go_wp2_with fail
      refine SM.mono ?_
      rintro e w4 ⟨rfl, hk4⟩
      replace hk4 := kept_trans kb3 hk4
      replace hba := blk_kept hk4 hba
      replace hk := kept_trans hk hk4
      clear a0 a1 SM hk4 kb3 la
      have a0 : w4.cell? ⟨G2, 0, none⟩ = some (.int .i64 0) := cell_at hba 0 rfl
      have a1 : w4.cell? ⟨G2, 1, none⟩ = some (.slice none 0 0) := cell_at hba 1 rfl
      go_wp2_with fail
      refine (S3 _).mono ?_
      rintro e w5 (⟨hbad, _⟩ | ⟨_, rfl, hk5⟩)
      · rw [a22_m.2.1] at hbad; cases hbad
      replace hk := kept_trans hk hk5
      clear a0 a1 S3 hk5 hba
      have kb5 := kept_alloc (kept_refl w5) (.cells #[.int .i64 0, .slice none 0 0] 33)
      go_wp2_with fail
      refine (AV _).mono ?_
      rintro e w6 ⟨rfl, hk6⟩
      clear AV
      go_wp2_with fail
      go_ret
      exact ⟨by simp, kept_trans hk (kept_trans kb5 hk6)⟩
  · rw [show few22 (⟨#[]⟩ : ByteArray).size n = false by unfold few22; rw [show (⟨#[]⟩ : ByteArray).size = 0 from rfl]; simp; omega] at FW
    go_enter Try.func5, Try.ntmps5
    go_wp2_with fail
    refine (FW _).mono ?_
    rintro e w1 ⟨rfl, hk1⟩
    go_wp2_with fail
    refine (alive22_c _).mono ?_
    rintro e w2 ⟨rfl, hk2⟩
    go_wp2_with fail
    go_ret
    exact ⟨rfl, kept_trans ka (kept_trans hk1 hk2)⟩
end Go.Proofs.Ythbbkmkaopgmdaa
