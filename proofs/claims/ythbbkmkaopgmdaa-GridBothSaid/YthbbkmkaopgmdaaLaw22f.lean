/-
  Layer 22's statements: a field and a mask that are both turned.
-/
import Derived.Test.YthbbkmkaopgmdaaLaw22
import Derived.Test.YthbbkmkaopgmdaaGridR
import Derived.Deep.RegionLaw
namespace Go.Proofs.Ythbbkmkaopgmdaa
open Go.RowKit BG
attribute [local go_sem ↓] Go.wp_at_zero Go.wp_at_succ
set_option linter.unusedVariables false

theorem info_u8n : (Try.prog.info? 5).map (fun i => (i.zero, i.size, i.bytes)) = some (some (.int .u8 0), 1, 1) := by kernel_rfl
/-- The bytes of a field turned, as values, and as a text. -/
def btv (s : ByteArray) (F R : Nat) (k : Int) (j : Nat) : List Value := (List.range j).map fun q => .int .u8 ((byteAt s (cellAt F R k q) : Nat) : Int)
theorem bt_succ (s : ByteArray) (F R : Nat) (k : Int) (j : Nat) : btv s F R k (j + 1) = btv s F R k j ++ [.int .u8 ((byteAt s (cellAt F R k j) : Nat) : Int)] := by unfold btv; rw [List.range_succ, List.map_append]; rfl
def btl (s : ByteArray) (F R : Nat) (k : Int) (n : Nat) : List UInt8 := (List.range n).map fun q => UInt8.ofNat (byteAt s (cellAt F R k q))
theorem btl_len (s : ByteArray) (F R : Nat) (k : Int) (n : Nat) : (btl s F R k n).length = n := by simp [btl]
theorem btl_at {s : ByteArray} {F R : Nat} {k : Int} {n j : Nat} (hj : j < (btl s F R k n).length) : (btl s F R k n)[j].toNat = byteAt s (cellAt F R k j) := by
  have e : (btl s F R k n)[j] = UInt8.ofNat (byteAt s (cellAt F R k j)) := by simp [btl]
  rw [e, UInt8.toNat_ofNat']
  have := byteAt_lt s (cellAt F R k j)
  omega
def bts (s : ByteArray) (F R : Nat) (k : Int) (n : Nat) : ByteArray := ⟨(btl s F R k n).toArray⟩
theorem bts_size (s : ByteArray) (F R : Nat) (k : Int) (n : Nat) : (bts s F R k n).size = n := by
  unfold bts ByteArray.size
  simp [btl_len]
theorem bts_at {s : ByteArray} {F R : Nat} {k : Int} {n j : Nat} (hj : j < n) : byteAt (bts s F R k n) j = byteAt s (cellAt F R k j) := by
  unfold byteAt
  rw [dif_pos (by rw [bts_size]; exact hj)]
  exact btl_at (by rw [btl_len]; exact hj)
theorem empty_size {s : ByteArray} (h : s.size = 0) : s = ⟨#[]⟩ := by
  obtain ⟨d⟩ := s
  have : d.size = 0 := h
  rw [Array.size_eq_zero_iff] at this
  rw [this]
theorem wpList_str22 {P : Program} {w : World} {ops : Array Oper} {rest : List Oper} {o : Oper} {a : Act} {Q : Exit → Act → World → Prop} (hgd : o.guard = none) (x : Operand) (src dst e : TypeId)
    (ho : o.op = .convert src dst x) (A : Addr) (cap n : Nat) (l : List UInt8) (hn : l.length = n) (hx : a.eval x = .slice (some A) n cap) (hs : P.underlying src = some (.slice e)) (he : P.underlying e = some (.int .u8)) (hd : P.underlying dst = some .string)
    (hc : ∀ j (hj : j < l.length), w.cell? (A.add j) = some (.int .u8 (l[j].toNat : Int))) (h : wpList P ops Q rest (a.put o.dst (.string ⟨l.toArray⟩)) w) : wpList P ops Q (o :: rest) a w := by
  subst hn
  refine wpList_plain hgd fun K hK => ?_
  have hrun := run_convert_bytes_back (P := P) w src dst e A cap l hs he hd hc
  unfold Oper.wp
  simp only [execOp, ho, hx, Sem.run_bind, hrun, Result.andThen_ok, Sem.run_pure]
  exact hK _ _ h
theorem bt_cells {s : ByteArray} {F R : Nat} {k : Int} {n g c base : Nat} {w : World} (h : w.ownsRow base 5 1 (.slice (some ⟨g, 0, none⟩) n c) n (btv s F R k n)) : ∀ q (hq : q < (btl s F R k n).length), w.cell? ((⟨g, 0, none⟩ : Addr).add q) = some (.int .u8 ((btl s F R k n)[q].toNat : Int)) := fun q hq => by
  rw [btl_at hq]
  rw [btl_len] at hq
  have := World.ownsRow.cells h rfl q (.int .u8 ((byteAt s (cellAt F R k q) : Nat) : Int)) (by unfold btv; rw [List.getElem?_map, List.getElem?_range hq]; rfl)
  exact this
theorem both_law {F V RR hh n : Nat} {k : Int} {xs : List Int} {s : ByteArray} (hF : 1 ≤ F) (hF2 : F ≤ 64) (hV : 1 ≤ V) (hV2 : V ≤ 64) (hR1 : 1 ≤ RR) (hRR : RR ≤ 64) (hh1 : 1 ≤ hh) (hhh : hh ≤ 64) (hVF : V ≤ F) (hhR : hh ≤ RR) (hN : s.size = F * RR) (hn : n = V * hh) (hmb : mayb (V : Int) xs n = true) (hok : fok (F : Int) (V : Int) xs n s = true) :
    findE (F : Int) (V : Int) xs n s 4096 = 0 ∧ findE (wideN F RR k : Nat) (wideN V hh k : Nat) (turnF xs V n k) n (bts s F RR k s.size) 4096 = 0 ∧ findL (F : Int) (V : Int) xs n s 4096 = placesL xs n s F V ((RR - hh + 1) * F) ∧ findL (wideN F RR k : Nat) (wideN V hh k : Nat) (turnF xs V n k) n (bts s F RR k s.size) 4096 = placesL (turnF xs V n k) n (bts s F RR k s.size) (wideN F RR k) (wideN V hh k) ((highN F RR k - highN V hh k + 1) * wideN F RR k) ∧ (bts s F RR k s.size).size = s.size ∧
    (placesL (turnF xs V n k) n (bts s F RR k s.size) (wideN F RR k) (wideN V hh k) ((highN F RR k - highN V hh k + 1) * wideN F RR k)).length = (placesL xs n s F V ((RR - hh + 1) * F)).length ∧
    ∀ j, j ∈ placesL (turnF xs V n k) n (bts s F RR k s.size) (wideN F RR k) (wideN V hh k) ((highN F RR k - highN V hh k + 1) * wideN F RR k) → j % wideN F RR k < wideN (F - V + 1) (RR - hh + 1) k ∧ j / wideN F RR k < highN (F - V + 1) (RR - hh + 1) k ∧ ∃ o, o ∈ placesL xs n s F V ((RR - hh + 1) * F) ∧ o % F = cellXY (F - V + 1) (RR - hh + 1) k (j % wideN F RR k) (j / wideN F RR k) % (F - V + 1) ∧ o / F = cellXY (F - V + 1) (RR - hh + 1) k (j % wideN F RR k) (j / wideN F RR k) / (F - V + 1) := by
  have e1 : s.size / F = RR := by rw [hN]; exact Nat.mul_div_cancel_left _ (by omega)
  have e2 : n / V = hh := by rw [hn]; exact Nat.mul_div_cancel_left _ (by omega)
  obtain ⟨d1, d2, d3⟩ := div_high (w := F) (h := RR) k (by omega) (by omega) hN
  obtain ⟨c1, c2, c3⟩ := div_high (w := V) (h := hh) k (by omega) (by omega) hn
  obtain ⟨b1, b2, b3, b4⟩ := both_parts k hVF hhR
  have wf := wide_pos (w := F) (h := RR) k (by omega) (by omega)
  have wl := wide_le (w := F) (h := RR) (m := 64) k hF2 hRR
  have vp := wide_pos (w := V) (h := hh) k (by omega) (by omega)
  have vl := wide_le (w := V) (h := hh) (m := 64) k hV2 hhh
  have hbs := bts_size s F RR k s.size
  obtain ⟨K, hK, _, _, _, _, _, _, hcz⟩ := mayb_parts hmb
  have hmt : mayb (wideN V hh k : Nat) (turnF xs V n k) n = true := by
    have := turn_may (xs := xs) (K := V) (n := n) k hV hV2 (by rw [e2]; exact hh1) (by rw [e2]; exact hhh) (by rw [e2]; exact hn) hcz
    rw [e2] at this
    exact this
  have hle : s.size ≤ 64 * wideN F RR k := by
    have := Nat.mul_le_mul_right (wideN F RR k) wl.2
    rw [Nat.mul_comm (highN F RR k)] at this
    omega
  have hok2 : fok (wideN F RR k : Nat) (wideN V hh k : Nat) (turnF xs V n k) n (bts s F RR k s.size) = true := by
    unfold fok
    rw [hmt, hbs, show rowsb (wideN F RR k : Nat) s.size = true from decide_eq_true ⟨by omega, by omega, by rw [Int.toNat_natCast]; exact d2, by rw [Int.toNat_natCast]; exact hle⟩]
    rfl
  have hfit1 : fitb F V n s.size = true := by unfold fitb; rw [e1, e2, decide_eq_true hVF, decide_eq_true hhR]; rfl
  have hfit2 : fitb (wideN F RR k) (wideN V hh k) n (bts s F RR k s.size).size = true := by unfold fitb; rw [hbs, d1, c1, decide_eq_true b3, decide_eq_true b4]; rfl
  have big : ∀ {a b c : Nat}, a ≤ 64 → 1 ≤ b → b ≤ 64 → c ≤ 64 → a * (b - 1) + c ≤ 4096 := fun {a b c} h1 h0 h2 h3 => by
    have := Nat.mul_le_mul h1 (show b - 1 ≤ 63 by omega)
    omega
  have hs1 : szb (longN F V n) 4096 = true := by
    unfold szb
    rw [show hasLog 4096 = true by decide +kernel, decide_eq_true (by unfold longN; rw [e2]; have := big (a := F) (b := hh) (c := V) hF2 hh1 hhh hV2; omega)]
    rfl
  have hs2 : szb (longN (wideN F RR k) (wideN V hh k) n) 4096 = true := by
    unfold szb
    rw [show hasLog 4096 = true by decide +kernel, decide_eq_true (by unfold longN; rw [c1]; have := big (a := wideN F RR k) (b := highN V hh k) (c := wideN V hh k) wl.1 vp.2 vl.2 vl.1; omega)]
    rfl
  have ht : ∀ j, j < F * RR → byteAt (bts s F RR k s.size) j = byteAt s (cellAt F RR k j) := fun j hj => bts_at (by omega)
  have hy : ∀ j, j < n → cls (turnF xs V n k) j = cls xs (cellAt V hh k j) := fun j hj => by rw [turnF_cls hj, e2]
  refine ⟨?_, ?_, ?_, ?_, hbs, both_count hV hh1 hVF hhR hn ht hy, fun j hj => both_there hV hh1 hVF hhR hn ht hy hj⟩
  · unfold findE; rw [if_pos hok, Int.toNat_natCast, Int.toNat_natCast, if_pos hfit1, if_pos hs1]
  · unfold findE; rw [if_pos hok2, Int.toNat_natCast, Int.toNat_natCast, if_pos hfit2, if_pos hs2]
  · unfold findL findOk; rw [hok, Int.toNat_natCast, Int.toNat_natCast, hfit1, hs1, e1, e2]; rfl
  · unfold findL findOk; rw [hok2, Int.toNat_natCast, Int.toNat_natCast, hfit2, hs2, hbs, d1, c1]; rfl
set_option maxRecDepth 100000 in
set_option maxHeartbeats 32000000 in
theorem both_main (F V : Nat) (s : ByteArray) (A : Option Addr) (cap n : Nat) (xs : List Int) (k : Int) (k1 : -9223372036854775808 ≤ k) (k2 : k ≤ 9223372036854775807) (hl : xs.length = 4 * n) (hn : n ≤ 400) (hs : s.size ≤ 400) (hu : U64 xs) (w : World) (hr : Rd .u64 w A xs) (hmF : s.size % F = 0) (hmV : n % V = 0) (hh1 : 1 ≤ n / V) (hF : 1 ≤ F) (hF2 : F ≤ 64) (hV : 1 ≤ V) (hV2 : V ≤ 64) (hRR : s.size / F ≤ 64) (hhh : n / V ≤ 64) (hok : fok (F : Int) (V : Int) xs n s = true) (hne : s.size ≠ 0) : Calls Try.prog 8 #[fieldV (F : Int) s, maskV (V : Int) A n cap, .int .i64 k] w (Ret (.bool true) w) := by
  have hk := kept_alloc (kept_alloc (kept_refl w) (.cells #[.int .i64 (F : Nat), .string s] 23)) (.cells #[.int .i64 (V : Nat), .slice A n cap] 26)
  have hbf := blk_alloc (blk_new w (.cells #[.int .i64 (F : Nat), .string s] 23)) (.cells #[.int .i64 (V : Nat), .slice A n cap] 26)
  have hbm := blk_new1 w (.cells #[.int .i64 (F : Nat), .string s] 23) (.cells #[.int .i64 (V : Nat), .slice A n cap] 26)
  have rd := hr.kept hk
  have FW := fun w1 => few22_c (F : Int) (V : Int) s A cap n (by omega) (by omega) w1
  rw [show few22 s.size n = true by unfold few22; simp [hs, hn]] at FW
  have AV := fun w => alive22_c w
  have R2 := fun w => rfieldright_c (F : Int) s (by omega) w
  have M2 := fun w h => rmay_c (V : Int) A cap n xs hu hl w h
  have hmb : mayb (V : Int) xs n = true := by unfold fok at hok; rw [Bool.and_eq_true] at hok; exact hok.2
  have hrb : rowsb (F : Int) s.size = true := by unfold fok at hok; rw [Bool.and_eq_true] at hok; exact hok.1
  rw [hrb] at R2
  rw [hmb] at M2
  have hNF : s.size = F * (s.size / F) := by have := Nat.div_add_mod s.size F; omega
  have hNV : n = V * (n / V) := by have := Nat.div_add_mod n V; omega
  have hR1 : 1 ≤ s.size / F := by
    rcases Nat.eq_zero_or_pos (s.size / F) with h | h
    · rw [h, Nat.mul_zero] at hNF; omega
    · exact h
  have hqF := tdiv_nat s.size F
  have hqV := tdiv_nat n V
  have hzF : ((F : Int) == 0) = false := by rw [beq_eq_false_iff_ne]; omega
  have hzV : ((V : Int) == 0) = false := by rw [beq_eq_false_iff_ne]; omega
  have C1 := fun w1 => cells_yes F (s.size / F) k k1 k2 (by omega) (by omega) hF2 hRR w1
  have T1 := fun w1 h => turnm_c (V : Int) A cap n xs k k1 k2 hu hl (by omega) w1 h
  have hcl : (cellsv F (s.size / F) k).length = s.size := by unfold cellsv; rw [mk_length]; omega
  generalize hRn : s.size / F = RR at *
  generalize hhn : n / V = hh at *
  have HNF := Lib.hid hNF
  have HNV := Lib.hid hNV
  have HRN := Lib.hid hRn
  have HHN := Lib.hid hhn
  have HCL := Lib.hid hcl
  clear hNF hNV hRn hhn hcl
  have f0 : ((w.alloc (.cells #[.int .i64 (F : Nat), .string s] 23)).alloc (.cells #[.int .i64 (V : Nat), .slice A n cap] 26)).cell? ⟨w.heap.size, 0, none⟩ = some (.int .i64 (F : Nat)) := cell_at hbf 0 rfl
  have f1 : ((w.alloc (.cells #[.int .i64 (F : Nat), .string s] 23)).alloc (.cells #[.int .i64 (V : Nat), .slice A n cap] 26)).cell? ⟨w.heap.size, 1, none⟩ = some (.string s) := cell_at hbf 1 rfl
  have m0 : ((w.alloc (.cells #[.int .i64 (F : Nat), .string s] 23)).alloc (.cells #[.int .i64 (V : Nat), .slice A n cap] 26)).cell? ⟨w.heap.size + 1, 0, none⟩ = some (.int .i64 (V : Nat)) := cell_at hbm 0 rfl
  have m1 : ((w.alloc (.cells #[.int .i64 (F : Nat), .string s] 23)).alloc (.cells #[.int .i64 (V : Nat), .slice A n cap] 26)).cell? ⟨w.heap.size + 1, 1, none⟩ = some (.slice A n cap) := cell_at hbm 1 rfl
  go_enter Try.func8, Try.ntmps8
  go_wp2_with fail
  refine (FW _).mono ?_
  rintro e w1 ⟨rfl, hk1⟩
  replace hbf := blk_kept hk1 hbf
  replace hbm := blk_kept hk1 hbm
  replace hk := kept_trans hk hk1
  replace rd := rd.kept hk1
  clear f0 f1 m0 m1 FW
  have f0 : w1.cell? ⟨w.heap.size, 0, none⟩ = some (.int .i64 (F : Nat)) := cell_at hbf 0 rfl
  have f1 : w1.cell? ⟨w.heap.size, 1, none⟩ = some (.string s) := cell_at hbf 1 rfl
  have m0 : w1.cell? ⟨w.heap.size + 1, 0, none⟩ = some (.int .i64 (V : Nat)) := cell_at hbm 0 rfl
  have m1 : w1.cell? ⟨w.heap.size + 1, 1, none⟩ = some (.slice A n cap) := cell_at hbm 1 rfl
  go_wp2_with fail
  refine (R2 _).mono ?_
  rintro e w2 ⟨rfl, hk2⟩
  replace hbf := blk_kept hk2 hbf
  replace hbm := blk_kept hk2 hbm
  replace hk := kept_trans hk hk2
  replace rd := rd.kept hk2
  clear f0 f1 m0 m1 R2
  have f0 : w2.cell? ⟨w.heap.size, 0, none⟩ = some (.int .i64 (F : Nat)) := cell_at hbf 0 rfl
  have f1 : w2.cell? ⟨w.heap.size, 1, none⟩ = some (.string s) := cell_at hbf 1 rfl
  have m0 : w2.cell? ⟨w.heap.size + 1, 0, none⟩ = some (.int .i64 (V : Nat)) := cell_at hbm 0 rfl
  have m1 : w2.cell? ⟨w.heap.size + 1, 1, none⟩ = some (.slice A n cap) := cell_at hbm 1 rfl
  go_wp2_with fail
  refine (M2 _ rd).mono ?_
  rintro e w3 ⟨rfl, hk3⟩
  replace hbf := blk_kept hk3 hbf
  replace hbm := blk_kept hk3 hbm
  replace hk := kept_trans hk hk3
  replace rd := rd.kept hk3
  clear f0 f1 m0 m1 M2
  have f0 : w3.cell? ⟨w.heap.size, 0, none⟩ = some (.int .i64 (F : Nat)) := cell_at hbf 0 rfl
  have f1 : w3.cell? ⟨w.heap.size, 1, none⟩ = some (.string s) := cell_at hbf 1 rfl
  have m0 : w3.cell? ⟨w.heap.size + 1, 0, none⟩ = some (.int .i64 (V : Nat)) := cell_at hbm 0 rfl
  have m1 : w3.cell? ⟨w.heap.size + 1, 1, none⟩ = some (.slice A n cap) := cell_at hbm 1 rfl
  cases hse : s.toList.isEmpty
  rotate_left
  · go_wp2_with fail
    refine (AV _).mono ?_
    rintro e w4 ⟨rfl, hk4⟩
    go_wp2_with fail
    go_ret
    exact ⟨rfl, kept_trans hk hk4⟩
  go_wp2_with fail
  have fs_0 := fun s => kw_cell s f0
  have fs_1 := fun s => kw_cell s f1
  have ms_0 := fun s => kw_cell s m0
  have ms_1 := fun s => kw_cell s m1
  refine wp_region_kept (by kernel_rfl) (by kernel_rfl) ?_
  repeat (first | go_big_quiet_skip | (go_big_quiet_want; go_big_quiet_op; go_big_quiet_on))
  refine wpQuiet_nil ?_
  rintro w4 ⟨⟨_, hk4⟩, rfl⟩
  clear fs_0 fs_1 ms_0 ms_1 hqF hqV hse
  replace hbf := blk_kept hk4 hbf
  replace hbm := blk_kept hk4 hbm
  replace hk := kept_trans hk hk4
  replace rd := rd.kept hk4
  clear f0 f1 m0 m1 hk4
  have f0 : w4.cell? ⟨w.heap.size, 0, none⟩ = some (.int .i64 (F : Nat)) := cell_at hbf 0 rfl
  have f1 : w4.cell? ⟨w.heap.size, 1, none⟩ = some (.string s) := cell_at hbf 1 rfl
  have m0 : w4.cell? ⟨w.heap.size + 1, 0, none⟩ = some (.int .i64 (V : Nat)) := cell_at hbm 0 rfl
  have m1 : w4.cell? ⟨w.heap.size + 1, 1, none⟩ = some (.slice A n cap) := cell_at hbm 1 rfl
  go_wp2_with fail
  refine (C1 _).mono ?_
  rintro e w5 ⟨v5, rfl, own5, hk5⟩
  obtain ⟨A5, c5, rfl, hc5, _, rd5⟩ := own5.rd
  rw [HCL.out] at hc5 ⊢
  replace hbf := blk_kept hk5 hbf
  replace hbm := blk_kept hk5 hbm
  replace hk := kept_trans hk hk5
  replace rd := rd.kept hk5
  clear f0 f1 m0 m1 C1 own5 hk5
  have f0 : w5.cell? ⟨w.heap.size, 0, none⟩ = some (.int .i64 (F : Nat)) := cell_at hbf 0 rfl
  have f1 : w5.cell? ⟨w.heap.size, 1, none⟩ = some (.string s) := cell_at hbf 1 rfl
  have m0 : w5.cell? ⟨w.heap.size + 1, 0, none⟩ = some (.int .i64 (V : Nat)) := cell_at hbm 0 rfl
  have m1 : w5.cell? ⟨w.heap.size + 1, 1, none⟩ = some (.slice A n cap) := cell_at hbm 1 rfl
  go_wp2_with fail
  refine (T1 _ rd).mono ?_
  rintro e w6 (⟨_, A6, c6, rfl, rd6, hk6, hc6⟩ | ⟨hbad2, _, _⟩)
  rotate_left
  · rw [hmb] at hbad2; cases hbad2
  rw [Int.toNat_natCast] at rd6 ⊢
  replace hbf := blk_kept hk6 hbf
  replace hbm := blk_kept hk6 hbm
  replace hk := kept_trans hk hk6
  replace rd := rd.kept hk6
  replace rd5 := rd5.kept hk6
  clear f0 f1 m0 m1 T1 hk6
  have f0 : w6.cell? ⟨w.heap.size, 0, none⟩ = some (.int .i64 (F : Nat)) := cell_at hbf 0 rfl
  have f1 : w6.cell? ⟨w.heap.size, 1, none⟩ = some (.string s) := cell_at hbf 1 rfl
  have m0 : w6.cell? ⟨w.heap.size + 1, 0, none⟩ = some (.int .i64 (V : Nat)) := cell_at hbm 0 rfl
  have m1 : w6.cell? ⟨w.heap.size + 1, 1, none⟩ = some (.slice A n cap) := cell_at hbm 1 rfl
  rw [HHN.out]
  have hy6 := turnF_u64 hu V n k
  have hl6 := turnF_len xs V n k
  have hWF := wide_le (w := F) (h := RR) (m := 64) k hF2 hRR
  have hWV := wide_le (w := V) (h := hh) (m := 64) k hV2 hhh
  have kb6 := kept_alloc (kept_refl w6) (.cells #[.int .i64 (wideN V hh k : Nat), .slice A6 n c6] 33)
  have hb6 := blk_new w6 (.cells #[.int .i64 (wideN V hh k : Nat), .slice A6 n c6] 33)
  have lf := blk_lt' hbf
  have lm := blk_lt' hbm
  by_cases hfit : V ≤ F ∧ hh ≤ RR
  rotate_left
  · have hd : decide (F < V) = true ∨ (decide (F < V) = false ∧ decide (RR < hh) = true) := by
      by_cases h : V ≤ F
      · exact .inr ⟨decide_eq_false (by omega), decide_eq_true (by omega)⟩
      · exact .inl (decide_eq_true (by omega))
    clear hfit hWF hWV
    rcases hd with d1 | ⟨d1, d2⟩
    · go_wp2_with fail
      refine (AV _).mono ?_
      rintro e w7 ⟨rfl, hk7⟩
      clear f0 f1 m0 m1
      go_wp2_with fail
      go_ret
      exact ⟨by simp, kept_trans hk (kept_trans kb6 hk7)⟩
    · go_wp2_with fail
      refine (AV _).mono ?_
      rintro e w7 ⟨rfl, hk7⟩
      clear f0 f1 m0 m1
      go_wp2_with fail
      go_ret
      exact ⟨by simp, kept_trans hk (kept_trans kb6 hk7)⟩
  obtain ⟨hVF, hhR⟩ := hfit
  have d1 : decide (F < V) = false := decide_eq_false (by omega)
  have d2 : decide (RR < hh) = false := decide_eq_false (by omega)
  have hct : ∀ j, j < s.size → cellAt F RR k j < s.size := fun j hj => by
    have h1 := HNF.out
    have := cell_lt (w := F) (h := RR) (p := j) k (by omega) (by omega) (by omega)
    omega
  have hcn : ∀ j, j < s.size → nth (cellsv F RR k) j = ((cellAt F RR k j : Nat) : Int) := fun j hj => by
    have h1 := HNF.out
    unfold cellsv; rw [nth_mk (by omega)]
  have HCT := Lib.hid hct
  have HCN := Lib.hid hcn
  clear hct hcn hWF hWV
  have BT := bt_succ s F RR k
  have HBT := Lib.hid BT
  have hn0 : 0 < s.size := by omega
  clear BT
  obtain ⟨i1, hif1, hy0, hy1, hy2⟩ := info_parts info_u8n
  obtain ⟨ac, rfl, hac⟩ := rd5.2 (by rw [HCL.out]; exact hn0)
  replace hbf := blk_kept kb6 hbf
  replace hbm := blk_kept kb6 hbm
  replace rd := rd.kept kb6
  replace rd6 := rd6.kept kb6
  replace hk := kept_trans hk kb6
  go_wp2_with fail
  go_loopw [15, 117] (fun v i wr => ∃ j : Nat, j ≤ s.size ∧ i = .int .i64 j ∧ wr.ownsRow (w6.heap.size + 1) 5 1 v j (btv s F RR k j) ∧ Kept (w6.alloc (.cells #[.int .i64 (wideN V hh k : Nat), .slice A6 n c6] 33)) wr) (fun _ i _ => s.size - (intOf i).toNat)
  case atStart => exact ⟨0, Nat.zero_le _, rfl, World.ownsRow_nil _ _ _ _, kept_refl _⟩
  case round =>
    clear f0 f1 m0 m1 d1 d2
    obtain ⟨j, hj, rfl, hown, hkr⟩ := hrel
    by_cases hlt : j < s.size
    · have hct := HCT.out j hlt
      have hcn := HCN.out j hlt
      have x0 := hac j (by rw [HCL.out]; exact hlt)
      rw [hcn] at x0
      replace x0 := kept_cell (kept_trans kb6 hkr) x0
      have hbt := byteAt_eq hct
      have f1 : wr.cell? ⟨w.heap.size, 1, none⟩ = some (.string s) := cell_at (blk_kept hkr hbf) 1 rfl
      have hB := HBT.out j
      have HB := Lib.hid hB
      clear hcn hB
      generalize cellAt F RR k j = t at *
      have e1 : decide ((t : Int) < 0) = false := decide_eq_false (by omega)
      have e2 : decide (s.size ≤ t) = false := decide_eq_false (by omega)
      have e3 : decide ((s.size : Int) ≤ (t : Int)) = false := decide_eq_false (by omega)
      have hx1 : 0 ≤ (t : Int) := Int.natCast_nonneg _
      have hx2 : (t : Int) < (s.size : Int) := Int.ofNat_lt.2 hct
      have hx3 : (t : Int).toNat = t := Int.toNat_natCast _
      generalize byteAt s t = bb at *
      have hsz := hkr.size
      have hsz2 : (w6.alloc (.cells #[.int .i64 (wideN V hh k : Nat), .slice A6 n c6] 33)).heap.size = w6.heap.size + 1 := by simp
      have hsz3 : w6.heap.size + 1 ≤ wr.heap.size := by omega
      clear hsz hsz2
      go_wp2_with (at_builtin; refine wpList_append_lies _ rfl _ _ 58 rfl (w6.heap.size + 1) 5 i1 (.int .u8 0) 1 1 Try.underlying58 hif1 hy0 hy1 hy2 rfl (by decide) _ _ _ rfl (hown.alloc _) ⟨wr.heap.size, 0, none⟩ 1 1 [.int .u8 (bb : Nat)] rfl rfl ?c1 ?c2 ?c3 ?c4 ?c5 ?c6 (wr.heap.size + 1) ?c7 ?_)
      case c1 =>
        intro q u hq
        match q, hq with
        | 0, hq => simp at hq; subst hq; simp [Addr.add]
      case c2 => intro u hu; simp at hu; subst hu; rfl
      case c3 => decide
      case c4 => unfold maxLen; omega
      case c5 => omega
      case c6 => simp; omega
      case c7 => simp
      intro g capn wn own9 hgrow hat hlt9
      have K9 := kept_grown (kept_alloc hkr _) (hown.alloc _) (show (w6.alloc (.cells #[.int .i64 (wideN V hh k : Nat), .slice A6 n c6] 33)).heap.size ≤ w6.heap.size + 1 by simp) hgrow
      rw [← HB.out] at own9
      clear hgrow hat hlt9 hown hkr x0 f1 e1 e2 e3 hbt
      go_wp2_with fail
      exact ⟨⟨j + 1, by omega, by go_num, own9, K9⟩, by simp [intOf]; omega⟩
    · obtain rfl : j = s.size := by omega
      obtain ⟨g8, c8, rfl, hg8, _⟩ := World.ownsRow.form hown hn0
      have F1 := fun w1 h => find_c (F : Int) (V : Int) A cap n xs s 4096 hu hl (by omega) (by omega) w1 h
      have F2 := fun w1 h => find_c (wideN F RR k : Nat) (wideN V hh k : Nat) A6 c6 n (turnF xs V n k) (bts s F RR k s.size) 4096 hy6 hl6 (by omega) (by rw [bts_size]; omega) w1 h
      have hbs := bts_size s F RR k s.size
      have hla := both_law (F := F) (V := V) (RR := RR) (hh := hh) (n := n) (k := k) (xs := xs) (s := s) hF hF2 hV hV2 hR1 hRR hh1 hhh hVF hhR HNF.out HNV.out hmb hok
      obtain ⟨le1, le2, lp1, lp2, hbl, hcnt, hthere⟩ := hla
      unfold AnsF at F1 F2
      rw [le1, lp1, Int.toNat_natCast] at F1
      rw [le2, lp2, Int.toNat_natCast] at F2
      have hbts : (⟨(btl s F RR k s.size).toArray⟩ : ByteArray) = bts s F RR k s.size := rfl
      have hbx := bt_cells (s := s) (F := F) (R := RR) (k := k) (n := s.size) hown
      generalize findN (F : Int) (V : Int) xs n s 4096 = fn1 at *
      generalize findN (wideN F RR k : Nat) (wideN V hh k : Nat) (turnF xs V n k) n (bts s F RR k s.size) 4096 = fn2 at *
      have hlx := placesL_le xs n s F V ((RR - hh + 1) * F)
      have hbnd : (RR - hh + 1) * F ≤ 65 * 64 := Nat.mul_le_mul (by omega) hF2
      generalize placesL xs n s F V ((RR - hh + 1) * F) = pl at *
      generalize placesL (turnF xs V n k) n (bts s F RR k s.size) (wideN F RR k) (wideN V hh k) ((highN F RR k - highN V hh k + 1) * wideN F RR k) = ql at *
      have HCNT := Lib.hid hcnt
      have HTH := Lib.hid hthere
      clear hcnt hthere
      replace hk := kept_trans hk hkr
      replace hbf := blk_kept hkr hbf
      replace hbm := blk_kept hkr hbm
      replace hb6 := blk_kept hkr hb6
      replace rd := rd.kept hkr
      replace rd6 := rd6.kept hkr
      generalize w6.heap.size = G6 at *
      have f0 : wr.cell? ⟨w.heap.size, 0, none⟩ = some (.int .i64 (F : Nat)) := cell_at hbf 0 rfl
      have f1 : wr.cell? ⟨w.heap.size, 1, none⟩ = some (.string s) := cell_at hbf 1 rfl
      have m0 : wr.cell? ⟨w.heap.size + 1, 0, none⟩ = some (.int .i64 (V : Nat)) := cell_at hbm 0 rfl
      have m1 : wr.cell? ⟨w.heap.size + 1, 1, none⟩ = some (.slice A n cap) := cell_at hbm 1 rfl
      go_wp2_with fail
      refine (F1 _ rd).mono ?_
      rintro e wa ⟨va, rfl, owna, hka⟩
      obtain ⟨Aa, ca, rfl, hfa, rda⟩ := owna.rd (by omega)
      replace hb6 := blk_kept hka hb6
      replace rd6 := rd6.kept hka
      replace hbx := fun q hq => kept_cell hka (hbx q hq)
      replace hbf := blk_kept hka hbf
      replace hbm := blk_kept hka hbm
      replace hk := kept_trans hk hka
      clear f0 f1 m0 m1 F1 hka owna rd hown
      have t0 : wa.cell? ⟨G6, 0, none⟩ = some (.int .i64 (wideN V hh k : Nat)) := cell_at hb6 0 rfl
      have t1 : wa.cell? ⟨G6, 1, none⟩ = some (.slice A6 n c6) := cell_at hb6 1 rfl
      go_wp2_with (refine wpList_str22 rfl _ _ _ _ rfl ⟨g8, 0, none⟩ c8 s.size (btl s F RR k s.size) (btl_len _ _ _ _ _) rfl rfl rfl rfl hbx ?_)
      clear hbx
      refine (F2 _ rd6).mono ?_
      rintro e wb ⟨vb, rfl, ownb, hkb⟩
      obtain ⟨Ab, cb, rfl, hfb, rdb⟩ := ownb.rd (by have := HCNT.out; omega)
      replace rda := rda.kept hkb
      replace hbf := blk_kept hkb hbf
      replace hbm := blk_kept hkb hbm
      replace hk := kept_trans hk hkb
      rw [HCNT.out] at hfb ⊢
      clear F2 hkb ownb rd6 hb6 t0 t1
      have f0 : wb.cell? ⟨w.heap.size, 0, none⟩ = some (.int .i64 (F : Nat)) := cell_at hbf 0 rfl
      have f1 : wb.cell? ⟨w.heap.size, 1, none⟩ = some (.string s) := cell_at hbf 1 rfl
      have m0 : wb.cell? ⟨w.heap.size + 1, 0, none⟩ = some (.int .i64 (V : Nat)) := cell_at hbm 0 rfl
      have m1 : wb.cell? ⟨w.heap.size + 1, 1, none⟩ = some (.slice A n cap) := cell_at hbm 1 rfl
      have hw1 : (F : Int) - (V : Int) + 1 = ((F - V + 1 : Nat) : Int) := by omega
      have hw2 : (RR : Int) - (hh : Int) + 1 = ((RR - hh + 1 : Nat) : Int) := by omega
      have C2 := fun w1 => rcells_yes (F - V + 1) (RR - hh + 1) k (by omega) (by omega) (by omega) (by omega) w1
      go_wp2_with fail
      have hc1 : ((F - V : Nat) : Int) + 1 = ((F - V + 1 : Nat) : Int) := by omega
      have hc2 : ((RR - hh : Nat) : Int) + 1 = ((RR - hh + 1 : Nat) : Int) := by omega
      rw [hc1, hc2]
      clear hc1 hc2 hw2
      have hwd1 : 1 ≤ F - V + 1 := by omega
      have hwd2 : F - V + 1 ≤ 64 := by omega
      have hhg1 : 1 ≤ RR - hh + 1 := by omega
      have hhg2 : RR - hh + 1 ≤ 64 := by omega
      generalize F - V + 1 = wd at *
      generalize RR - hh + 1 = hg at *
      refine (C2 _).mono ?_
      rintro e wc ⟨vc, rfl, ownc, hkc⟩
      obtain ⟨Ac, cc, rfl, hcc, _, rdc⟩ := ownc.rd
      have hcvl : (cellsv wd hg k).length = wd * hg := by unfold cellsv; exact mk_length _ _
      have hsz := size_eq wd hg k
      have wp := wide_pos (w := wd) (h := hg) k (by omega) (by omega)
      have wl := wide_le (w := wd) (h := hg) (m := 64) k hwd2 hhg2
      have hplc : ∀ a b, a < wideN wd hg k → b < highN wd hg k → b * wideN wd hg k + a < wd * hg ∧ nth (cellsv wd hg k) (b * wideN wd hg k + a) = ((cellXY wd hg k a b : Nat) : Int) ∧ cellXY wd hg k a b < wd * hg ∧ b * wideN wd hg k ≤ 4096 := fun a b ha hb => by
        have h3 := Nat.mul_le_mul_right (wideN wd hg k) (show b + 1 ≤ highN wd hg k by omega)
        rw [Nat.add_mul, Nat.one_mul, Nat.mul_comm (highN wd hg k), hsz] at h3
        have hlt : b * wideN wd hg k + a < wd * hg := by omega
        have hd := divmod (a := b) ha
        have e : cellAt wd hg k (b * wideN wd hg k + a) = cellXY wd hg k a b := by unfold cellAt; rw [hd.1, hd.2]
        refine ⟨hlt, ?_, ?_, ?_⟩
        · unfold cellsv; rw [nth_mk hlt, e]
        · rw [← e]; exact cell_lt k (by omega) (by omega) hlt
        · have := Nat.mul_le_mul hwd2 hhg2; omega
      have hwh : wd * hg ≤ 4096 := Nat.mul_le_mul hwd2 hhg2
      have HPLC := Lib.hid hplc
      rw [hcvl] at hcc ⊢
      replace rda := rda.kept hkc
      replace rdb := rdb.kept hkc
      replace hbf := blk_kept hkc hbf
      replace hbm := blk_kept hkc hbm
      replace hk := kept_trans hk hkc
      have hql := HCNT.out
      have HQL := Lib.hid hql
      have HCV := Lib.hid hcvl
      clear f0 f1 m0 m1 C2 hkc ownc hplc hsz hql hcvl
      go_wp2_with fail
      go_loopw [187] (fun i wr => ∃ j : Nat, j ≤ pl.length ∧ i = .int .i64 j ∧ Kept wc wr) (fun i _ => pl.length - (intOf i).toNat)
      case atStart => exact ⟨0, Nat.zero_le _, rfl, kept_refl _⟩
      case round =>
        obtain ⟨j, hj, rfl, hkr⟩ := hrel
        by_cases hlt : j < pl.length
        · have hjq : j < ql.length := by rw [HQL.out]; exact hlt
          obtain ⟨th1, th2, th3⟩ := HTH.out _ (List.getElem_mem hjq)
          obtain ⟨y0, y1⟩ := flatP_at (F := wideN F RR k) hjq
          obtain ⟨ab, hAb, p0, p1⟩ := (rdb.kept hkr).point hfb hlt
          unfold X at p0
          unfold Y at p1
          rw [y0] at p0
          rw [y1] at p1
          subst hAb
          obtain ⟨q1, q2, q3, q4⟩ := HPLC.out _ _ th1 th2
          obtain ⟨ac2, hAc, x0⟩ := (rdc.kept hkr).at_ (j := ql[j] / wideN F RR k * wideN wd hg k + ql[j] % wideN F RR k) (by rw [HCV.out]; exact q1)
          rw [q2] at x0
          subst hAc
          have HTH3 := Lib.hid th3
          clear th3 y0 y1 q2
          generalize ql[j] % wideN F RR k = a0 at *
          generalize ql[j] / wideN F RR k = a1 at *
          generalize cellXY wd hg k a0 a1 = t at *
          generalize wideN wd hg k = PP at *
          generalize highN wd hg k = QQ at *
          have hmul0 : wrap64 ((a1 : Int) * (PP : Int)) = ((a1 * PP : Nat) : Int) := by rw [← Int.natCast_mul]; exact wrap_nat (by omega)
          have HMUL := Lib.hid hmul0
          clear hmul0
          generalize a1 * PP = mm at *
          have e1 : decide (PP ≤ a0) = false := decide_eq_false (by omega)
          have e2 : decide (QQ ≤ a1) = false := decide_eq_false (by omega)
          have hi1 : 0 ≤ (mm : Int) + (a0 : Int) := by omega
          have hi2 : (mm : Int) + (a0 : Int) < ((wd * hg : Nat) : Int) := by omega
          have hi3 : ((mm : Int) + (a0 : Int)).toNat = mm + a0 := by omega
          have ht : t ≤ 4096 := by omega
          have HQ3 := Lib.hid q3
          generalize hLL : wd * hg = LL at *
          clear hLL q3 q1 hwh
          have x0a := kept_cell (kept_alloc (kept_refl wr) (.cells #[.int .i64 (a0 : Nat), .int .i64 (a1 : Nat)] 53)) x0
          have hmul := HMUL.out
          clear HMUL
          go_wp2_with fail
          clear hmul e1 e2 hi1 hi2 hi3 p0 p1 x0 x0a q4
          go_loopw [31, 213] (fun b i w2 => ∃ q : Nat, q ≤ pl.length ∧ i = .int .i64 q ∧ (∃ bb : Bool, b = .bool bb ∧ Hid (bb = true ↔ ∃ o, o < q ∧ nth (flatP F pl) (o * 2) = ((t % wd : Nat) : Int) ∧ nth (flatP F pl) (o * 2 + 1) = ((t / wd : Nat) : Int))) ∧ Kept wc w2) (fun _ i _ => pl.length - (intOf i).toNat)
          case atStart => exact ⟨0, Nat.zero_le _, rfl, ⟨false, rfl, Lib.hid ⟨(fun h => by cases h), (fun ⟨o, h, _⟩ => absurd h (Nat.not_lt_zero _))⟩⟩, kept_trans hkr (kept_alloc (kept_refl _) _)⟩
          case round =>
            clear hkr
            obtain ⟨q, hq, rfl, ⟨bb, rfl, HB⟩, hkr⟩ := hrel
            by_cases hql : q < pl.length
            · obtain ⟨ae, hAe, z0, z1⟩ := (rda.kept hkr).point hfa hql
              unfold X at z0
              unfold Y at z1
              subst hAe
              have HN : ∀ c : Bool, c = ([nth (flatP F pl) (q * 2), nth (flatP F pl) (q * 2 + 1)] == [((t % wd : Nat) : Int), ((t / wd : Nat) : Int)]) → Hid ((bb || c) = true ↔ ∃ o, o < q + 1 ∧ nth (flatP F pl) (o * 2) = ((t % wd : Nat) : Int) ∧ nth (flatP F pl) (o * 2 + 1) = ((t / wd : Nat) : Int)) := fun c hc => Lib.hid (by
                subst hc
                rw [Bool.or_eq_true, HB.out]
                constructor
                · rintro (⟨o, h, r⟩ | h)
                  · exact ⟨o, by omega, r⟩
                  · simp at h
                    exact ⟨q, by omega, by rw [h.1, Int.natCast_emod], by rw [h.2, Int.natCast_ediv]⟩
                · rintro ⟨o, h, r1, r2⟩
                  rcases Nat.lt_or_ge o q with h1 | h1
                  · exact .inl ⟨o, h1, r1, r2⟩
                  · obtain rfl : o = q := by omega
                    right
                    rw [r1, r2]
                    simp)
              have HN2 := HN _ rfl
              have E := fun w => eq2 (nth (flatP F pl) (q * 2)) (nth (flatP F pl) (q * 2 + 1)) ((t % wd : Nat) : Int) ((t / wd : Nat) : Int) w
              have e1 := tmod_nat t wd
              have e2 := tdiv_nat t wd
              have hzw : ((wd : Int) == 0) = false := by rw [beq_eq_false_iff_ne]; omega
              have htd : t / wd ≤ 4096 := Nat.le_trans (Nat.div_le_self _ _) ht
              clear HN HB
              generalize ([nth (flatP F pl) (q * 2), nth (flatP F pl) (q * 2 + 1)] == [((t % wd : Nat) : Int), ((t / wd : Nat) : Int)]) = c at *
              have HN3 := Lib.hid HN2.out
              clear HN2
              generalize nth (flatP F pl) (q * 2) = u at *
              generalize nth (flatP F pl) (q * 2 + 1) = v at *
              have kb := kept_alloc (kept_refl wr) (.cells #[.int .i64 u, .int .i64 v] 53)
              have hb := blk_new wr (.cells #[.int .i64 u, .int .i64 v] 53)
              have hkb := kept_trans hkr kb
              have b0 := cell_at hb 0 rfl
              have b1 := cell_at hb 1 rfl
              have f0 := cell_at (blk_kept hkb hbf) 0 rfl
              have m0 := cell_at (blk_kept hkb hbm) 0 rfl
              clear hb kb
              have HT := Lib.hid (⟨rfl, rfl⟩ : t % wd = t % wd ∧ t / wd = t / wd)
              generalize hTX : t % wd = tx at *
              generalize hTY : t / wd = ty at *
              have HTX := Lib.hid (⟨hTX, hTY⟩ : _ ∧ _)
              clear hTX hTY HT
              cases bb
              · go_wp2_with fail
                have fs_0 := fun s => kw_cell s f0
                have ms_0 := fun s => kw_cell s m0
                have bs_0 := fun s => kw_cell s b0
                have bs_1 := fun s => kw_cell s b1
                refine wp_region_kept (by kernel_rfl) (by kernel_rfl) ?_
                repeat (first | go_big_quiet_skip | (go_big_quiet_want; go_big_quiet_op; go_big_quiet_on))
                refine wpQuiet_nil ?_
                rintro wz ⟨⟨_, hkz⟩, rfl⟩
                clear fs_0 ms_0 bs_0 bs_1 f0 m0 b0 b1 e1 e2 E
                have hrl : Hid (c = true ↔ ∃ o, o < q + 1 ∧ nth (flatP F pl) (o * 2) = ((tx : Nat) : Int) ∧ nth (flatP F pl) (o * 2 + 1) = ((ty : Nat) : Int)) := Lib.hid (by
                  have := HN3.out
                  rw [Bool.false_or] at this
                  exact this)
                clear HN3 HTX
                go_wp2_with fail
                exact ⟨⟨q + 1, by omega, by go_num, ⟨c, rfl, hrl⟩, kept_trans hkb hkz⟩, by simp [intOf]; omega⟩
              · go_wp2_with fail
                refine wp_region_kept (by kernel_rfl) (by kernel_rfl) ?_
                repeat (first | go_big_quiet_skip | (go_big_quiet_want; go_big_quiet_op; go_big_quiet_on))
                refine wpQuiet_nil ?_
                rintro wz ⟨⟨_, hkz⟩, rfl⟩
                clear f0 m0 b0 b1 e1 e2 E
                have hrl : Hid (true = true ↔ ∃ o, o < q + 1 ∧ nth (flatP F pl) (o * 2) = ((tx : Nat) : Int) ∧ nth (flatP F pl) (o * 2 + 1) = ((ty : Nat) : Int)) := Lib.hid (by
                  have := HN3.out
                  rw [Bool.true_or] at this
                  exact this)
                clear HN3 HTX
                go_wp2_with fail
                exact ⟨⟨q + 1, by omega, by go_num, ⟨true, rfl, hrl⟩, kept_trans hkb hkz⟩, by simp [intOf]; omega⟩
            · obtain rfl : q = pl.length := by omega
              obtain rfl : bb = true := by
                obtain ⟨o, ho, r1, r2⟩ := HTH3.out
                obtain ⟨i, hi, rfl⟩ := List.mem_iff_getElem.1 ho
                obtain ⟨y0, y1⟩ := flatP_at (F := F) hi
                exact HB.out.2 ⟨i, hi, by rw [y0, r1], by rw [y1, r2]⟩
              clear HB HTH3
              go_wp2_with fail
              exact ⟨⟨j + 1, by omega, by go_num, hkr⟩, by simp [intOf]; omega⟩
        · obtain rfl : j = pl.length := by omega
          go_wp2_with fail
          refine (AV _).mono ?_
          rintro e wd2 ⟨rfl, hkd⟩
          go_wp2_with fail
          go_ret
          exact ⟨rfl, kept_trans hk (kept_trans hkr hkd)⟩
set_option maxRecDepth 100000 in
set_option maxHeartbeats 8000000 in
theorem gridBoth_w (W V : Int) (s : ByteArray) (A : Option Addr) (cap n : Nat) (xs : List Int) (k : Int) (k1 : -9223372036854775808 ≤ k) (k2 : k ≤ 9223372036854775807) (hl : xs.length = 4 * n) (hn : n ≤ 9223372036854775807) (hs : s.size ≤ 9223372036854775807) (hu : U64 xs) (w : World) (hr : 4 * n ≤ 9223372036854775807 → Rd .u64 w A xs) : Calls Try.prog 8 #[fieldV W s, maskV V A n cap, .int .i64 k] w (Ret (.bool true) w) := by
  have ka := kept_alloc (kept_alloc (kept_refl w) (.cells #[.int .i64 W, .string s] 23)) (.cells #[.int .i64 V, .slice A n cap] 26)
  have hbf := blk_alloc (blk_new w (.cells #[.int .i64 W, .string s] 23)) (.cells #[.int .i64 V, .slice A n cap] 26)
  have hbm := blk_new1 w (.cells #[.int .i64 W, .string s] 23) (.cells #[.int .i64 V, .slice A n cap] 26)
  have FW := fun w1 => few22_c W V s A cap n hn hs w1
  by_cases hfew : s.size ≤ 400 ∧ n ≤ 400
  · have hr := hr (by omega)
    rw [show few22 s.size n = true by unfold few22; simp [hfew.1, hfew.2]] at FW
    have R2 := fun w => rfieldright_c W s hs w
    have M2 := fun w h => rmay_c V A cap n xs hu hl w h
    have AV := fun w => alive22_c w
    by_cases hgood : fok W V xs n s = true ∧ s.size ≠ 0
    · obtain ⟨hok, hne⟩ := hgood
      obtain ⟨F, K, rfl, rfl, hF, hF2, hK, hK2, hmF, hmK, h1, h2, h3, _, _⟩ := fok_parts hok
      exact both_main F K s A cap n xs k k1 k2 hl (by omega) (by omega) hu w hr hmF hmK h1 hF hF2 hK hK2 h3 h2 hok hne
    have hbad : rowsb W s.size = false ∨ (rowsb W s.size = true ∧ mayb V xs n = false) ∨ (rowsb W s.size = true ∧ mayb V xs n = true ∧ s = ⟨#[]⟩) := by
      unfold fok at hgood
      cases hr1 : rowsb W s.size
      · exact .inl rfl
      · cases hm1 : mayb V xs n
        · exact .inr (.inl ⟨rfl, rfl⟩)
        · refine .inr (.inr ⟨rfl, rfl, empty_size ?_⟩)
          rcases Nat.eq_zero_or_pos s.size with h | h
          · exact h
          · exact absurd ⟨by rw [hr1, hm1]; rfl, by omega⟩ hgood
    clear hgood
    go_enter Try.func8, Try.ntmps8
    go_wp2_with fail
    refine (FW _).mono ?_
    rintro e w1 ⟨rfl, hk1⟩
    replace hbf := blk_kept hk1 hbf
    replace hbm := blk_kept hk1 hbm
    have hk := kept_trans ka hk1
    have rd := hr.kept hk
    clear FW ka hk1 hr
    have f0 : w1.cell? ⟨w.heap.size, 0, none⟩ = some (.int .i64 W) := cell_at hbf 0 rfl
    have f1 : w1.cell? ⟨w.heap.size, 1, none⟩ = some (.string s) := cell_at hbf 1 rfl
    have m0 : w1.cell? ⟨w.heap.size + 1, 0, none⟩ = some (.int .i64 V) := cell_at hbm 0 rfl
    have m1 : w1.cell? ⟨w.heap.size + 1, 1, none⟩ = some (.slice A n cap) := cell_at hbm 1 rfl
    rcases hbad with hb | ⟨hb, hb2⟩ | ⟨hb, hb2, hse⟩
    · rw [hb] at R2
      go_wp2_with fail
      refine (R2 _).mono ?_
      rintro e w2 ⟨rfl, hk2⟩
      clear f0 f1 m0 m1
      go_wp2_with fail
      refine (AV _).mono ?_
      rintro e w3 ⟨rfl, hk3⟩
      go_wp2_with fail
      go_ret
      exact ⟨rfl, kept_trans hk (kept_trans hk2 hk3)⟩
    · rw [hb] at R2
      rw [hb2] at M2
      go_wp2_with fail
      refine (R2 _).mono ?_
      rintro e w2 ⟨rfl, hk2⟩
      replace hbf := blk_kept hk2 hbf
      replace hbm := blk_kept hk2 hbm
      clear f0 f1 m0 m1
      have f0 : w2.cell? ⟨w.heap.size, 0, none⟩ = some (.int .i64 W) := cell_at hbf 0 rfl
      have f1 : w2.cell? ⟨w.heap.size, 1, none⟩ = some (.string s) := cell_at hbf 1 rfl
      have m0 : w2.cell? ⟨w.heap.size + 1, 0, none⟩ = some (.int .i64 V) := cell_at hbm 0 rfl
      have m1 : w2.cell? ⟨w.heap.size + 1, 1, none⟩ = some (.slice A n cap) := cell_at hbm 1 rfl
      go_wp2_with fail
      refine (M2 _ (rd.kept hk2)).mono ?_
      rintro e w3 ⟨rfl, hk3⟩
      clear f0 f1 m0 m1
      go_wp2_with fail
      refine (AV _).mono ?_
      rintro e w4 ⟨rfl, hk4⟩
      go_wp2_with fail
      go_ret
      exact ⟨rfl, kept_trans hk (kept_trans hk2 (kept_trans hk3 hk4))⟩
    · rw [hb] at R2
      rw [hb2] at M2
      clear hb hb2
      subst hse
      go_wp2_with fail
      refine (R2 _).mono ?_
      rintro e w2 ⟨rfl, hk2⟩
      replace hbf := blk_kept hk2 hbf
      replace hbm := blk_kept hk2 hbm
      clear f0 f1 m0 m1
      have f0 : w2.cell? ⟨w.heap.size, 0, none⟩ = some (.int .i64 W) := cell_at hbf 0 rfl
      have f1 : w2.cell? ⟨w.heap.size, 1, none⟩ = some (.string ⟨#[]⟩) := cell_at hbf 1 rfl
      have m0 : w2.cell? ⟨w.heap.size + 1, 0, none⟩ = some (.int .i64 V) := cell_at hbm 0 rfl
      have m1 : w2.cell? ⟨w.heap.size + 1, 1, none⟩ = some (.slice A n cap) := cell_at hbm 1 rfl
      go_wp2_with fail
      refine (M2 _ (rd.kept hk2)).mono ?_
      rintro e w3 ⟨rfl, hk3⟩
      replace hbf := blk_kept hk3 hbf
      have f1 : w3.cell? ⟨w.heap.size, 1, none⟩ = some (.string ⟨#[]⟩) := cell_at hbf 1 rfl
      clear m0 m1
      go_wp2_with fail
      refine (AV _).mono ?_
      rintro e w4 ⟨rfl, hk4⟩
      go_wp2_with fail
      go_ret
      exact ⟨rfl, kept_trans hk (kept_trans hk2 (kept_trans hk3 hk4))⟩
  · rw [show few22 s.size n = false by unfold few22; simp; omega] at FW
    go_enter Try.func8, Try.ntmps8
    go_wp2_with fail
    refine (FW _).mono ?_
    rintro e w1 ⟨rfl, hk1⟩
    go_wp2_with fail
    refine (alive22_c _).mono ?_
    rintro e w2 ⟨rfl, hk2⟩
    go_wp2_with fail
    go_ret
    exact ⟨rfl, kept_trans ka (kept_trans hk1 hk2)⟩
end Go.Proofs.Ythbbkmkaopgmdaa
