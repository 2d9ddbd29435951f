/-
  Layer 2's statements: the walks.
-/
import Derived.Test.YtkielaonclabbaaLaw02
import Derived.ArgAppend
import Derived.Test.YtkielaonclabbaaTail
import Derived.Laws.AppendOwnNone
namespace Go.Proofs.Ytkielaonclabbaa
open Go.RowKit BG
attribute [local go_sem ↓] Go.wp_at_zero Go.wp_at_succ
set_option linter.unusedVariables false

theorem run_append_zero {P : Program} (w : World) (t ty e : TypeId) (i : TypeInfo) (ht : P.underlying t = some (.slice e)) (hi : P.info? e = some i) (A : Option Addr) (n c : Nat) (hle : n ≤ c) (ad : Addr) (c2 : Nat) :
    (Builtin.append_ #[t, t] ty #[.slice A n c, .slice (some ad) 0 c2]).run P w = .ok (.slice A n c) w := by
  have hl : (loadCells ad 0).run P w = .ok #[] w := by simp [loadCells, loadCellsFrom]
  cases A <;> simp [Builtin.append_, run_underlying ht, sizeOf, typeInfo, hi, Builtin.lenOf, Builtin.firstCells, hle, hl, storeCells]
theorem wpList_append_zero {P : Program} {w : World} {ops : Array Oper} {rest : List Oper} {o : Oper} {a : Act} {Q : Exit → Act → World → Prop} (hgd : o.guard = none) (s x : Operand) (t : TypeId)
    (ho : o.op = .call { callee := .builtin .append, args := #[s, x], argTypes := #[t, t] })
    (e : TypeId) (i : TypeInfo) (ht : P.underlying t = some (.slice e)) (hi : P.info? e = some i) (A : Option Addr) (n c : Nat) (hle : n ≤ c) (ad : Addr) (c2 : Nat)
    (hs : a.eval s = .slice A n c) (hx : a.eval x = .slice (some ad) 0 c2)
    (h : wpList P ops Q rest (a.put o.dst (.slice A n c)) w) : wpList P ops Q (o :: rest) a w := by
  refine wpList_plain hgd fun K hK => ?_
  have hrun := run_append_zero (P := P) w t o.type e i ht hi A n c hle ad c2
  unfold Oper.wp
  simp [execOp, ho, resolve, invoke, builtin, hs, hx, hrun, Result.andThen]
  exact hK _ _ h
theorem cells_one2 (k : IntKind) (xs : List Int) : ∀ u ∈ xs.map (Value.int k), u.oneCell' = true := by
  intro u hu
  rw [List.mem_map] at hu
  obtain ⟨z, _, rfl⟩ := hu
  rfl
def movedv (xs : List Int) : List Int := nth xs (xs.length - 1) :: xs.take (xs.length - 1)
theorem moved_length {xs : List Int} (h : 0 < xs.length) : (movedv xs).length = xs.length := by simp [movedv]; omega
theorem moved_zero (xs : List Int) : nth (movedv xs) 0 = nth xs (xs.length - 1) := rfl
theorem moved_succ {xs : List Int} {i : Nat} (h : i < xs.length - 1) : nth (movedv xs) (i + 1) = nth xs i := by
  show nth (xs.take (xs.length - 1)) i = nth xs i
  exact nth_take h
theorem u64_moved {xs : List Int} (hu : U64 xs) : U64 (movedv xs) := u64_all fun z hz => by
  unfold movedv at hz
  rcases List.mem_cons.1 hz with rfl | hz
  · exact hu _
  · obtain ⟨i, hi⟩ := List.getElem?_of_mem (List.mem_of_mem_take hz)
    have := hu i
    unfold nth at this
    rw [List.getD_eq_getElem?_getD, hi] at this
    exact this
theorem shift_dft {k : Int} {L : Nat} {w : Int} (hw : RootOf k L w) {xs : List Int} (hx : xs.length = 2 ^ L) (j : Nat) : dft k (2 ^ L) (nth (movedv xs)) w j = mulm k (dft k (2 ^ L) (nth xs) w j) (of k (w ^ j)) := by
  have hpos : 0 < xs.length := by rw [hx]; exact Nat.two_pow_pos _
  obtain ⟨m, hm⟩ : ∃ m, xs.length = m + 1 := ⟨xs.length - 1, by omega⟩
  have hone : Cong k (w ^ ((m + 1) * j)) 1 := by
    rw [← hm, hx, Int.pow_mul]
    have := hw.one.pow j
    rwa [Int.one_pow] at this
  rw [← hx, hm]
  unfold dft mulm
  rw [of_mul_l, of_mul_r]
  show Cong k _ _
  rw [show m + 1 = 1 + m by omega, sumTo_append 1 m (fun i => nth (movedv xs) i * w ^ (i * j)), show 1 + m = m + 1 by omega]
  have e1 : sumTo 1 (fun i => nth (movedv xs) i * w ^ (i * j)) = nth xs m := by
    show 0 + nth (movedv xs) 0 * w ^ (0 * j) = _
    rw [moved_zero, hm, Nat.zero_mul, Int.pow_zero, Int.mul_one, Int.zero_add, Nat.add_sub_cancel]
  have e2 : sumTo m (fun i => nth (movedv xs) (1 + i) * w ^ ((1 + i) * j)) = sumTo m (fun i => nth xs i * w ^ (i * j)) * w ^ j := by
    rw [← sumTo_mul_r]
    refine sumTo_congr fun i hi => ?_
    rw [Nat.add_comm 1 i, moved_succ (by omega), Nat.add_mul, Nat.one_mul, Int.pow_add, Int.mul_assoc]
  rw [e1, e2]
  have e3 : sumTo (m + 1) (fun i => nth xs i * w ^ (i * j)) * w ^ j = sumTo m (fun i => nth xs i * w ^ (i * j)) * w ^ j + nth xs m * w ^ ((m + 1) * j) := by
    show (sumTo m _ + nth xs m * w ^ (m * j)) * w ^ j = _
    rw [Int.add_mul, Int.mul_assoc (nth xs m), ← Int.pow_add, Nat.add_mul, Nat.one_mul]
  rw [e3, Int.add_comm]
  refine (Cong.refl k _).add ?_
  have := (Cong.refl k (nth xs m)).mul hone
  rw [Int.mul_one] at this
  exact this.symm
set_option maxRecDepth 100000 in
set_option maxHeartbeats 4000000 in
theorem nttShifts_w (k : Int) (A : Option Addr) (cap : Nat) (xs : List Int) (hu : U64 xs) (hcap : xs.length ≤ cap) (w : World) (hr : Rd .u64 w A xs) : Calls Try.prog 9 #[.int .i64 k, .slice A xs.length cap] w (Ret (.bool true) w) := by
  have hm := hr.1
  obtain ⟨i1, hif1, hy0, hy1, hy2⟩ := info_parts info_u64
  by_cases h : xs.length ≤ 4096
  · by_cases h0 : xs.length = 0
    · obtain rfl : xs = [] := List.length_eq_zero_iff.1 h0
      have g1 : decide (4096 < ([] : List Int).length) = false := rfl
      clear h h0
      go_enter Try.func9, Try.ntmps9
      go_wp2_with fail
      refine (alive02_c _).mono ?_
      rintro e w1 ⟨rfl, hk1⟩
      go_wp2_with fail
      go_ret
      exact ⟨rfl, hk1⟩
    · obtain ⟨ad, rfl, _⟩ := hr.at_ (j := 0) (by omega)
      obtain ⟨m, hx⟩ : ∃ m, xs.length = m + 1 := ⟨xs.length - 1, by omega⟩
      have g1 : ¬ 4096 < ((m : Int) + 1) := by omega
      have g2 : ¬ ((m : Int) + 1) = 0 := by omega
      have HX := Lib.hid hx
      rw [hx] at hcap
      rw [hx]
      clear h h0 hx
      have hms : movedv xs = nth xs m :: xs.take m := by unfold movedv; rw [HX.out, Nat.add_sub_cancel]
      have F1 := forward_c k (some ad) cap xs hu
      have F2 := fun A c => forward_c k A c (movedv xs) (u64_moved hu)
      have hml : (movedv xs).length = m + 1 := by rw [moved_length (by have := HX.out; omega), HX.out]
      rw [HX.out] at F1
      rw [hml] at F2
      by_cases hz : amiss k ((m + 1 : Nat) : Int) = 0
      · rw [hz] at F1 F2
        obtain ⟨hp, hlg⟩ := amiss_zero hz
        have hll := len_log (k := k) (xs := xs) (by rw [HX.out]; exact hz)
        rw [HX.out] at hll
        obtain ⟨hL, hx⟩ := hll
        have LG := rlog_c ((m + 1 : Nat) : Int)
        unfold Ltuple at LG
        rw [hlg] at LG
        have RT := rroot_c k (lgv ((m + 1 : Nat) : Int) : Nat) (by omega) (by omega)
        rw [rootv_eq hp hL] at RT
        have h0 := (rootm_bd k (lgv ((m + 1 : Nat) : Int))).1
        have hat : ∀ j, j < m + 1 → nth (fwdv k (movedv xs)) j = mulm k (nth (fwdv k xs) j) (of k (rootm k (lgv ((m + 1 : Nat) : Int)) ^ j)) := by
          intro j hj
          rw [fwdv_eq (xs := movedv xs) (by rw [hml]; exact hz), fwdv_eq (xs := xs) (by rw [HX.out]; exact hz), hml, HX.out, nth_mk hj, nth_mk hj]
          have := shift_dft (rootOf hp hL) (xs := xs) (by rw [HX.out]; exact hx) j
          rwa [← hx] at this
        have hfl : (fwdv k xs).length = m + 1 := by rw [fwdv_length, HX.out, if_pos hz]
        have hgl : (fwdv k (movedv xs)).length = m + 1 := by rw [fwdv_length, hml, if_pos hz]
        have huf := u64_fwd k xs
        have H1 := Lib.hid (of_one hp)
        generalize hasRoot k _ = hb at RT
        generalize rootm k (lgv ((m + 1 : Nat) : Int)) = w0 at *
        generalize lgv ((m + 1 : Nat) : Int) = L at *
        clear hx hlg hz hp
        generalize fwdv k xs = fs at *
        generalize fwdv k (movedv xs) = gs at *
        generalize movedv xs = ms at *
        go_enter Try.func9, Try.ntmps9
        go_wp2_with fail
        refine wp_region_tail 14 (by kernel_rfl) (by kernel_rfl) ?_
        simp only [List.take_succ_cons, List.take_zero, List.drop_succ_cons, List.drop_zero]
        repeat (first | go_big_quiet_skip | (go_big_quiet_want; go_big_quiet_op; first | go_big_quiet_on | fail))
        refine wpQuiet_nil ?_
        rintro w1 ⟨⟨_, hk1⟩, rfl⟩
        have r0 := hr.kept hk1
        rcases Nat.eq_zero_or_pos m with hm0 | hm0
        · subst hm0
          go_wp2_with (at_builtin; refine wpList_append_zero rfl _ _ 26 rfl 32 i1 Try.underlying26 hif1 (some (ad.add 0)) 1 1 (Nat.le_refl _) ad cap rfl rfl ?_)
          have rm : Rd .u64 w1 (some (ad.add 0)) ms := by
            obtain ⟨ad', e, hc⟩ := r0.2 (by have := HX.out; omega)
            cases e
            refine ⟨by rw [hml]; decide, fun _ => ⟨_, rfl, fun j hj => ?_⟩⟩
            rw [hml] at hj
            obtain rfl : j = 0 := by omega
            rw [hms]
            have := hc 0 (by have := HX.out; omega)
            simpa [Addr.add, nth] using this
          have hk2 := hk1
          clear hms
          go_wp2_with fail
          refine (F1 _ (hr.kept hk2)).mono ?_
          rintro e w3 ⟨v3, rfl, hown3, hk3⟩
          go_wp2_with fail
          refine (F2 _ _ _ (rm.kept hk3)).mono ?_
          rintro e w4 ⟨v4, rfl, hown4, hk4⟩
          clear F1 F2
          obtain ⟨A3, c3, rfl, _, _, r3⟩ := (hown3.kept hk4).rd
          obtain ⟨A4, c4, rfl, _, _, r4⟩ := hown4.rd
          rw [hfl, hgl]
          clear hown3 hown4
          go_wp2_with fail
          refine (LG _).mono ?_
          rintro e w5 ⟨rfl, hk5⟩
          go_wp2_with fail
          refine (RT _).mono ?_
          rintro e w6 ⟨rfl, hk6⟩
          have hk45 := kept_trans hk5 hk6
          replace r3 := r3.kept hk45
          replace r4 := r4.kept hk45
          have hk := kept_trans hk2 (kept_trans hk3 (kept_trans hk4 hk45))
          clear LG RT hk2 hk3 hk4 hk5 hk6 hk45 r0 rm
          go_wp2_with fail
          go_loopw [14, 78] (fun p i wr => ∃ q : Nat, q ≤ 1 ∧ i = .int .i64 q ∧ p = .int .u64 (of k (w0 ^ q)) ∧ Kept w6 wr) (fun _ i _ => 1 - (intOf i).toNat)
          case atStart => exact ⟨0, Nat.zero_le _, rfl, by rw [Int.pow_zero, H1.out], kept_refl _⟩
          case round =>
            obtain ⟨q, hq, rfl, rfl, hkx⟩ := hrel
            by_cases hlt : q < 1
            · obtain rfl : q = 0 := by omega
              obtain ⟨bd, rfl, c0⟩ := (r3.kept hkx).at_ (j := 0) (by omega)
              obtain ⟨cd, rfl, c1⟩ := (r4.kept hkx).at_ (j := 0) (by omega)
              rw [hat 0 hlt] at c1
              rw [show bd.add 0 = bd from if_pos rfl] at c0
              rw [show cd.add 0 = cd from if_pos rfl] at c1
              have e2 : mulm k (of k (w0 ^ 0)) w0 = of k (w0 ^ (0 + 1)) := by unfold mulm; rw [of_mul_l, Int.pow_succ]
              have M1 := rmul_c k (nth fs 0) (of k (w0 ^ 0)) (huf 0) (of_nonneg _ _)
              have M2 := rmul_c k (of k (w0 ^ 0)) w0 (of_nonneg _ _) h0
              rw [e2] at M2
              generalize mulm k (nth fs 0) (of k (w0 ^ 0)) = y at *
              generalize of k (w0 ^ 0) = p at *
              generalize hp' : of k (w0 ^ (0 + 1)) = p' at *
              generalize nth fs 0 = x at *
              have HP := Lib.hid hp'
              clear hp' e2 hat
              go_wp2_with fail
              have ks_c0 := fun s => kw_cell s c0
              have ks_c1 := fun s => kw_cell s c1
              refine wp_region_kept (by kernel_rfl) (by kernel_rfl) ?_
              repeat (first | go_big_quiet_skip | (go_big_quiet_want; go_big_quiet_op; first | go_big_quiet_on | (apply Exists.intro; refine ⟨fun s => ?_, ?_⟩; (first | (go_at_call 24; exact call_kept (M1 _))); go_big_quiet_on)))
              refine wpQuiet_nil ?_
              rintro w7 ⟨⟨_, hk7⟩, rfl⟩
              clear ks_c0 ks_c1 c0 c1
              go_wp2_with fail
              refine (M2 _).mono ?_
              rintro e w8 ⟨rfl, hk8⟩
              go_wp2_with fail
              exact ⟨⟨0 + 1, by omega, by go_num, by rw [HP.out], kept_trans hkx (kept_trans hk7 hk8)⟩, by simp [intOf]⟩
            · obtain hqn : q = 1 := by omega
              subst hqn
              clear hat
              go_wp2_with fail
              refine (alive02_c _).mono ?_
              rintro e w7 ⟨rfl, hk7⟩
              go_wp2_with fail
              go_ret
              exact ⟨rfl, kept_trans hk (kept_trans hkx hk7)⟩
        · go_wp2_with (at_builtin; refine wpList_append_grows _ rfl _ _ 26 rfl 32 i1 (.int .u64 0) 1 8 Try.underlying26 hif1 hy0 hy1 hy2 rfl (by decide) (some (ad.add m)) 1 1 [.int .u64 (nth xs m)] rfl (fun h => by cases h) rfl ?c0 ad m cap ((xs.take m).map (Value.int .u64)) rfl ?cl ?c1 ?c2 (by omega) ?c3 ?c4 ?_)
          case c0 =>
            intro b e j u hj
            cases e
            match j, hj with
            | 0, hj =>
              simp at hj
              subst hj
              obtain ⟨ad', e, hc⟩ := r0.at_ (j := m) (by have := HX.out; omega)
              cases e
              simpa [Addr.add] using hc
          case cl => rw [List.length_map, List.length_take, HX.out]; omega
          case c1 =>
            intro j u hj
            rw [List.getElem?_map, Option.map_eq_some_iff] at hj
            obtain ⟨z, hz, rfl⟩ := hj
            have hlt := (List.getElem?_eq_some_iff.1 hz).1
            rw [List.length_take, HX.out] at hlt
            obtain ⟨ad', e, hc⟩ := r0.at_ (j := j) (by have := HX.out; omega)
            cases e
            rw [List.getElem?_take, if_pos (by omega), List.getElem?_eq_some_iff] at hz
            obtain ⟨h1, h2⟩ := hz
            rw [hc, nth_lt h1, h2]
          case c2 => exact cells_one2 _ _
          case c3 => unfold maxLen; omega
          case c4 => omega
          intro v' w2 hown hgrow
          have hO : Own .u64 32 w1.heap.size w2 v' ms := by
            unfold Own
            rw [hml, hms, List.map_cons, List.map_take, show m + 1 = 1 + m by omega]
            exact hown
          have hk2 := kept_trans hk1 ((kept_refl w1).grown hgrow (Nat.le_refl _) (fun k h => by cases h))
          obtain ⟨AM, cM, rfl, _, _, rm⟩ := hO.rd
          rw [hml]
          clear hO hown hgrow
          clear hms
          go_wp2_with fail
          refine (F1 _ (hr.kept hk2)).mono ?_
          rintro e w3 ⟨v3, rfl, hown3, hk3⟩
          go_wp2_with fail
          refine (F2 _ _ _ (rm.kept hk3)).mono ?_
          rintro e w4 ⟨v4, rfl, hown4, hk4⟩
          clear F1 F2
          obtain ⟨A3, c3, rfl, _, _, r3⟩ := (hown3.kept hk4).rd
          obtain ⟨A4, c4, rfl, _, _, r4⟩ := hown4.rd
          rw [hfl, hgl]
          clear hown3 hown4
          go_wp2_with fail
          refine (LG _).mono ?_
          rintro e w5 ⟨rfl, hk5⟩
          go_wp2_with fail
          refine (RT _).mono ?_
          rintro e w6 ⟨rfl, hk6⟩
          have hk45 := kept_trans hk5 hk6
          replace r3 := r3.kept hk45
          replace r4 := r4.kept hk45
          have hk := kept_trans hk2 (kept_trans hk3 (kept_trans hk4 hk45))
          clear LG RT hk2 hk3 hk4 hk5 hk6 hk45 r0 rm
          go_wp2_with fail
          go_loopw [14, 78] (fun p i wr => ∃ q : Nat, q ≤ (m + 1) ∧ i = .int .i64 q ∧ p = .int .u64 (of k (w0 ^ q)) ∧ Kept w6 wr) (fun _ i _ => (m + 1) - (intOf i).toNat)
          case atStart => exact ⟨0, Nat.zero_le _, rfl, by rw [Int.pow_zero, H1.out], kept_refl _⟩
          case round =>
            obtain ⟨q, hq, rfl, rfl, hkx⟩ := hrel
            by_cases hlt : q < (m + 1)
            · obtain ⟨bd, rfl, c0⟩ := (r3.kept hkx).at_ (j := q) (by omega)
              obtain ⟨cd, rfl, c1⟩ := (r4.kept hkx).at_ (j := q) (by omega)
              rw [hat q hlt] at c1
              have hge : decide ((((m + 1) : Nat) : Int) ≤ (q : Int)) = false := decide_eq_false (by omega)
              have hg1 : decide ((m : Int) + 1 ≤ (q : Int)) = false := decide_eq_false (by omega)
              have hg2 : decide (m + 1 ≤ q) = false := decide_eq_false (by omega)
              have hg3 : decide (m < q) = false := decide_eq_false (by omega)
              have hg4 : decide ((m : Int) < (q : Int)) = false := decide_eq_false (by omega)
              have e2 : mulm k (of k (w0 ^ q)) w0 = of k (w0 ^ (q + 1)) := by unfold mulm; rw [of_mul_l, Int.pow_succ]
              have M1 := rmul_c k (nth fs q) (of k (w0 ^ q)) (huf q) (of_nonneg _ _)
              have M2 := rmul_c k (of k (w0 ^ q)) w0 (of_nonneg _ _) h0
              rw [e2] at M2
              generalize mulm k (nth fs q) (of k (w0 ^ q)) = y at *
              generalize of k (w0 ^ q) = p at *
              generalize hp' : of k (w0 ^ (q + 1)) = p' at *
              generalize nth fs q = x at *
              have HP := Lib.hid hp'
              clear hp' e2 hat
              go_wp2_with fail
              have ks_c0 := fun s => kw_cell s c0
              have ks_c1 := fun s => kw_cell s c1
              refine wp_region_kept (by kernel_rfl) (by kernel_rfl) ?_
              repeat (first | go_big_quiet_skip | (go_big_quiet_want; go_big_quiet_op; first | go_big_quiet_on | (apply Exists.intro; refine ⟨fun s => ?_, ?_⟩; (first | (go_at_call 24; exact call_kept (M1 _))); go_big_quiet_on)))
              refine wpQuiet_nil ?_
              rintro w7 ⟨⟨_, hk7⟩, rfl⟩
              clear ks_c0 ks_c1 c0 c1
              go_wp2_with fail
              refine (M2 _).mono ?_
              rintro e w8 ⟨rfl, hk8⟩
              go_wp2_with fail
              exact ⟨⟨q + 1, by omega, by go_num, by rw [HP.out], kept_trans hkx (kept_trans hk7 hk8)⟩, by simp [intOf]; omega⟩
            · obtain hqn : q = (m + 1) := by omega
              subst hqn
              clear hat
              go_wp2_with fail
              refine (alive02_c _).mono ?_
              rintro e w7 ⟨rfl, hk7⟩
              go_wp2_with fail
              go_ret
              exact ⟨rfl, kept_trans hk (kept_trans hkx hk7)⟩
      · have hfl : (fwdv k xs).length = 0 := by rw [fwdv_length, HX.out, if_neg hz]
        generalize amiss k ((m + 1 : Nat) : Int) = er at *
        generalize fwdv k xs = fs at *
        generalize fwdv k (movedv xs) = gs at *
        generalize movedv xs = ms at *
        go_enter Try.func9, Try.ntmps9
        go_wp2_with fail
        refine wp_region_tail 14 (by kernel_rfl) (by kernel_rfl) ?_
        simp only [List.take_succ_cons, List.take_zero, List.drop_succ_cons, List.drop_zero]
        repeat (first | go_big_quiet_skip | (go_big_quiet_want; go_big_quiet_op; first | go_big_quiet_on | fail))
        refine wpQuiet_nil ?_
        rintro w1 ⟨⟨_, hk1⟩, rfl⟩
        have r0 := hr.kept hk1
        rcases Nat.eq_zero_or_pos m with hm0 | hm0
        · subst hm0
          go_wp2_with (at_builtin; refine wpList_append_zero rfl _ _ 26 rfl 32 i1 Try.underlying26 hif1 (some (ad.add 0)) 1 1 (Nat.le_refl _) ad cap rfl rfl ?_)
          have rm : Rd .u64 w1 (some (ad.add 0)) ms := by
            obtain ⟨ad', e, hc⟩ := r0.2 (by have := HX.out; omega)
            cases e
            refine ⟨by rw [hml]; decide, fun _ => ⟨_, rfl, fun j hj => ?_⟩⟩
            rw [hml] at hj
            obtain rfl : j = 0 := by omega
            rw [hms]
            have := hc 0 (by have := HX.out; omega)
            simpa [Addr.add, nth] using this
          have hk2 := hk1
          clear hms
          go_wp2_with fail
          refine (F1 _ (hr.kept hk2)).mono ?_
          rintro e w3 ⟨v3, rfl, hown3, hk3⟩
          go_wp2_with fail
          refine (F2 _ _ _ (rm.kept hk3)).mono ?_
          rintro e w4 ⟨v4, rfl, hown4, hk4⟩
          clear F1 F2 hown3 hown4
          go_wp2_with fail
          refine (alive02_c _).mono ?_
          rintro e w5 ⟨rfl, hk5⟩
          go_wp2_with fail
          go_ret
          exact ⟨rfl, kept_trans hk2 (kept_trans hk3 (kept_trans hk4 hk5))⟩
        · go_wp2_with (at_builtin; refine wpList_append_grows _ rfl _ _ 26 rfl 32 i1 (.int .u64 0) 1 8 Try.underlying26 hif1 hy0 hy1 hy2 rfl (by decide) (some (ad.add m)) 1 1 [.int .u64 (nth xs m)] rfl (fun h => by cases h) rfl ?c0 ad m cap ((xs.take m).map (Value.int .u64)) rfl ?cl ?c1 ?c2 (by omega) ?c3 ?c4 ?_)
          case c0 =>
            intro b e j u hj
            cases e
            match j, hj with
            | 0, hj =>
              simp at hj
              subst hj
              obtain ⟨ad', e, hc⟩ := r0.at_ (j := m) (by have := HX.out; omega)
              cases e
              simpa [Addr.add] using hc
          case cl => rw [List.length_map, List.length_take, HX.out]; omega
          case c1 =>
            intro j u hj
            rw [List.getElem?_map, Option.map_eq_some_iff] at hj
            obtain ⟨z, hz, rfl⟩ := hj
            have hlt := (List.getElem?_eq_some_iff.1 hz).1
            rw [List.length_take, HX.out] at hlt
            obtain ⟨ad', e, hc⟩ := r0.at_ (j := j) (by have := HX.out; omega)
            cases e
            rw [List.getElem?_take, if_pos (by omega), List.getElem?_eq_some_iff] at hz
            obtain ⟨h1, h2⟩ := hz
            rw [hc, nth_lt h1, h2]
          case c2 => exact cells_one2 _ _
          case c3 => unfold maxLen; omega
          case c4 => omega
          intro v' w2 hown hgrow
          have hO : Own .u64 32 w1.heap.size w2 v' ms := by
            unfold Own
            rw [hml, hms, List.map_cons, List.map_take, show m + 1 = 1 + m by omega]
            exact hown
          have hk2 := kept_trans hk1 ((kept_refl w1).grown hgrow (Nat.le_refl _) (fun k h => by cases h))
          obtain ⟨AM, cM, rfl, _, _, rm⟩ := hO.rd
          rw [hml]
          clear hO hown hgrow
          clear hms
          go_wp2_with fail
          refine (F1 _ (hr.kept hk2)).mono ?_
          rintro e w3 ⟨v3, rfl, hown3, hk3⟩
          go_wp2_with fail
          refine (F2 _ _ _ (rm.kept hk3)).mono ?_
          rintro e w4 ⟨v4, rfl, hown4, hk4⟩
          clear F1 F2 hown3 hown4
          go_wp2_with fail
          refine (alive02_c _).mono ?_
          rintro e w5 ⟨rfl, hk5⟩
          go_wp2_with fail
          go_ret
          exact ⟨rfl, kept_trans hk2 (kept_trans hk3 (kept_trans hk4 hk5))⟩
  · have g1 : 4096 < xs.length := by omega
    clear h
    go_enter Try.func9, Try.ntmps9
    go_wp2_with fail
    refine (alive02_c _).mono ?_
    rintro e w1 ⟨rfl, hk1⟩
    go_wp2_with fail
    go_ret
    exact ⟨rfl, hk1⟩
end Go.Proofs.Ytkielaonclabbaa
