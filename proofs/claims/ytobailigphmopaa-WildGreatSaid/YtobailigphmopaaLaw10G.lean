/-
  Layer 10's statements: the greatest bytes.
-/
import Derived.Test.YtobailigphmopaaLaw10
import Derived.Test.YtobailigphmopaaLaw10P
import Derived.Deep.AppendLies
namespace Go.Proofs.Ytobailigphmopaa
open Go.RowKit BG
attribute [local go_sem ↓] Go.wp_at_zero Go.wp_at_succ
set_option linter.unusedVariables false

theorem wpList_str {P : Program} {w : World} {ops : Array Oper} {rest : List Oper} {o : Oper} {a : Act} {Q : Exit → Act → World → Prop} (hgd : o.guard = none) (x : Operand) (src dst e : TypeId)
    (ho : o.op = .convert src dst x) (A : Addr) (cap n : Nat) (l : List UInt8) (hn : l.length = n) (hx : a.eval x = .slice (some A) n cap) (hs : P.underlying src = some (.slice e)) (he : P.underlying e = some (.int .u8)) (hd : P.underlying dst = some .string)
    (hc : ∀ j (hj : j < l.length), w.cell? (A.add j) = some (.int .u8 (l[j].toNat : Int))) (h : wpList P ops Q rest (a.put o.dst (.string ⟨l.toArray⟩)) w) : wpList P ops Q (o :: rest) a w := by
  subst hn
  refine wpList_plain hgd fun K hK => ?_
  have hrun := run_convert_bytes_back (P := P) w src dst e A cap l hs he hd hc
  unfold Oper.wp
  simp only [execOp, ho, hx, Sem.run_bind, hrun, Result.andThen_ok, Sem.run_pure]
  exact hK _ _ h
/-- So many of one byte. -/
def rep (n b : Nat) : List UInt8 := List.replicate n (UInt8.ofNat b)
def repS (n b : Nat) : ByteArray := ⟨(rep n b).toArray⟩
theorem rep_len (n b : Nat) : (rep n b).length = n := List.length_replicate
theorem repS_size (n b : Nat) : (repS n b).size = n := by
  unfold repS ByteArray.size
  simp [rep_len]
theorem rep_at {n b j : Nat} (hb : b < 256) (hj : j < (rep n b).length) : ((rep n b)[j].toNat) = b := by
  have e := List.eq_of_mem_replicate (show (rep n b)[j] ∈ List.replicate n (UInt8.ofNat b) from List.getElem_mem hj)
  rw [e, UInt8.toNat_ofNat']
  omega
theorem repS_at {n b j : Nat} (hb : b < 256) (hj : j < n) : byteAt (repS n b) j = b := by
  unfold byteAt
  rw [dif_pos (by rw [repS_size]; exact hj)]
  exact rep_at hb (by rw [rep_len]; exact hj)
theorem only_val {b : Nat} (hb : b < 256) : valv (onlyv b) = b + 1 ∧ okel (onlyv b) = true := by
  have hp : hasv (onlyv b) b = true := by rw [has_only hb hb]; simp
  have h1 : sizev (onlyv b) = 1 := (size_only (onlyv_ok b) hb hp).2 rfl
  obtain ⟨e, _⟩ := sgl_good (onlyv_ok b) h1 hb hp
  exact ⟨by unfold valv; rw [e]; rfl, by unfold okel; rw [e]; rfl⟩
theorem only_ne {b : Nat} (hb : b < 256) : onlyv b ≠ zerov := fun e => by
  have hp : hasv (onlyv b) b = true := by rw [has_only hb hb]; simp
  rw [e, has_zero] at hp
  cases hp
theorem great_cls {M b : Nat} (hb : b < 256) {j : Nat} (hj : j < M) : cls (txtT (repS M b) M) j = onlyv b := by rw [txtT_cls _ hj, repS_at hb hj]
theorem great_right {M b : Nat} (hb : b < 256) (h1 : 1 ≤ M) (h2 : M ≤ 64) : rightv (txtT (repS M b) M) M 0 = true ∧ plainv (txtT (repS M b) M) M = true := by
  constructor
  · unfold rightv
    rw [contv_no (fun j hj => by rw [great_cls hb hj]; exact only_ne hb)]
    simp
    omega
  · exact plainv_yes fun j hj => by rw [great_cls hb hj]; exact (only_val hb).2
theorem great_err {M : Nat} (h1 : 1 ≤ M) (h2 : M ≤ 64) : errW M (2 * M) 128 = 0 := by
  unfold errW slb szb
  rw [if_pos (decide_eq_true ⟨by omega, by omega⟩), show hasLog 128 = true from by decide +kernel, Bool.true_and, if_pos (decide_eq_true (by omega))]
def gsum (M b c : Nat) : Int := (M : Int) * (((b : Int) + 1) * ((b : Int) - c) * ((b : Int) - c))
theorem great_mul {j bb : Nat} {d : Int} (hj : j ≤ 64) (hb : bb ≤ 255) (h0 : 0 ≤ d) (h1 : d ≤ 255) : ∃ p1 p2 : Int, IntKind.u64.wrap ((j : Int) * ((bb : Int) + 1)) = p1 ∧ IntKind.u64.wrap (p1 * d) = p2 ∧ IntKind.u64.wrap (p2 * d) = (j : Int) * (((bb : Int) + 1) * d * d) := by
  have a0 : 0 ≤ (j : Int) * ((bb : Int) + 1) := Int.mul_nonneg (by omega) (by omega)
  have a1 : (j : Int) * ((bb : Int) + 1) ≤ 64 * 256 := Int.mul_le_mul (by omega) (by omega) (by omega) (by decide)
  have b0 := Int.mul_nonneg a0 h0
  have b1 : (j : Int) * ((bb : Int) + 1) * d ≤ 64 * 256 * 255 := Int.mul_le_mul a1 h1 h0 (by decide)
  have c0 := Int.mul_nonneg b0 h0
  have c1 : (j : Int) * ((bb : Int) + 1) * d * d ≤ 64 * 256 * 255 * 255 := Int.mul_le_mul b1 h1 h0 (by decide)
  refine ⟨_, _, rfl, rfl, ?_⟩
  have w1 : IntKind.u64.wrap ((j : Int) * ((bb : Int) + 1)) = (j : Int) * ((bb : Int) + 1) := by rw [IntKind.wrap_u64]; omega
  have w2 : IntKind.u64.wrap ((j : Int) * ((bb : Int) + 1) * d) = (j : Int) * ((bb : Int) + 1) * d := by rw [IntKind.wrap_u64]; omega
  have w3 : IntKind.u64.wrap ((j : Int) * ((bb : Int) + 1) * d * d) = (j : Int) * ((bb : Int) + 1) * d * d := by rw [IntKind.wrap_u64]; omega
  rw [w1, w2, w3, Int.mul_assoc, Int.mul_assoc, Int.mul_assoc]
theorem great_sq (a b c : Int) : a * (b - c) * (b - c) = a * (c - b) * (c - b) := by
  rw [Int.mul_assoc, Int.mul_assoc, ← Int.neg_sub c b, Int.neg_mul_neg]
theorem sumTo_const (n : Nat) (f : Nat → Int) (v : Int) : (∀ j, j < n → f j = v) → sumTo n f = (n : Int) * v := by
  induction n with
  | zero => intro _; show (0 : Int) = _; simp
  | succ n ih =>
    intro h
    show sumTo n f + f n = _
    rw [ih fun j hj => h j (by omega), h n (by omega), Int.natCast_add, Int.add_mul]
    simp
theorem great_law {M b c : Nat} (hb : b < 256) (hc : c < 256) (h1 : 1 ≤ M) (h2 : M ≤ 64) : sumsE (txtT (repS M b) M) M 0 (2 * M) 128 = 0 ∧ sumsL (txtT (repS M b) M) M 0 (repS (2 * M) c) 128 = mk (M + 1) fun _ => gsum M b c := by
  obtain ⟨hr, hp⟩ := great_right hb h1 h2
  have hE : sumsE (txtT (repS M b) M) M 0 (2 * M) 128 = 0 := by unfold sumsE; rw [hr, hp]; exact great_err h1 h2
  refine ⟨hE, ?_⟩
  have h := (sums_ok (xs := txtT (repS M b) M) (n := M) (K := 0) (s := repS (2 * M) c) (size := 128) (by rw [repS_size]; exact hE)).2.2
  rw [h, repS_size, show 2 * M + 1 - M = M + 1 by omega]
  refine mk_congr fun i hi => ?_
  unfold sumW gsum
  refine sumTo_const M _ _ fun j hj => ?_
  unfold termW
  rw [great_cls hb hj, (only_val hb).1, repS_at hc (by omega)]
  rw [show ((b + 1 : Nat) : Int) = (b : Int) + 1 by omega, show (b : Int) + 1 - ((c : Int) + 1) = (b : Int) - c by omega]
theorem info_u8g : (Try.prog.info? 5).map (fun i => (i.zero, i.size, i.bytes)) = some (some (.int .u8 0), 1, 1) := by kernel_rfl
set_option maxRecDepth 100000 in
set_option maxHeartbeats 8000000 in
theorem wildGreat_w (b c m : Int) (hb : 0 ≤ b ∧ b ≤ 255) (hc : 0 ≤ c ∧ c ≤ 255) (w : World) : Calls Try.prog 8 #[.int .u8 b, .int .u8 c, .int .i64 m] w (Ret (.bool true) w) := by
  by_cases hm1 : m < 1
  · have hd : decide (m < 1) = true := decide_eq_true hm1
    go_enter Try.func8, Try.ntmps8
    go_wp2_with fail
    refine (alive10_c _).mono ?_
    rintro e w2 ⟨rfl, hk2⟩
    go_wp2_with fail
    go_ret
    exact ⟨rfl, hk2⟩
  · by_cases hm2 : 64 < m
    · have hd : decide (m < 1) = false := decide_eq_false hm1
      have hd2 : decide (64 < m) = true := decide_eq_true hm2
      go_enter Try.func8, Try.ntmps8
      go_wp2_with fail
      refine (alive10_c _).mono ?_
      rintro e w2 ⟨rfl, hk2⟩
      go_wp2_with fail
      go_ret
      exact ⟨rfl, hk2⟩
    · obtain ⟨M, rfl⟩ : ∃ M : Nat, m = (M : Int) := ⟨m.toNat, by omega⟩
      obtain ⟨bb, rfl⟩ : ∃ M : Nat, b = (M : Int) := ⟨b.toNat, by omega⟩
      obtain ⟨cc, rfl⟩ : ∃ M : Nat, c = (M : Int) := ⟨c.toNat, by omega⟩
      have h1 : 1 ≤ M := by omega
      have h2 : M ≤ 64 := by omega
      have hd : decide ((M : Int) < 1) = false := decide_eq_false hm1
      have hd2 : decide (64 < (M : Int)) = false := decide_eq_false hm2
      obtain ⟨i1, hif1, hy0, hy1, hy2⟩ := info_parts info_u8g
      obtain ⟨gE, gL⟩ := great_law (M := M) (b := bb) (c := cc) (by omega) (by omega) h1 h2
      have HE := Lib.hid gE
      have HL := Lib.hid gL
      clear gE gL
      go_enter Try.func8, Try.ntmps8
      go_wp2_with fail
      go_loopw [7, 8, 24] (fun v7 v8 iv wr => ∃ j : Nat, j ≤ M ∧ iv = .int .i64 j ∧ wr.ownsRow w.heap.size 5 1 v7 j (List.replicate j (Value.int .u8 bb)) ∧ wr.ownsRow w.heap.size 5 1 v8 (2 * j) (List.replicate (2 * j) (Value.int .u8 cc)) ∧ (∀ g, v7.ownBlock = some g → v8.ownBlock ≠ some g) ∧ Kept w wr) (fun _ _ iv _ => M - (intOf iv).toNat)
      case atStart => exact ⟨0, Nat.zero_le _, rfl, ⟨by simp, .inl ⟨rfl, rfl⟩⟩, ⟨by simp, .inl ⟨rfl, rfl⟩⟩, (fun g hg => by cases hg), kept_refl _⟩
      case round =>
        obtain ⟨j, hj, rfl, own7, own8, hne, hkw⟩ := hrel
        by_cases hlt : j < M
        · have hbase := hkw.size
          go_wp2_with (at_builtin; refine wpList_append_lies _ rfl _ _ 46 rfl w.heap.size 5 i1 (.int .u8 0) 1 1 Try.underlying46 hif1 hy0 hy1 hy2 rfl (by decide) _ _ _ rfl (own7.alloc _) ⟨wr.heap.size, 0, none⟩ 1 1 [.int .u8 (bb : Nat)] rfl rfl ?c1 ?c2 ?c3 ?c4 ?c5 ?c6 (wr.heap.size + 1) ?c7 ?_)
          case c1 =>
            intro q u hq
            match q, hq with
            | 0, hq => simp at hq; subst hq; simp [Addr.add]
          case c2 => intro u hu; simp at hu; subst hu; rfl
          case c3 => decide
          case c4 => unfold maxLen; omega
          case c5 => omega
          case c6 => simp; omega
          case c7 => simp
          · intro g7 cap7 w5 own7' hgrow hat hlt5
            have own8' : w5.ownsRow w.heap.size 5 1 u8 (2 * j) (List.replicate (2 * j) (Value.int .u8 cc)) := World.ownsRow.kept (own8.alloc _) hgrow (by
              cases h8 : u8.ownBlock with
              | none => exact .inl rfl
              | some g => exact .inr fun e => hne g e.symm h8)
            have K5 := kept_grown (kept_alloc hkw _) (own7.alloc _) (Nat.le_refl _) hgrow
            have hs5 := hgrow.size
            have hne5 : ∀ g, u8.ownBlock = some g → g ≠ g7 := fun g hg e => by
              subst e
              rcases hat with h | h
              · exact hne g h hg
              · have := (World.ownsRow.lt own8 g hg).2; omega
            have hb5 := K5.size
            clear own7 own8 hne hgrow hat hkw
            go_wp2_with (at_builtin; refine wpList_append_lies _ rfl _ _ 46 rfl w.heap.size 5 i1 (.int .u8 0) 1 1 Try.underlying46 hif1 hy0 hy1 hy2 rfl (by decide) _ _ _ rfl (own8'.alloc _) ⟨w5.heap.size, 0, none⟩ 2 2 [.int .u8 (cc : Nat), .int .u8 (cc : Nat)] rfl rfl ?d1 ?d2 ?d3 ?d4 ?d5 ?d6 (w5.heap.size + 1) ?d7 ?_)
            case d1 =>
              intro q u hq
              match q, hq with
              | 0, hq => simp at hq; subst hq; simp [Addr.add]
              | 1, hq => simp at hq; subst hq; simp [Addr.add]
            case d2 => intro u hu; simp at hu; subst hu; rfl
            case d3 => decide
            case d4 => unfold maxLen; omega
            case d5 => omega
            case d6 => simp; omega
            case d7 => simp
            · intro g8 cap8 w6 own8n hgrow hat hlt6
              have own7n := World.ownsRow.kept (own7'.alloc _) hgrow (.inr fun e => hne5 g7 e.symm rfl)
              have K6 := kept_grown (kept_alloc K5 _) (own8'.alloc _) (Nat.le_refl _) hgrow
              have hne6 : g7 ≠ g8 := fun e => by
                subst e
                rcases hat with h | h
                · exact hne5 _ h rfl
                · have := (World.ownsRow.lt own7' _ rfl).2; omega
              rw [← List.replicate_succ'] at own7n
              rw [show List.replicate (2 * j) (Value.int .u8 (cc : Nat)) ++ [Value.int .u8 (cc : Nat), Value.int .u8 (cc : Nat)] = List.replicate (2 * (j + 1)) (Value.int .u8 (cc : Nat)) by
                rw [show 2 * (j + 1) = 2 * j + 1 + 1 by omega, List.replicate_succ', List.replicate_succ', List.append_assoc]; rfl] at own8n
              clear own7' own8' hne5 hgrow hat K5
              go_wp2_with fail
              exact ⟨⟨j + 1, by omega, by go_num, own7n, own8n, fun g hg => by
                obtain rfl : g7 = g := by simpa [Value.ownBlock] using hg
                simpa [Value.ownBlock] using fun e : g8 = g7 => hne6 e.symm, K6⟩, by simp [intOf]; omega⟩
        · obtain rfl : j = M := by omega
          obtain ⟨g7, cap7, rfl, _, _⟩ := World.ownsRow.form own7 (by omega)
          obtain ⟨g8, cap8, rfl, _, _⟩ := World.ownsRow.form own8 (by omega)
          have hs7 := repS_size j bb
          have hs8 := repS_size (2 * j) cc
          go_wp2_with (refine wpList_str rfl _ _ _ _ rfl ⟨g7, 0, none⟩ cap7 j (rep j bb) (rep_len j bb) rfl rfl rfl rfl (fun q hq => by
            rw [rep_at (by omega) hq]
            exact World.ownsRow.cells own7 rfl q _ (by rw [List.getElem?_replicate, if_pos (by rwa [rep_len] at hq)])) ?_)
          have TX := text_c (repS j bb) 0 (by rw [hs7]; omega) wr
          rw [hs7] at TX
          go_wp2_with fail
          refine TX.mono ?_
          rintro e w3 ⟨A3, cp3, rfl, rd3, hk3, _⟩
          replace hkw := kept_trans hkw hk3
          have own8' := rowKept own8 hk3
          clear TX own7 own8 hne hk3
          have ka := kept_alloc (kept_refl w3) (.cells #[.slice A3 j cp3, .int .i64 0] 27)
          go_wp2_with (refine wpList_str rfl _ _ _ _ rfl ⟨g8, 0, none⟩ cap8 (2 * j) (rep (2 * j) cc) (rep_len (2 * j) cc) rfl rfl rfl rfl (fun q hq => by
            rw [rep_at (by omega) hq]
            exact World.ownsRow.cells (rowKept own8' ka) rfl q _ (by rw [List.getElem?_replicate, if_pos (by rwa [rep_len] at hq)])) ?_)
          have SM := sums_c A3 cp3 j (txtT (repS j bb) j) 0 (repS (2 * j) cc) 128 (txtT_u64 _ _) (txtT_length _ _) (by rw [hs8]; omega) _ (rd3.kept ka)
          rw [hs8, HE.out, HL.out] at SM
          generalize sumsN (txtT (repS j bb) j) j 0 (2 * j) 128 = sn at *
          go_wp2_with fail
          refine SM.mono ?_
          rintro e w4 ⟨A4, cp4, rfl, rd4, hk4, _, _, _⟩
          replace hkw := kept_trans hkw (kept_trans ka hk4)
          rw [mk_length]
          clear SM own8' hk4 ka HE HL
          rcases Nat.lt_trichotomy bb cc with hbc | hbc | hbc
          · have hm1' : max (bb : Int) cc = cc := by omega
            have hm2' : min (bb : Int) cc = bb := by omega
            go_wp2_with fail
            obtain ⟨p1, p2, e1, e2, e3⟩ := great_mul (j := j) (bb := bb) (d := (cc : Int) - (bb : Int)) h2 (by omega) (by omega) (by omega)
            have hS : gsum j bb cc = (j : Int) * (((bb : Int) + 1) * ((cc : Int) - (bb : Int)) * ((cc : Int) - (bb : Int))) := by unfold gsum; first | rfl | rw [great_sq]
            rw [← hS] at e3
            clear hS
            generalize gsum j bb cc = S at *
            go_loopw [66] (fun iv wr => ∃ i : Nat, i ≤ j + 1 ∧ iv = .int .i64 i ∧ Kept w4 wr) (fun iv _ => j + 1 - (intOf iv).toNat)
            case atStart => exact ⟨0, Nat.zero_le _, rfl, kept_refl _⟩
            case round =>
              obtain ⟨i, hi, rfl, hkr⟩ := hrel
              by_cases hlt : i < j + 1
              · obtain ⟨ad, rfl, x0⟩ := (rd4.kept hkr).at_ (j := i) (by rw [mk_length]; exact hlt)
                rw [nth_mk hlt] at x0
                go_wp2_with fail
                exact ⟨⟨i + 1, by omega, by go_num, hkr⟩, by simp [intOf]; omega⟩
              · obtain rfl : i = j + 1 := by omega
                go_wp2_with fail
                refine (alive10_c _).mono ?_
                rintro e w8 ⟨rfl, hk8⟩
                go_wp2_with fail
                go_ret
                exact ⟨rfl, kept_trans hkw (kept_trans hkr hk8)⟩
          · have hcb : cc = bb := hbc.symm
            subst hcb
            go_wp2_with fail
            have hS : gsum j cc cc = 0 := by unfold gsum; simp
            rw [hS] at rd4
            clear hS
            go_loopw [66] (fun iv wr => ∃ i : Nat, i ≤ j + 1 ∧ iv = .int .i64 i ∧ Kept w4 wr) (fun iv _ => j + 1 - (intOf iv).toNat)
            case atStart => exact ⟨0, Nat.zero_le _, rfl, kept_refl _⟩
            case round =>
              obtain ⟨i, hi, rfl, hkr⟩ := hrel
              by_cases hlt : i < j + 1
              · obtain ⟨ad, rfl, x0⟩ := (rd4.kept hkr).at_ (j := i) (by rw [mk_length]; exact hlt)
                rw [nth_mk hlt] at x0
                go_wp2_with fail
                exact ⟨⟨i + 1, by omega, by go_num, hkr⟩, by simp [intOf]; omega⟩
              · obtain rfl : i = j + 1 := by omega
                go_wp2_with fail
                refine (alive10_c _).mono ?_
                rintro e w8 ⟨rfl, hk8⟩
                go_wp2_with fail
                go_ret
                exact ⟨rfl, kept_trans hkw (kept_trans hkr hk8)⟩
          · have hm1' : max (bb : Int) cc = bb := by omega
            have hm2' : min (bb : Int) cc = cc := by omega
            go_wp2_with fail
            obtain ⟨p1, p2, e1, e2, e3⟩ := great_mul (j := j) (bb := bb) (d := (bb : Int) - (cc : Int)) h2 (by omega) (by omega) (by omega)
            have hS : gsum j bb cc = (j : Int) * (((bb : Int) + 1) * ((bb : Int) - (cc : Int)) * ((bb : Int) - (cc : Int))) := by unfold gsum; first | rfl | rw [great_sq]
            rw [← hS] at e3
            clear hS
            generalize gsum j bb cc = S at *
            go_loopw [66] (fun iv wr => ∃ i : Nat, i ≤ j + 1 ∧ iv = .int .i64 i ∧ Kept w4 wr) (fun iv _ => j + 1 - (intOf iv).toNat)
            case atStart => exact ⟨0, Nat.zero_le _, rfl, kept_refl _⟩
            case round =>
              obtain ⟨i, hi, rfl, hkr⟩ := hrel
              by_cases hlt : i < j + 1
              · obtain ⟨ad, rfl, x0⟩ := (rd4.kept hkr).at_ (j := i) (by rw [mk_length]; exact hlt)
                rw [nth_mk hlt] at x0
                go_wp2_with fail
                exact ⟨⟨i + 1, by omega, by go_num, hkr⟩, by simp [intOf]; omega⟩
              · obtain rfl : i = j + 1 := by omega
                go_wp2_with fail
                refine (alive10_c _).mono ?_
                rintro e w8 ⟨rfl, hk8⟩
                go_wp2_with fail
                go_ret
                exact ⟨rfl, kept_trans hkw (kept_trans hkr hk8)⟩
end Go.Proofs.Ytobailigphmopaa
