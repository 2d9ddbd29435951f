/-
  Rows of residues joined, by contracts.
-/
import Derived.Test.YthbbkmkaopgmdaaWRCrt
import Derived.Test.YthbbkmkaopgmdaaSl
namespace Go.Proofs.Ythbbkmkaopgmdaa
open Go.RowKit BG
attribute [local go_sem ↓] Go.wp_at_zero Go.wp_at_succ
set_option linter.unusedVariables false
/-- Numbers of 64 bits without a sign. -/
def U64 (xs : List Int) : Prop := ∀ j, 0 ≤ nth xs j ∧ nth xs j ≤ 18446744073709551615
def rowsOk (xs ys zs : List Int) : Bool := decide (ys.length = xs.length ∧ zs.length = xs.length ∧ ∀ j, j < xs.length → fits (nth xs j) (nth ys j) (nth zs j) = true)
def rowsv (xs ys zs : List Int) : List Int := if rowsOk xs ys zs then mk xs.length (fun j => num (nth xs j) (nth ys j) (nth zs j)) else []
theorem info_u64 : (Try.prog.info? 59).map (fun i => (i.zero, i.size, i.bytes)) = some (some (.int .u64 0), 1, 8) := by kernel_rfl

theorem rowsOk_five : rowsOk [5] [5] [5] = true := by
  simp only [rowsOk, decide_eq_true_eq]
  refine ⟨trivial, trivial, fun j hj => ?_⟩
  obtain rfl : j = 0 := by simpa using hj
  exact fits_five
theorem rowsv_five : rowsv [5] [5] [5] = [5] := by
  unfold rowsv
  rw [rowsOk_five, if_pos rfl]
  show [num 5 5 5] = [5]
  rw [num_five]
theorem rowsOk_nil : rowsOk [] [] [5] = false := by simp [rowsOk]
theorem rowsv_nil : rowsv [] [] [5] = [] := by unfold rowsv; rw [rowsOk_nil]; rfl

theorem rows_c (A B C : Option Addr) (ca cb cc : Nat) (xs ys zs : List Int) (w : World) (hx : Rd .u64 w A xs) (hy : Rd .u64 w B ys) (hz : Rd .u64 w C zs) (ux : U64 xs) (uy : U64 ys) (uz : U64 zs) (hreach : xs.length * 8 ≤ 140737488351232) :
    Calls Try.prog 53 #[.slice A xs.length ca, .slice B ys.length cb, .slice C zs.length cc] w fun e w' => ∃ v, e = .returned (.tuple #[v, .bool (rowsOk xs ys zs)]) ∧ Own .u64 59 w.heap.size w' v (rowsv xs ys zs) ∧ Kept w w' := by
  have hm := hx.1
  obtain ⟨i0, hi, hz0, hz1, hz2⟩ := info_parts info_u64
  by_cases h1 : ys.length = xs.length
  · by_cases h2 : zs.length = xs.length
    · have b1 : ((ys.length : Int) != (xs.length : Int)) = false := by simp [h1]
      have b2 : ((zs.length : Int) != (xs.length : Int)) = false := by simp [h2]
      have H1 := Lib.hid h1
      have H2 := Lib.hid h2
      clear h1 h2
      go_enter Try.func53, Try.ntmps53
      go_wp2_with fail
      go_loopw [8, 26] (fun v i wr => ∃ j : Nat, j ≤ xs.length ∧ i = .int .i64 j ∧ Own .u64 59 w.heap.size wr v (mk j fun q => num (nth xs q) (nth ys q) (nth zs q)) ∧ Kept w wr ∧ Hid (∀ q, q < j → fits (nth xs q) (nth ys q) (nth zs q) = true)) (fun _ i _ => xs.length - (intOf i).toNat)
      case atStart => exact ⟨0, Nat.zero_le _, rfl, Own.nil _ _ _ _, kept_refl _, fun q hq => absurd hq (Nat.not_lt_zero q)⟩
      case round =>
        obtain ⟨j, hj, rfl, hown, hk, HQ⟩ := hrel
        by_cases hlt : j < xs.length
        · have hlt1 : j < ys.length := by have := H1.out; omega
          have hlt2 : j < zs.length := by have := H2.out; omega
          obtain ⟨ad, rfl, hc1⟩ := (hx.kept hk).at_ hlt
          obtain ⟨bd, rfl, hc2⟩ := (hy.kept hk).at_ hlt1
          obtain ⟨cd, rfl, hc3⟩ := (hz.kept hk).at_ hlt2
          have u1 := (ux j).1
          have u2 := (uy j).1
          have u3 := (uz j).1
          go_wp2_with fail
          have k1 : ∀ s : KW wr, s.val.cell? (ad.add j) = some (.int .u64 (nth xs j)) := fun s => kw_cell s hc1
          have k2 : ∀ s : KW wr, s.val.cell? (bd.add j) = some (.int .u64 (nth ys j)) := fun s => kw_cell s hc2
          have k3 : ∀ s : KW wr, s.val.cell? (cd.add j) = some (.int .u64 (nth zs j)) := fun s => kw_cell s hc3
          refine wp_region_kept (by kernel_rfl) (by kernel_rfl) ?_
          repeat (first | go_big_quiet_skip | (go_big_quiet_want; go_big_quiet_op; first | go_big_quiet_on | (apply Exists.intro; refine ⟨fun s => ?_, ?_⟩; (first | (go_at_call 74; exact call_kept (join_c _ _ _ (by assumption) (by assumption) (by assumption) _))); go_big_quiet_on)))
          refine wpQuiet_nil ?_
          rintro wq ⟨⟨_, hkq⟩, rfl⟩
          have hown2 : World.ownsRow _ _ _ _ _ _ _ := hown.kept hkq
          have hbase : w.heap.size ≤ wq.heap.size := Nat.le_trans hk.size hkq.size
          rw [mk_length] at hown2
          clear hc1 hc2 hc3 k1 k2 k3 u1 u2 u3 hown
          cases hf : fits (nth xs j) (nth ys j) (nth zs j)
          · go_wp2_with fail
            go_ret2
            have hno : rowsOk xs ys zs = false := by
              simp only [rowsOk, decide_eq_false_iff_not]
              rintro ⟨_, _, h⟩
              rw [h j hlt] at hf
              cases hf
            exact ⟨_, by rw [hno]; rfl, by unfold rowsv; rw [hno]; exact Own.nil _ _ _ _, kept_trans hk hkq⟩
          · have hjv : joinv (nth xs j) (nth ys j) (nth zs j) = num (nth xs j) (nth ys j) (nth zs j) := by simp [joinv, hf]
            go_wp2_with (at_builtin; refine wpList_append_own _ rfl _ _ 68 rfl w.heap.size 59 i0 (.int .u64 0) 1 8 Try.underlying68 hi hz0 hz1 hz2 rfl (by decide) _ _ _ rfl (hown2.alloc _) ⟨wq.heap.size, 0, none⟩ 1 1 [.int .u64 (num (nth xs j) (nth ys j) (nth zs j))] rfl rfl ?c1 ?c2 ?c3 ?c4 ?c5 ?_)
            case c1 =>
              intro q u hq
              match q, hq with
              | 0, hq => simp at hq; subst hq; simp [Addr.add]
            case c2 => intro u hu; simp at hu; subst hu; rfl
            case c3 => unfold maxLen; omega
            case c4 => omega
            case c5 => simp; omega
            · intro v' w1 hown' hgrow _
              have R := Own.appended (f := fun q => num (nth xs q) (nth ys q) (nth zs q)) hown'
              have K := kept_grown (kept_alloc (kept_trans hk hkq) _) (hown2.alloc _) (Nat.le_refl _) hgrow
              clear hown' hgrow hown2
              go_wp2_with fail
              go_roundw
              case rel => exact ⟨j + 1, by omega, by go_num, R, K, fun q hq => by
                rcases Nat.lt_or_ge q j with h | h
                · exact HQ q h
                · obtain rfl : q = j := by omega
                  exact hf⟩
              case measure => simp [intOf]; omega
        · obtain rfl : j = xs.length := by omega
          have hyes : rowsOk xs ys zs = true := by
            simp only [rowsOk, decide_eq_true_eq]
            exact ⟨H1.out, H2.out, HQ⟩
          have HY := Lib.hid hyes
          clear hyes
          go_wp2_with fail
          go_ret2
          exact ⟨_, by rw [HY.out]; rfl, by unfold rowsv; rw [HY.out, if_pos rfl]; exact hown, hk⟩
    · have b1 : ((ys.length : Int) != (xs.length : Int)) = false := by simp [h1]
      have b2 : ((zs.length : Int) != (xs.length : Int)) = true := by rw [bne_iff_ne]; omega
      have hno : rowsOk xs ys zs = false := by
        simp only [rowsOk, decide_eq_false_iff_not]
        exact fun h => h2 h.2.1
      have HN := Lib.hid hno
      clear h1 h2 hno
      go_enter Try.func53, Try.ntmps53
      go_wp2_with fail
      go_ret2
      exact ⟨_, by rw [HN.out]; rfl, by unfold rowsv; rw [HN.out]; exact Own.nil _ _ _ _, kept_refl _⟩
  · have b1 : ((ys.length : Int) != (xs.length : Int)) = true := by rw [bne_iff_ne]; omega
    have hno : rowsOk xs ys zs = false := by
      simp only [rowsOk, decide_eq_false_iff_not]
      exact fun h => h1 h.1
    have HN := Lib.hid hno
    clear h1 hno
    go_enter Try.func53, Try.ntmps53
    go_wp2_with fail
    go_ret2
    exact ⟨_, by rw [HN.out]; rfl, by unfold rowsv; rw [HN.out]; exact Own.nil _ _ _ _, kept_refl _⟩

theorem rows_at (b : Bool) (l : List Int) (A B C : Option Addr) (ca cb cc : Nat) (xs ys zs : List Int) (w : World) (hx : Rd .u64 w A xs) (hy : Rd .u64 w B ys) (hz : Rd .u64 w C zs) (ux : U64 xs) (uy : U64 ys) (uz : U64 zs) (hreach : xs.length * 8 ≤ 140737488351232) (hb : rowsOk xs ys zs = b) (hl : rowsv xs ys zs = l) :
    Calls Try.prog 53 #[.slice A xs.length ca, .slice B ys.length cb, .slice C zs.length cc] w fun e w' => ∃ v, e = .returned (.tuple #[v, .bool b]) ∧ Own .u64 59 w.heap.size w' v l ∧ Kept w w' := by
  subst hb; subst hl; exact rows_c A B C ca cb cc xs ys zs w hx hy hz ux uy uz hreach

end Go.Proofs.Ythbbkmkaopgmdaa
