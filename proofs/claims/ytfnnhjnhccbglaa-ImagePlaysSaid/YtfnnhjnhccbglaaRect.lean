/- Walks: rectangles, the program's and the document's. -/
import Derived.Test.YtfnnhjnhccbglaaBase
import Derived.Test.YtfnnhjnhccbglaaPRect
namespace Go.Proofs.Ytfnnhjnhccbglaa
open Go.RowKit

set_option maxHeartbeats 1000000 in
theorem rect_Empty (a b c d : Int) (w : World) :
    Calls Try.prog 126 #[.agg #[.int .i64 a, .int .i64 b, .int .i64 c, .int .i64 d]] w fun e w' => e = .returned (.bool (decide (Pl.R.empty ⟨a, b, c, d⟩))) ∧ Below w.heap.size w w' := by
  go_enter Try.func126, Try.ntmps126
  go_wp2
  all_goals
    go_ret
    exact ⟨ret_bool (bool_decide (by simp [Pl.R.empty]; try omega)), by go_grown⟩

set_option maxHeartbeats 1000000 in
theorem rect_Has (a b c d x y : Int) (w : World) :
    Calls Try.prog 80 #[.agg #[.int .i64 a, .int .i64 b, .int .i64 c, .int .i64 d], .int .i64 x, .int .i64 y] w fun e w' => e = .returned (.bool (decide (Pl.R.has ⟨a, b, c, d⟩ x y))) ∧ Below w.heap.size w w' := by
  go_enter Try.func80, Try.ntmps80
  go_wp2
  all_goals
    go_ret
    exact ⟨ret_bool (bool_decide (by simp [Pl.R.has]; try omega)), by go_grown⟩

set_option maxHeartbeats 1000000 in
theorem rect_Cut (a b c d p q r s : Int) (w : World) :
    Calls Try.prog 84 #[.agg #[.int .i64 a, .int .i64 b, .int .i64 c, .int .i64 d], .agg #[.int .i64 p, .int .i64 q, .int .i64 r, .int .i64 s]] w fun e w' =>
      e = .returned (.agg #[.int .i64 (Pl.cutR ⟨a, b, c, d⟩ ⟨p, q, r, s⟩).x0, .int .i64 (Pl.cutR ⟨a, b, c, d⟩ ⟨p, q, r, s⟩).y0, .int .i64 (Pl.cutR ⟨a, b, c, d⟩ ⟨p, q, r, s⟩).x1, .int .i64 (Pl.cutR ⟨a, b, c, d⟩ ⟨p, q, r, s⟩).y1]) ∧ Below w.heap.size w w' := by
  go_enter Try.func84, Try.ntmps84
  go_wp2_with (go_at_call 126; refine (rect_Empty _ _ _ _ _).mono ?_; rintro e w1 ⟨rfl, hb1⟩; obtain ⟨hc1, hf1⟩ := bcell hb1; have hW1 : Below w.heap.size w w1 := below_of (by go_grown) hb1)
  · have he : Pl.R.empty ⟨max a p, max b q, min c r, min d s⟩ := by assumption
    have hz := hb1.size
    simp at hz
    refine bodyPost_ret (v := .agg #[.int .i64 0, .int .i64 0, .int .i64 0, .int .i64 0]) (by simp [results, Try.results84, go_sem, hc1, hz]) rfl ⟨?_, by go_grown⟩
    unfold Pl.cutR
    rw [if_pos he]
    rfl
  · have he : ¬ Pl.R.empty ⟨max a p, max b q, min c r, min d s⟩ := by assumption
    have hz := hb1.size
    simp at hz
    refine bodyPost_ret (v := .agg #[.int .i64 (max a p), .int .i64 (max b q), .int .i64 (min c r), .int .i64 (min d s)]) (by simp [results, Try.results84, go_sem, hc1, hz]) rfl ⟨?_, by go_grown⟩
    unfold Pl.cutR
    rw [if_neg he]

theorem areaBd {a b c d : Int} (h : (⟨a, b, c, d⟩ : Pl.R).empty ∨ (c - a ≤ 1073741824 ∧ d - b ≤ 1073741824)) (hn : ¬ (⟨a, b, c, d⟩ : Pl.R).empty) : 0 ≤ (c - a) * (d - b) ∧ (c - a) * (d - b) ≤ 1152921504606846976 := by
  have h := h.resolve_left hn
  simp only [Pl.R.empty] at hn
  exact ⟨Int.mul_nonneg (by omega) (by omega), Int.le_trans (Int.mul_le_mul h.1 h.2 (by omega) (by omega)) (by omega)⟩

set_option maxHeartbeats 1000000 in
theorem rect_Area (a b c d : Int) (h : (⟨a, b, c, d⟩ : Pl.R).empty ∨ (c - a ≤ 1073741824 ∧ d - b ≤ 1073741824)) (ha : -1073741824 ≤ a ∧ a ≤ 1073741824 ∧ -1073741824 ≤ b ∧ b ≤ 1073741824 ∧ -1073741824 ≤ c ∧ c ≤ 1073741824 ∧ -1073741824 ≤ d ∧ d ≤ 1073741824) (w : World) :
    Calls Try.prog 86 #[.agg #[.int .i64 a, .int .i64 b, .int .i64 c, .int .i64 d]] w fun e w' => e = .returned (.int .i64 (Pl.areaR ⟨a, b, c, d⟩)) ∧ Below w.heap.size w w' := by
  by_cases he : (⟨a, b, c, d⟩ : Pl.R).empty
  · have hd : decide ((⟨a, b, c, d⟩ : Pl.R).empty) = true := by simpa using he
    have hv : Pl.areaR ⟨a, b, c, d⟩ = 0 := by unfold Pl.areaR; rw [if_pos he]
    have Hv := Lib.hid hv
    clear hv h ha he
    go_enter Try.func86, Try.ntmps86
    go_wp2_with (go_at_call 126; refine (rect_Empty _ _ _ _ _).mono ?_; rintro e w1 ⟨rfl, hb1⟩; obtain ⟨hc1, hf1⟩ := bcell hb1; have hW1 : Below w.heap.size w w1 := below_of (by go_grown) hb1)
    go_ret
    have hz := hb1.size
    simp at hz
    exact ⟨ret_int Hv.out.symm, by go_grown⟩
  · have hp := areaBd h he
    have hd : decide ((⟨a, b, c, d⟩ : Pl.R).empty) = false := by simpa using he
    have hv : Pl.areaR ⟨a, b, c, d⟩ = (c - a) * (d - b) := by unfold Pl.areaR; rw [if_neg he]
    have Hv := Lib.hid hv
    clear hv h he
    go_enter Try.func86, Try.ntmps86
    go_wp2_with (go_at_call 126; refine (rect_Empty _ _ _ _ _).mono ?_; rintro e w1 ⟨rfl, hb1⟩; obtain ⟨hc1, hf1⟩ := bcell hb1; have hW1 : Below w.heap.size w w1 := below_of (by go_grown) hb1)
    go_ret
    have hz := hb1.size
    simp at hz
    exact ⟨ret_int Hv.out.symm, by go_grown⟩

end Go.Proofs.Ytfnnhjnhccbglaa
