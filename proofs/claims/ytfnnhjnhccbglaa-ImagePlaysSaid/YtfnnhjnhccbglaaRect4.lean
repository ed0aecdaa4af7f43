/- Walks: the document's covers, area, small. -/
import Derived.Test.YtfnnhjnhccbglaaRect2
namespace Go.Proofs.Ytfnnhjnhccbglaa
open Go.RowKit

set_option maxHeartbeats 1000000 in
theorem ref_Covers (a b c d p q r s : Int) (w : World) :
    Calls Try.prog 89 #[.agg #[.int .i64 a, .int .i64 b, .int .i64 c, .int .i64 d], .agg #[.int .i64 p, .int .i64 q, .int .i64 r, .int .i64 s]] w fun e w' =>
      e = .returned (.bool (decide (Pl.coversR ⟨a, b, c, d⟩ ⟨p, q, r, s⟩))) ∧ Below w.heap.size w w' := by
  go_enter Try.func89, Try.ntmps89
  go_wp2_with (go_at_call 90; refine (ref_Empty _ _ _ _ _).mono ?_; rintro e w1 ⟨rfl, hb1⟩; obtain ⟨hc1, hf1⟩ := bcell hb1; have hW1 : Below w.heap.size w w1 := below_of (by first | assumption | go_grown) hb1)
  all_goals
    go_ret
    refine ⟨ret_bool (bool_decide ?_), hW1⟩
    clear hc1 hf1 hb1 hW1
    simp only [Pl.R.empty] at *
    simp only [Pl.coversR, Pl.R.empty]
    simp
    try omega

set_option maxHeartbeats 1000000 in
theorem ref_Area (a b c d : Int) (h : (⟨a, b, c, d⟩ : Pl.R).empty ∨ (c - a ≤ 1073741824 ∧ d - b ≤ 1073741824)) (ha : -1073741824 ≤ a ∧ a ≤ 1073741824 ∧ -1073741824 ≤ b ∧ b ≤ 1073741824 ∧ -1073741824 ≤ c ∧ c ≤ 1073741824 ∧ -1073741824 ≤ d ∧ d ≤ 1073741824) (w : World) :
    Calls Try.prog 91 #[.agg #[.int .i64 a, .int .i64 b, .int .i64 c, .int .i64 d]] w fun e w' => e = .returned (.int .i64 (Pl.areaR ⟨a, b, c, d⟩)) ∧ Below w.heap.size w w' := by
  by_cases he : (⟨a, b, c, d⟩ : Pl.R).empty
  · have hd : decide ((⟨a, b, c, d⟩ : Pl.R).empty) = true := by simpa using he
    have hv : Pl.areaR ⟨a, b, c, d⟩ = 0 := by unfold Pl.areaR; rw [if_pos he]
    have Hv := Lib.hid hv
    clear hv h ha he
    go_enter Try.func91, Try.ntmps91
    go_wp2_with (go_at_call 90; refine (ref_Empty_v hd _).mono ?_; rintro e w1 ⟨rfl, hb1⟩; obtain ⟨hc1, hf1⟩ := bcell hb1; have hW1 : Below w.heap.size w w1 := below_of (by first | assumption | go_grown) hb1)
    go_ret
    exact ⟨ret_int Hv.out.symm, hW1⟩
  · have hp := areaBd h he
    have hd : decide ((⟨a, b, c, d⟩ : Pl.R).empty) = false := by simpa using he
    have hv : Pl.areaR ⟨a, b, c, d⟩ = (c - a) * (d - b) := by unfold Pl.areaR; rw [if_neg he]
    have Hv := Lib.hid hv
    clear hv h he
    go_enter Try.func91, Try.ntmps91
    go_wp2_with (go_at_call 90; refine (ref_Empty_v hd _).mono ?_; rintro e w1 ⟨rfl, hb1⟩; obtain ⟨hc1, hf1⟩ := bcell hb1; have hW1 : Below w.heap.size w w1 := below_of (by first | assumption | go_grown) hb1)
    go_ret
    exact ⟨ret_int Hv.out.symm, hW1⟩

def isI64 (n : Int) : Prop := -9223372036854775808 ≤ n ∧ n ≤ 9223372036854775807

set_option maxHeartbeats 1000000 in
theorem ref_Small (a b c d : Int) (ha : isI64 a) (hb : isI64 b) (hc : isI64 c) (hd : isI64 d) (w : World) :
    Calls Try.prog 35 #[.agg #[.int .i64 a, .int .i64 b, .int .i64 c, .int .i64 d]] w fun e w' =>
      e = .returned (.agg #[.int .i64 (Pl.smallR ⟨a, b, c, d⟩).x0, .int .i64 (Pl.smallR ⟨a, b, c, d⟩).y0, .int .i64 (Pl.smallR ⟨a, b, c, d⟩).x1, .int .i64 (Pl.smallR ⟨a, b, c, d⟩).y1]) ∧ Below w.heap.size w w' := by
  have Ha := Lib.hid ha
  have Hb := Lib.hid hb
  have Hc := Lib.hid hc
  have Hd := Lib.hid hd
  clear ha hb hc hd
  have h0 := Pl.around_bd (n := a) (m := 24) (by omega)
  have h1 := Pl.around_bd (n := b) (m := 24) (by omega)
  have h2 := Pl.around_bd (n := c) (m := 13) (by omega)
  have h3 := Pl.around_bd (n := d) (m := 13) (by omega)
  have hB1 := (Blk.new w #[.int .i64 a, .int .i64 b, .int .i64 c, .int .i64 d] 32).alloc (.cells #[.int .i64 0, .int .i64 0, .int .i64 0, .int .i64 0] 32)
  have hB2 := Blk.new (w.alloc (.cells #[.int .i64 a, .int .i64 b, .int .i64 c, .int .i64 d] 32)) #[.int .i64 0, .int .i64 0, .int .i64 0, .int .i64 0] 32
  have hW : Below w.heap.size w ((w.alloc (.cells #[.int .i64 a, .int .i64 b, .int .i64 c, .int .i64 d] 32)).alloc (.cells #[.int .i64 0, .int .i64 0, .int .i64 0, .int .i64 0] 32)) := by go_grown
  simp only [World.size_alloc] at hB2
  go_enter Try.func35, Try.ntmps35
  go_wp2_with (first
    | (go_at_call_of 30 (Value.int .i64 a); refine (ref_Around _ _ (by omega) (by omega) _ Ha.out).mono ?_; rintro e wz ⟨rfl, rfl⟩)
    | (go_at_call_of 30 (Value.int .i64 b); refine (ref_Around _ _ (by omega) (by omega) _ Hb.out).mono ?_; rintro e wz ⟨rfl, rfl⟩))
  generalize (w.alloc (.cells #[.int .i64 a, .int .i64 b, .int .i64 c, .int .i64 d] 32)).alloc (.cells #[.int .i64 0, .int .i64 0, .int .i64 0, .int .i64 0] 32) = W at *
  have hn : ¬ w.heap.size = w.heap.size + 1 := by omega
  have hc1 := hB1.cell
  have hc2 := hB2.cell
  have hf2 := hB2.free
  have e2 : IntKind.i64.wrap (Pl.around a 24 - 4 + Pl.around c 13) = Pl.around a 24 - 4 + Pl.around c 13 := IntWalk.i64_in _ (by omega)
  have e3 : IntKind.i64.wrap (Pl.around b 24 - 4 + Pl.around d 13) = Pl.around b 24 - 4 + Pl.around d 13 := IntWalk.i64_in _ (by omega)
  go_region_held3 (fun w' => ∀ i, w'.cell? ⟨w.heap.size, i, none⟩ = (#[.int .i64 a, .int .i64 b, .int .i64 c, .int .i64 d] : Array Value)[i]?) (simp [*, cell?_setCell_ne])
    ((first
      | (go_at_call_of 30 (Value.int .i64 c); refine (ref_Around _ _ (by omega) (by omega) _ Hc.out).mono ?_; rintro e wz ⟨rfl, rfl⟩)
      | (go_at_call_of 30 (Value.int .i64 d); refine (ref_Around _ _ (by omega) (by omega) _ Hd.out).mono ?_; rintro e wz ⟨rfl, rfl⟩)))
  all_goals
    go_wp2
    refine bodyPost_ret (by simp [results, Try.results35, go_sem, hc2]; rfl) rfl ⟨?_, by go_grown⟩
    refine ret_rect (r := Pl.smallR ⟨a, b, c, d⟩) rfl

end Go.Proofs.Ytfnnhjnhccbglaa
