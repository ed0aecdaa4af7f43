/- Walks: rectangles: covers; the document's. -/
import Derived.Test.YtfnnhjnhccbglaaRect
namespace Go.Proofs.Ytfnnhjnhccbglaa
open Go.RowKit

def rcells (r : Pl.R) : Array Value := #[.int .i64 r.x0, .int .i64 r.y0, .int .i64 r.x1, .int .i64 r.y1]

/-- The same, the answer known. -/
theorem rect_Empty_v {a b c d : Int} {v : Bool} (hv : decide (Pl.R.empty ⟨a, b, c, d⟩) = v) (w : World) :
    Calls Try.prog 126 #[.agg #[.int .i64 a, .int .i64 b, .int .i64 c, .int .i64 d]] w fun e w' => e = .returned (.bool v) ∧ Below w.heap.size w w' := by
  subst hv; exact rect_Empty a b c d w

theorem ret_rect {x0 y0 x1 y1 : Int} {r : Pl.R} (h : r = ⟨x0, y0, x1, y1⟩) : Ending.returned (.agg #[.int .i64 x0, .int .i64 y0, .int .i64 x1, .int .i64 y1]) = .returned (.agg #[.int .i64 r.x0, .int .i64 r.y0, .int .i64 r.x1, .int .i64 r.y1]) := by
  subst h; rfl

/-! ### == of rectangles: one Bool -/
theorem eqRect (d : Nat) (w : World) (x0 x1 x2 x3 y0 y1 y2 y3 : Int) :
    (Op.equalIn (d + 2) 32 (.agg #[.int .i64 x0, .int .i64 x1, .int .i64 x2, .int .i64 x3]) (.agg #[.int .i64 y0, .int .i64 y1, .int .i64 y2, .int .i64 y3])).run Try.prog w =
      .ok (decide ((⟨x0, x1, x2, x3⟩ : Pl.R) = ⟨y0, y1, y2, y3⟩)) w := by
  have hu := Try.underlying32
  rw [run_equalIn_struct (P := Try.prog) w (d + 1) 32 _ _ (by simp [Program.fieldsOf, hu]) (by kernel_rfl)]
  simp only [Program.fieldsOf, hu]
  by_cases h0 : x0 = y0 <;> by_cases h1 : x1 = y1 <;> by_cases h2 : x2 = y2 <;> by_cases h3 : x3 = y3 <;> simp [Op.eqFields, go_sem, h0, h1, h2, h3]
attribute [local go_sem high] eqRect

set_option maxHeartbeats 1000000 in
theorem rect_Covers (a b c d p q r s : Int) (w : World) :
    Calls Try.prog 128 #[.agg #[.int .i64 a, .int .i64 b, .int .i64 c, .int .i64 d], .agg #[.int .i64 p, .int .i64 q, .int .i64 r, .int .i64 s]] w fun e w' =>
      e = .returned (.bool (decide (Pl.coversR ⟨a, b, c, d⟩ ⟨p, q, r, s⟩))) ∧ Below w.heap.size w w' := by
  have hv1 : (⟨p, q, r, s⟩ : Pl.R).empty → Pl.coversR ⟨a, b, c, d⟩ ⟨p, q, r, s⟩ := fun he => .inl he
  have hv : ¬ (⟨p, q, r, s⟩ : Pl.R).empty → ∀ B : Bool, (B = true ↔ Pl.cutR ⟨a, b, c, d⟩ ⟨p, q, r, s⟩ = ⟨p, q, r, s⟩) → B = decide (Pl.coversR ⟨a, b, c, d⟩ ⟨p, q, r, s⟩) := fun he B hB => bool_decide (by
      rw [hB]
      simp only [Pl.coversR, he, false_or]
      unfold Pl.cutR
      split
      · rename_i h
        simp only [Pl.R.empty, Pl.R.zero, Pl.R.mk.injEq] at *
        omega
      · simp only [Pl.R.empty, Pl.R.mk.injEq] at *
        omega)
  have hB1 := (Blk.new w #[.int .i64 a, .int .i64 b, .int .i64 c, .int .i64 d] 32).alloc (.cells #[.int .i64 p, .int .i64 q, .int .i64 r, .int .i64 s] 32)
  have hB2 := Blk.new (w.alloc (.cells #[.int .i64 a, .int .i64 b, .int .i64 c, .int .i64 d] 32)) #[.int .i64 p, .int .i64 q, .int .i64 r, .int .i64 s] 32
  have hW : Below w.heap.size w ((w.alloc (.cells #[.int .i64 a, .int .i64 b, .int .i64 c, .int .i64 d] 32)).alloc (.cells #[.int .i64 p, .int .i64 q, .int .i64 r, .int .i64 s] 32)) := by go_grown
  simp only [World.size_alloc] at hB2
  by_cases he : (⟨p, q, r, s⟩ : Pl.R).empty
  · have hd : decide ((⟨p, q, r, s⟩ : Pl.R).empty) = true := by simpa using he
    have Hv := Lib.hid (hv1 he)
    clear hv hv1 he
    go_enter Try.func128, Try.ntmps128
    go_wp2_with fail
    generalize (w.alloc (.cells #[.int .i64 a, .int .i64 b, .int .i64 c, .int .i64 d] 32)).alloc (.cells #[.int .i64 p, .int .i64 q, .int .i64 r, .int .i64 s] 32) = W at *
    have hc1 := hB1.cell
    have hc2 := hB2.cell
    have hl1 := hB1.lt
    have hl2 := hB2.lt
    go_region_with ((go_at_call 126; refine (rect_Empty_v hd _).mono ?_; rintro e w1 ⟨rfl, hb1⟩; obtain ⟨hc3, hf3⟩ := bcell hb1; have hWz : Below W.heap.size W w1 := below_of (by first | assumption | go_grown) hb1))
    all_goals
      go_wp2
      go_ret
      exact ⟨ret_bool (bool_decide (by simp [Hv.out])), below_of hW (by assumption)⟩
  · have hd : decide ((⟨p, q, r, s⟩ : Pl.R).empty) = false := by simpa using he
    have Hv := Lib.hid (hv he)
    clear hv hv1 he
    go_enter Try.func128, Try.ntmps128
    go_wp2_with fail
    generalize (w.alloc (.cells #[.int .i64 a, .int .i64 b, .int .i64 c, .int .i64 d] 32)).alloc (.cells #[.int .i64 p, .int .i64 q, .int .i64 r, .int .i64 s] 32) = W at *
    have hc1 := hB1.cell
    have hc2 := hB2.cell
    have hl1 := hB1.lt
    have hl2 := hB2.lt
    go_region_held3 (fun w' => Below W.heap.size W w' ∧ (∀ b o, b < W.heap.size → w'.cell? ⟨b, o, none⟩ = W.cell? ⟨b, o, none⟩)) ((refine keepS ?_; first | assumption | go_grown))
      ((first | (go_at_call 126; refine (rect_Empty_v hd _).mono ?_; rintro e wz ⟨rfl, hbz⟩; have hWz : Below W.heap.size W wz := below_of (by first | assumption | go_grown) hbz; clear hbz) | (go_at_call 84; refine (rect_Cut _ _ _ _ _ _ _ _ _).mono ?_; rintro e wz ⟨rfl, hbz⟩; have hWz : Below W.heap.size W wz := below_of (by first | assumption | go_grown) hbz; clear hbz)))
    all_goals
      go_wp2
      go_ret
      exact ⟨ret_bool (Hv.out _ (by simp [Pl.R.eq_iff])), below_of hW (by assumption)⟩


/-! ### The document's -/
set_option maxHeartbeats 1000000 in
theorem ref_Empty (a b c d : Int) (w : World) :
    Calls Try.prog 90 #[.agg #[.int .i64 a, .int .i64 b, .int .i64 c, .int .i64 d]] w fun e w' => e = .returned (.bool (decide (Pl.R.empty ⟨a, b, c, d⟩))) ∧ Below w.heap.size w w' := by
  go_enter Try.func90, Try.ntmps90
  go_wp2
  all_goals
    go_ret
    exact ⟨ret_bool (bool_decide (by simp [Pl.R.empty]; try omega)), by go_grown⟩

theorem ref_Empty_v {a b c d : Int} {v : Bool} (hv : decide (Pl.R.empty ⟨a, b, c, d⟩) = v) (w : World) :
    Calls Try.prog 90 #[.agg #[.int .i64 a, .int .i64 b, .int .i64 c, .int .i64 d]] w fun e w' => e = .returned (.bool v) ∧ Below w.heap.size w w' := by
  subst hv; exact ref_Empty a b c d w

set_option maxHeartbeats 1000000 in
theorem ref_Has (a b c d x y : Int) (w : World) :
    Calls Try.prog 83 #[.agg #[.int .i64 a, .int .i64 b, .int .i64 c, .int .i64 d], .int .i64 x, .int .i64 y] w fun e w' => e = .returned (.bool (decide (Pl.R.has ⟨a, b, c, d⟩ x y))) ∧ Below w.heap.size w w' := by
  go_enter Try.func83, Try.ntmps83
  go_wp2
  all_goals
    go_ret
    exact ⟨ret_bool (bool_decide (by simp [Pl.R.has]; try omega)), by go_grown⟩

set_option maxHeartbeats 1000000 in
theorem ref_Around (n m : Int) (hm : 0 < m) (hm2 : m ≤ 1000000) (w : World) (hn : -9223372036854775808 ≤ n ∧ n ≤ 9223372036854775807) :
    Calls Try.prog 30 #[.int .i64 n, .int .i64 m] w fun e w' => e = .returned (.int .i64 (Pl.around n m)) ∧ w = w' := by
  have hv : Pl.around n m = if n < 0 then (-(n + 1)).tmod m else n.tmod m := rfl
  have Hv := Lib.hid hv
  clear hv
  go_enter Try.func30, Try.ntmps30
  go_wp2
  all_goals
    go_ret
    refine ⟨ret_int ?_, rfl⟩
    rw [Hv.out]
    first
      | (rw [if_pos (by omega), Int.neg_tmod])
      | (rw [if_neg (by omega), Int.tmod_eq_emod_of_nonneg (by omega)])

end Go.Proofs.Ytfnnhjnhccbglaa
