/- Plain law: rectangles: cut, covers, area; numbers made small. No program here. -/
import Derived.Test.YtfnnhjnhccbglaaPReg
namespace Go.Proofs.Ytfnnhjnhccbglaa
namespace Pl

def cutR (a b : R) : R :=
  if (⟨max a.x0 b.x0, max a.y0 b.y0, min a.x1 b.x1, min a.y1 b.y1⟩ : R).empty then R.zero else ⟨max a.x0 b.x0, max a.y0 b.y0, min a.x1 b.x1, min a.y1 b.y1⟩
def areaR (a : R) : Int := if a.empty then 0 else (a.x1 - a.x0) * (a.y1 - a.y0)
/-- Has a all points of b? -/
def coversR (a b : R) : Prop := b.empty ∨ (a.x0 ≤ b.x0 ∧ a.y0 ≤ b.y0 ∧ b.x1 ≤ a.x1 ∧ b.y1 ≤ a.y1)
instance (a b : R) : Decidable (coversR a b) := by unfold coversR; infer_instance
/-- Modulo, from 0 on. -/
def around (n m : Int) : Int := if n < 0 then (-(n + 1)).tmod m else n.tmod m
def smallR (r : R) : R := ⟨around r.x0 24 - 4, around r.y0 24 - 4, around r.x0 24 - 4 + around r.x1 13, around r.y0 24 - 4 + around r.y1 13⟩

theorem around_bd {n m : Int} (hm : 0 < m) : 0 ≤ around n m ∧ around n m < m := by
  unfold around
  split
  · rw [Int.tmod_eq_emod_of_nonneg (by omega)]
    exact ⟨Int.emod_nonneg _ (by omega), Int.emod_lt_of_pos _ hm⟩
  · rw [Int.tmod_eq_emod_of_nonneg (by omega)]
    exact ⟨Int.emod_nonneg _ (by omega), Int.emod_lt_of_pos _ hm⟩
theorem smallR_bd (r : R) : -4 ≤ (smallR r).x0 ∧ (smallR r).x0 ≤ 19 ∧ -4 ≤ (smallR r).y0 ∧ (smallR r).y0 ≤ 19 ∧ (smallR r).x0 ≤ (smallR r).x1 ∧ (smallR r).x1 ≤ (smallR r).x0 + 12 ∧ (smallR r).y0 ≤ (smallR r).y1 ∧ (smallR r).y1 ≤ (smallR r).y0 + 12 := by
  have h0 := around_bd (n := r.x0) (m := 24) (by omega)
  have h1 := around_bd (n := r.y0) (m := 24) (by omega)
  have h2 := around_bd (n := r.x1) (m := 13) (by omega)
  have h3 := around_bd (n := r.y1) (m := 13) (by omega)
  simp only [smallR]
  omega
theorem cutR_nil {a b c d p q r s : Int} (h : max a p ≥ min c r ∨ max b q ≥ min d s) : cutR ⟨a, b, c, d⟩ ⟨p, q, r, s⟩ = ⟨0, 0, 0, 0⟩ := by
  unfold cutR; rw [if_pos (by exact h)]; rfl
theorem cutR_some {a b c d p q r s : Int} (h : ¬ (max a p ≥ min c r ∨ max b q ≥ min d s)) : cutR ⟨a, b, c, d⟩ ⟨p, q, r, s⟩ = ⟨max a p, max b q, min c r, min d s⟩ := by
  unfold cutR; rw [if_neg (by exact h)]
theorem cutR_has (a b : R) (x y : Int) : (cutR a b).has x y ↔ a.has x y ∧ b.has x y := by
  unfold cutR
  split
  · rename_i h
    simp only [R.empty, R.has, R.zero] at *
    omega
  · rename_i h
    simp only [R.empty, R.has] at *
    omega
theorem cutR_comm (a b : R) : cutR a b = cutR b a := by
  unfold cutR
  simp only [Int.max_comm, Int.min_comm]
/-- A cut: empty and all 0, or within both. -/
theorem cutR_cases (a b : R) : cutR a b = R.zero ∨ (¬ (cutR a b).empty ∧ cutR a b = ⟨max a.x0 b.x0, max a.y0 b.y0, min a.x1 b.x1, min a.y1 b.y1⟩) := by
  unfold cutR
  split
  · exact .inl rfl
  · rename_i h; exact .inr ⟨h, rfl⟩

end Pl
end Go.Proofs.Ytfnnhjnhccbglaa
