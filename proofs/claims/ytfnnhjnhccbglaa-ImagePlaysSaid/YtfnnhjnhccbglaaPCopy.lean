/- Plain law: what a copy of points does. No program here. -/
import Derived.Test.YtfnnhjnhccbglaaPFill
namespace Go.Proofs.Ytfnnhjnhccbglaa

def clampF (n : Int) : Int := min (max n (-1048576)) 1048576
theorem clampF_bd (n : Int) : -1048576 ≤ clampF n ∧ clampF n ≤ 1048576 := by unfold clampF; omega
/-- Is the place i of an image W wide copied to? -/
def copyP (W W2 H2 : Nat) (r : Pl.R) (dx dy : Int) (i : Nat) : Bool :=
  decide (inBox W2 H2 (((i % W : Nat) : Int) - dx) (((i / W : Nat) : Int) - dy) ∧ r.has (((i % W : Nat) : Int) - dx) (((i / W : Nat) : Int) - dy))
def copyF (W W2 : Nat) (L2 : List Int) (dx dy : Int) (i : Nat) : Int := px W2 L2 (((i % W : Nat) : Int) - dx) (((i / W : Nat) : Int) - dy)
/-- The colors behind a Copy; how many points. -/
def copyL (W : Nat) (L : List Int) (W2 H2 : Nat) (L2 : List Int) (r : Pl.R) (dx dy : Int) : List Int :=
  putL L (copyP W W2 H2 r (clampF dx) (clampF dy)) (copyF W W2 L2 (clampF dx) (clampF dy))
def copyN (W : Nat) (L : List Int) (W2 H2 : Nat) (r : Pl.R) (dx dy : Int) : Int := cntTo (copyP W W2 H2 r (clampF dx) (clampF dy)) L.length

/-- What is cut out, as whole numbers; and where it goes. -/
def Cuts (W H W2 H2 : Nat) (dx dy : Int) (X0 Y0 X1 Y1 U V : Nat) : Prop :=
  X0 < X1 ∧ Y0 < Y1 ∧ X1 ≤ W2 ∧ Y1 ≤ H2 ∧ (U : Int) = X0 + dx ∧ (V : Int) = Y0 + dy ∧ U + (X1 - X0) ≤ W ∧ V + (Y1 - Y0) ≤ H

theorem cuts {W H W2 H2 : Nat} (r : Pl.R) (dx dy : Int) : ∃ X0 Y0 X1 Y1 U V : Nat, Pl.cutR (Pl.cutR r ⟨0, 0, W2, H2⟩) ⟨-dx, -dy, W - dx, H - dy⟩ = ⟨X0, Y0, X1, Y1⟩ ∧ (Cuts W H W2 H2 dx dy X0 Y0 X1 Y1 U V ∨ (X0 = 0 ∧ Y0 = 0 ∧ X1 = 0 ∧ Y1 = 0 ∧ U = 0 ∧ V = 0)) := by
  rcases Pl.cutR_cases (Pl.cutR r ⟨0, 0, W2, H2⟩) ⟨-dx, -dy, W - dx, H - dy⟩ with h | ⟨h1, h2⟩
  · exact ⟨0, 0, 0, 0, 0, 0, h, .inr ⟨rfl, rfl, rfl, rfl, rfl, rfl⟩⟩
  · obtain ⟨A0, B0, A1, B1, e, k1, k2, k3⟩ := cut_nat r W2 H2
    rw [e] at h1 h2 ⊢
    rw [h2] at h1 ⊢
    simp only [Pl.R.empty] at h1
    refine ⟨(max (A0 : Int) (-dx)).toNat, (max (B0 : Int) (-dy)).toNat, (min (A1 : Int) (W - dx)).toNat, (min (B1 : Int) (H - dy)).toNat, (max (A0 : Int) (-dx) + dx).toNat, (max (B0 : Int) (-dy) + dy).toNat, ?_, .inl ?_⟩
    · simp only [Pl.R.mk.injEq]; omega
    · unfold Cuts; omega

theorem copyP_cut {W H W2 H2 n i : Nat} (r : Pl.R) (dx dy : Int) (hn : n = W * H) (hi : i < n) (hw : 1 ≤ W) :
    copyP W W2 H2 r dx dy i = decide ((Pl.cutR (Pl.cutR r ⟨0, 0, W2, H2⟩) ⟨-dx, -dy, W - dx, H - dy⟩).has (((i % W : Nat) : Int) - dx) (((i / W : Nat) : Int) - dy)) := by
  have hb := inBox_place hn hi hw
  unfold copyP
  rw [decide_eq_decide, Pl.cutR_has, Pl.cutR_has]
  unfold inBox at *
  simp only [Pl.R.has]
  generalize ((i % W : Nat) : Int) = a at *
  generalize ((i / W : Nat) : Int) = b at *
  omega

/-- The places that are copied to, in whole numbers. -/
theorem copyP_nat {W H W2 H2 n i : Nat} (r : Pl.R) (dx dy : Int) (hn : n = W * H) (hi : i < n) (hw : 1 ≤ W) {X0 Y0 X1 Y1 U V : Nat}
    (e : Pl.cutR (Pl.cutR r ⟨0, 0, W2, H2⟩) ⟨-dx, -dy, W - dx, H - dy⟩ = ⟨X0, Y0, X1, Y1⟩) (h : Cuts W H W2 H2 dx dy X0 Y0 X1 Y1 U V ∨ (X0 = 0 ∧ Y0 = 0 ∧ X1 = 0 ∧ Y1 = 0 ∧ U = 0 ∧ V = 0)) :
    copyP W W2 H2 r dx dy i = decide ((U ≤ i % W ∧ i % W < U + (X1 - X0)) ∧ V ≤ i / W ∧ i / W < V + (Y1 - Y0)) := by
  rw [copyP_cut r dx dy hn hi hw, e, decide_eq_decide]
  simp only [Pl.R.has]
  generalize i % W = a
  generalize i / W = b
  unfold Cuts at h
  omega

theorem copyN_area {W H W2 H2 n : Nat} (r : Pl.R) (dx dy : Int) (hn : n = W * H) (hw : 1 ≤ W) :
    cntTo (copyP W W2 H2 r dx dy) n = Pl.areaR (Pl.cutR (Pl.cutR r ⟨0, 0, W2, H2⟩) ⟨-dx, -dy, W - dx, H - dy⟩) := by
  obtain ⟨X0, Y0, X1, Y1, U, V, e, h⟩ := cuts (W := W) (H := H) (W2 := W2) (H2 := H2) r dx dy
  rw [cntTo_congr (fun i hi => copyP_nat r dx dy hn hi hw e h), e, hn, Nat.mul_comm W H, cntTo_rect (by omega) (by unfold Cuts at h; omega)]
  unfold Pl.areaR
  unfold Cuts at h
  split
  · rename_i k
    simp only [Pl.R.empty] at k
    rw [show ((U + (X1 - X0) : Nat) : Int) - U = 0 by omega]; simp
  · rename_i k
    simp only [Pl.R.empty] at k
    rw [show max (min (H : Int) ((V + (Y1 - Y0) : Nat) : Int) - V) 0 = (Y1 : Int) - Y0 by omega, show ((U + (X1 - X0) : Nat) : Int) - U = (X1 : Int) - X0 by omega, Int.mul_comm]

/-- What has been copied when the rows up to y of the source are done. -/
def copyQ (W Y0 X0 X1 U V y : Nat) (i : Nat) : Bool := decide ((U ≤ i % W ∧ i % W < U + (X1 - X0)) ∧ V ≤ i / W ∧ i / W < V + (y - Y0))
theorem copyQ_step {W Y0 X0 X1 U V y i : Nat} (hU : U + (X1 - X0) ≤ W) (hy : Y0 ≤ y) :
    copyQ W Y0 X0 X1 U V (y + 1) i = true ↔ copyQ W Y0 X0 X1 U V y i = true ∨ ∃ j, j < X1 - X0 ∧ i = (V + (y - Y0)) * W + U + j := by
  unfold copyQ
  rw [decide_eq_true_iff, decide_eq_true_iff]
  constructor
  · intro h
    by_cases hr : i / W = V + (y - Y0)
    · refine .inr ⟨i % W - U, by omega, ?_⟩
      have := (dm_iff' (W := W) (i := i) (by omega)).1 ⟨hr, rfl⟩
      rw [Nat.add_assoc, show U + (i % W - U) = i % W by omega]; exact this
    · left
      generalize i % W = a at *
      generalize i / W = b at *
      omega
  · rintro (h | ⟨j, hj, rfl⟩)
    · generalize i % W = a at *
      generalize i / W = b at *
      omega
    · rw [Nat.add_assoc, (row_dm (by omega)).1, (row_dm (by omega)).2]; omega

end Go.Proofs.Ytfnnhjnhccbglaa
