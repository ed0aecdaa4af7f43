/- Plain law: what a write of bytes does. No program here. -/
import Derived.Test.YtfnnhjnhccbglaaPCopy
namespace Go.Proofs.Ytfnnhjnhccbglaa

/-- The color that the four bytes from 4 * k on make. -/
def wcol (B : List Int) (k : Nat) : Int := Pl.mkc (Pl.cl (gd B (4 * k))) (Pl.cl (gd B (4 * k + 1))) (Pl.cl (gd B (4 * k + 2))) (Pl.cl (gd B (4 * k + 3)))
theorem wcol_isC (B : List Int) (k : Nat) : Pl.isC (wcol B k) := Pl.mkc_bd (Pl.cl_bd _) (Pl.cl_bd _) (Pl.cl_bd _) (Pl.cl_bd _)
/-- All points are within, and there are some. -/
def insideR (W H : Nat) (r : Pl.R) : Prop := ¬ r.empty ∧ Pl.coversR ⟨0, 0, W, H⟩ r
instance (W H : Nat) (r : Pl.R) : Decidable (insideR W H r) := by unfold insideR; infer_instance
def okN (B : List Int) (n : Nat) : Bool := (List.range n).all fun k => Pl.mayc (wcol B k)
theorem okN_zero (B : List Int) : okN B 0 = true := rfl
theorem okN_succ (B : List Int) (n : Nat) : okN B (n + 1) = (okN B n && Pl.mayc (wcol B n)) := by simp [okN, List.range_succ]
theorem okN_le {B : List Int} {k n : Nat} (h : okN B n = true) (hk : k ≤ n) : okN B k = true := by
  unfold okN at *
  rw [List.all_eq_true] at *
  intro i hi
  exact h i (by rw [List.mem_range] at *; omega)
theorem okN_no {B : List Int} {k n : Nat} (hk : k < n) (hm : Pl.mayc (wcol B k) = false) : okN B n = false := by
  rw [Bool.eq_false_iff]
  intro h
  have := List.all_eq_true.1 h k (List.mem_range.2 hk)
  rw [hm] at this
  cases this
/-- The answer: the kind of error, 0: none. -/
def writeE (W H : Nat) (r : Pl.R) (B : List Int) : Int :=
  if insideR W H r then (if (B.length : Int) < 4 * Pl.areaR r then 3 else if 4 * Pl.areaR r < (B.length : Int) then 2 else if okN B (Pl.areaR r).toNat = true then 0 else 1) else 4
/-- The point's number in a rectangle. -/
def wIdx (W : Nat) (r : Pl.R) (i : Nat) : Nat := (i / W - r.y0.toNat) * (r.x1.toNat - r.x0.toNat) + (i % W - r.x0.toNat)
/-- The colors behind it. -/
def writeL (W H : Nat) (L : List Int) (r : Pl.R) (B : List Int) : List Int :=
  if writeE W H r B = 0 then putL L (selR W r) (fun i => wcol B (wIdx W r i)) else L

theorem inside_nat {W H : Nat} {r : Pl.R} (h : insideR W H r) : ∃ X0 Y0 X1 Y1 : Nat, r = ⟨X0, Y0, X1, Y1⟩ ∧ X0 < X1 ∧ X1 ≤ W ∧ Y0 < Y1 ∧ Y1 ≤ H := by
  obtain ⟨a, b, c, d⟩ := r
  obtain ⟨h1, h2⟩ := h
  unfold Pl.coversR at h2
  simp only [Pl.R.empty] at h1 h2
  refine ⟨a.toNat, b.toNat, c.toNat, d.toNat, ?_, ?_, ?_, ?_, ?_⟩
  · simp only [Pl.R.mk.injEq]; omega
  all_goals omega

/-- How many points. -/
theorem area_nat {X0 Y0 X1 Y1 : Nat} (hx : X0 < X1) (hy : Y0 < Y1) : Pl.areaR ⟨X0, Y0, X1, Y1⟩ = (((X1 - X0) * (Y1 - Y0) : Nat) : Int) := by
  unfold Pl.areaR
  rw [if_neg (by simp only [Pl.R.empty]; omega)]
  rw [Int.natCast_mul]
  show ((X1 : Int) - X0) * ((Y1 : Int) - Y0) = _
  rw [show ((X1 - X0 : Nat) : Int) = (X1 : Int) - X0 by omega, show ((Y1 - Y0 : Nat) : Int) = (Y1 : Int) - Y0 by omega]
theorem area_le {W H X0 Y0 X1 Y1 : Nat} (hX : X1 ≤ W) (hY : Y1 ≤ H) (hW : W ≤ 256) (hH : H ≤ 256) : (X1 - X0) * (Y1 - Y0) ≤ 65536 :=
  Nat.le_trans (Nat.mul_le_mul (show X1 - X0 ≤ 256 by omega) (show Y1 - Y0 ≤ 256 by omega)) (by decide)

theorem writeE_out {W H : Nat} {r : Pl.R} {B : List Int} (h : ¬ insideR W H r) : writeE W H r B = 4 := if_neg h
theorem writeE_short {W H : Nat} {r : Pl.R} {B : List Int} (h : insideR W H r) (h2 : (B.length : Int) < 4 * Pl.areaR r) : writeE W H r B = 3 := by unfold writeE; rw [if_pos h, if_pos h2]
theorem writeE_long {W H : Nat} {r : Pl.R} {B : List Int} (h : insideR W H r) (h2 : 4 * Pl.areaR r < (B.length : Int)) : writeE W H r B = 2 := by
  unfold writeE; rw [if_pos h, if_neg (by omega), if_pos h2]
theorem writeE_ok {W H : Nat} {r : Pl.R} {B : List Int} {n : Nat} (h : insideR W H r) (ha : Pl.areaR r = n) (h2 : B.length = 4 * n) (ho : okN B n = true) : writeE W H r B = 0 := by
  unfold writeE; rw [if_pos h, ha, if_neg (by omega), if_neg (by omega), Int.toNat_natCast, if_pos ho]
theorem writeE_arg {W H : Nat} {r : Pl.R} {B : List Int} {n : Nat} (h : insideR W H r) (ha : Pl.areaR r = n) (h2 : B.length = 4 * n) (ho : okN B n = false) : writeE W H r B = 1 := by
  unfold writeE; rw [if_pos h, ha, if_neg (by omega), if_neg (by omega), Int.toNat_natCast, if_neg (by rw [ho]; simp)]
theorem writeL_ne {W H : Nat} {L : List Int} {r : Pl.R} {B : List Int} {e : Int} (h : writeE W H r B = e) (he : e ≠ 0) : writeL W H L r B = L := if_neg (by rw [h]; exact he)

/-- In numbers: where point number k goes. -/
def wAt (W X0 Y0 w k : Nat) : Nat := (Y0 + k / w) * W + X0 + k % w
def wIx (W X0 Y0 w i : Nat) : Nat := (i / W - Y0) * w + (i % W - X0)
theorem wAt_iff {W X0 Y0 X1 Y1 k i w : Nat} (hw : X1 - X0 = w) (hx : X0 < X1) (hX : X1 ≤ W) (hk : k < w * (Y1 - Y0)) :
    ((X0 ≤ i % W ∧ i % W < X1 ∧ Y0 ≤ i / W ∧ i / W < Y1) ∧ wIx W X0 Y0 w i = k) ↔ i = wAt W X0 Y0 w k := by
  have hw0 : 0 < w := by omega
  have hkd : k / w < Y1 - Y0 := (Nat.div_lt_iff_lt_mul hw0).2 (by rw [Nat.mul_comm]; exact hk)
  have hkm := Nat.mod_lt k hw0
  constructor
  · rintro ⟨⟨a1, a2, a3, a4⟩, e⟩
    unfold wIx at e
    obtain ⟨m1, m2⟩ := row_dm (W := w) (y := i / W - Y0) (x := i % W - X0) (by omega)
    rw [e] at m1 m2
    unfold wAt
    rw [m1, m2, show Y0 + (i / W - Y0) = i / W by omega, Nat.add_assoc, show X0 + (i % W - X0) = i % W by omega, Nat.mul_comm]
    exact (Nat.div_add_mod i W).symm
  · intro e
    unfold wAt at e
    have hdm := Nat.div_add_mod k w
    unfold wIx
    generalize k / w = a at *
    generalize k % w = b at *
    obtain ⟨m1, m2⟩ := row_dm (W := W) (y := Y0 + a) (x := X0 + b) (by omega)
    rw [← Nat.add_assoc, ← e] at m1 m2
    rw [m1, m2]
    refine ⟨by omega, ?_⟩
    rw [show Y0 + a - Y0 = a by omega, show X0 + b - X0 = b by omega, Nat.mul_comm]
    exact hdm
theorem wAt_lt {W H X0 Y0 X1 Y1 k w : Nat} (hw : X1 - X0 = w) (hx : X0 < X1) (hX : X1 ≤ W) (hk : k < w * (Y1 - Y0)) (hY : Y1 ≤ H) : wAt W X0 Y0 w k < W * H := by
  have hw0 : 0 < w := by omega
  have hkd : k / w < Y1 - Y0 := (Nat.div_lt_iff_lt_mul hw0).2 (by rw [Nat.mul_comm]; exact hk)
  have hkm := Nat.mod_lt k hw0
  unfold wAt
  generalize k / w = a at *
  generalize k % w = b at *
  have := Nat.mul_le_mul_right W (show Y0 + a + 1 ≤ H by omega)
  rw [Nat.add_mul, Nat.one_mul, Nat.mul_comm H W] at this
  omega
theorem wIx_lt {W X0 Y0 X1 Y1 i w : Nat} (hw : X1 - X0 = w) (h : X0 ≤ i % W ∧ i % W < X1 ∧ Y0 ≤ i / W ∧ i / W < Y1) : wIx W X0 Y0 w i < w * (Y1 - Y0) := by
  unfold wIx
  have := Nat.mul_le_mul_left w (show i / W - Y0 + 1 ≤ Y1 - Y0 by omega)
  rw [Nat.mul_add, Nat.mul_one, Nat.mul_comm w (i / W - Y0)] at this
  omega

/-- What is written when k points are over. -/
def writeP (W X0 Y0 X1 Y1 w k : Nat) (i : Nat) : Bool := decide ((X0 ≤ i % W ∧ i % W < X1 ∧ Y0 ≤ i / W ∧ i / W < Y1) ∧ wIx W X0 Y0 w i < k)
theorem writeP_step {W X0 Y0 X1 Y1 k i w : Nat} (hw : X1 - X0 = w) (hx : X0 < X1) (hX : X1 ≤ W) (hk : k < w * (Y1 - Y0)) :
    writeP W X0 Y0 X1 Y1 w (k + 1) i = true ↔ writeP W X0 Y0 X1 Y1 w k i = true ∨ i = wAt W X0 Y0 w k := by
  rw [← wAt_iff hw hx hX hk]
  unfold writeP
  rw [decide_eq_true_iff, decide_eq_true_iff]
  generalize i % W = a
  generalize i / W = b
  omega

/-- The whole of it, in numbers. -/
theorem writeL_nat {W H : Nat} {L : List Int} {B : List Int} {X0 Y0 X1 Y1 w : Nat} (hw : X1 - X0 = w) (he : writeE W H ⟨X0, Y0, X1, Y1⟩ B = 0) :
    writeL W H L ⟨X0, Y0, X1, Y1⟩ B = putL L (writeP W X0 Y0 X1 Y1 w (w * (Y1 - Y0))) (fun i => wcol B (wIx W X0 Y0 w i)) := by
  unfold writeL
  rw [if_pos he]
  refine putL_congr (fun i _ => ?_) (fun i _ _ => by unfold wIdx wIx; simp only [Int.toNat_natCast, hw])
  rw [Bool.eq_iff_iff, selR_iff]
  unfold writeP
  rw [decide_eq_true_iff]
  simp only [Int.ofNat_le, Int.ofNat_lt]
  constructor
  · intro h; exact ⟨⟨h.1, h.2.1, h.2.2.1, h.2.2.2⟩, wIx_lt hw ⟨h.1, h.2.1, h.2.2.1, h.2.2.2⟩⟩
  · intro h; exact h.1
/-- .. and by rows. -/
theorem writeL_rows {W H : Nat} {L : List Int} {B : List Int} {X0 Y0 X1 Y1 w : Nat} (hw : X1 - X0 = w) (hx : X0 < X1) (hy : Y0 < Y1) (he : writeE W H ⟨X0, Y0, X1, Y1⟩ B = 0) :
    writeL W H L ⟨X0, Y0, X1, Y1⟩ B = putL L (copyQ W Y0 X0 X1 X0 Y0 Y1) (fun i => wcol B (wIx W X0 Y0 w i)) := by
  unfold writeL
  rw [if_pos he]
  refine putL_congr (fun i _ => ?_) (fun i _ _ => by unfold wIdx wIx; simp only [Int.toNat_natCast, hw])
  rw [Bool.eq_iff_iff, selR_iff]
  unfold copyQ
  rw [decide_eq_true_iff]
  simp only [Int.ofNat_le, Int.ofNat_lt]
  generalize i % W = a
  generalize i / W = b
  omega
/-- A row's place j: the color's number. -/
theorem wIx_row {W X0 Y0 X1 y j w : Nat} (hw : X1 - X0 = w) (hX : X1 ≤ W) (hy : Y0 ≤ y) (hj : j < w) : wIx W X0 Y0 w (y * W + X0 + j) = (y - Y0) * w + j := by
  unfold wIx
  obtain ⟨m1, m2⟩ := row_dm (W := W) (y := y) (x := X0 + j) (by omega)
  rw [← Nat.add_assoc] at m1 m2
  rw [m1, m2, show X0 + j - X0 = j by omega]

end Go.Proofs.Ytfnnhjnhccbglaa
