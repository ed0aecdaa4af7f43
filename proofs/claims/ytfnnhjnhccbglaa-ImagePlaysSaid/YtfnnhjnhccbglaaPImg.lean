/- Plain law: images as lists of colors: what an image is; its points. No program here. -/
import Derived.Test.YtfnnhjnhccbglaaPCol
import Derived.Test.YtfnnhjnhccbglaaPRect
namespace Go.Proofs.Ytfnnhjnhccbglaa

/-- Sides that may be, and as many colors, all such as may be. -/
structure IsM (W H : Nat) (L : List Int) : Prop where
  len : L.length = W * H
  w1 : 1 ≤ W
  w2 : W ≤ 256
  h1 : 1 ≤ H
  h2 : H ≤ 256
  col : ∀ c, c ∈ L → Pl.isC c ∧ Pl.mayc c = true

theorem IsM.small {W H : Nat} {L : List Int} (h : IsM W H L) : 1 ≤ L.length ∧ L.length ≤ 65536 := by
  rw [h.len]
  exact ⟨Nat.mul_pos h.w1 h.h1, Nat.le_trans (Nat.mul_le_mul h.w2 h.h2) (by decide)⟩
theorem IsM.set {W H : Nat} {L : List Int} (h : IsM W H L) (k : Nat) {c : Int} (hc : Pl.isC c) (hm : Pl.mayc c = true) : IsM W H (L.set k c) :=
  ⟨by simpa using h.len, h.w1, h.w2, h.h1, h.h2, fun d hd => by
    rcases List.mem_or_eq_of_mem_set hd with hd | rfl
    · exact h.col d hd
    · exact ⟨hc, hm⟩⟩
theorem isC_zero : Pl.isC 0 := by unfold Pl.isC; omega
theorem mayc_zero : Pl.mayc 0 = true := by decide
theorem IsM.zero {W H : Nat} (w1 : 1 ≤ W) (w2 : W ≤ 256) (h1 : 1 ≤ H) (h2 : H ≤ 256) : IsM W H (List.replicate (W * H) 0) :=
  ⟨by simp, w1, w2, h1, h2, fun c hc => by obtain ⟨_, rfl⟩ := List.mem_replicate.1 hc; exact ⟨isC_zero, mayc_zero⟩⟩

/-- Has the box of W by H the point? -/
def inBox (W H : Nat) (x y : Int) : Prop := 0 ≤ x ∧ x < W ∧ 0 ≤ y ∧ y < H
instance (W H : Nat) (x y : Int) : Decidable (inBox W H x y) := by unfold inBox; infer_instance
theorem inBox_iff (W H : Nat) (x y : Int) : decide (Pl.R.has ⟨0, 0, W, H⟩ x y) = decide (inBox W H x y) := by
  rw [decide_eq_decide]; simp [Pl.R.has, inBox]
/-- A point's place. -/
theorem at_lt {W H n : Nat} {x y : Int} (h : inBox W H x y) (hn : n = W * H) : 0 ≤ y * W + x ∧ y * W + x < (n : Int) ∧ 0 ≤ y * W ∧ y * W < (n : Int) := by
  subst hn
  obtain ⟨a, b, c, d⟩ := h
  obtain ⟨x, rfl⟩ := Int.eq_ofNat_of_zero_le a
  obtain ⟨y, rfl⟩ := Int.eq_ofNat_of_zero_le c
  have e : y + 1 ≤ H := by omega
  have := Nat.mul_le_mul_right W e
  rw [Nat.add_mul, Nat.one_mul, Nat.mul_comm H W] at this
  have e2 : (y : Int) * W = ((y * W : Nat) : Int) := by simp
  rw [e2]
  omega
/-- A place's point. -/
theorem place {W H n k : Nat} (hn : n = W * H) (hk : k < n) (hw : 1 ≤ W) : k % W < W ∧ k / W < H ∧ k / W * W + k % W = k := by
  subst hn
  refine ⟨Nat.mod_lt _ hw, ?_, ?_⟩
  · exact Nat.div_lt_of_lt_mul hk
  · rw [Nat.mul_comm]; exact Nat.div_add_mod k W
theorem inBox_place {W H n k : Nat} (hn : n = W * H) (hk : k < n) (hw : 1 ≤ W) : inBox W H ((k % W : Nat) : Int) ((k / W : Nat) : Int) := by
  obtain ⟨a, b, _⟩ := place hn hk hw
  unfold inBox
  generalize k % W = r at *
  generalize k / W = q at *
  omega
theorem place_at {W H n k : Nat} (hn : n = W * H) (hk : k < n) (hw : 1 ≤ W) : ((((k / W : Nat) : Int)) * W + ((k % W : Nat) : Int)).toNat = k := by
  obtain ⟨_, _, c⟩ := place hn hk hw
  have e : (((k / W : Nat) : Int)) * W + ((k % W : Nat) : Int) = ((k / W * W + k % W : Nat) : Int) := by push_cast; rfl
  rw [e, c]; simp

/-- An element, 0 beyond the end. -/
def gd (L : List Int) (k : Nat) : Int := L.getD k 0
/-- A point's color. -/
def px (W : Nat) (L : List Int) (x y : Int) : Int := gd L (y * W + x).toNat
/-- A point's color; 0: there is no such point. -/
def pxo (W H : Nat) (L : List Int) (x y : Int) : Int := if inBox W H x y then px W L x y else 0
theorem pxo_in {W H : Nat} {L : List Int} {x y : Int} (h : inBox W H x y) : pxo W H L x y = px W L x y := by unfold pxo; rw [if_pos h]
theorem pxo_out {W H : Nat} {L : List Int} {x y : Int} (h : ¬ inBox W H x y) : pxo W H L x y = 0 := by unfold pxo; rw [if_neg h]
theorem px_place {W H n k : Nat} {L : List Int} (hn : n = W * H) (hk : k < n) (hw : 1 ≤ W) : px W L ((k % W : Nat) : Int) ((k / W : Nat) : Int) = gd L k := by
  unfold px; rw [place_at hn hk hw]

/-- The answer of a Set; the colors behind it. -/
def setE (W H : Nat) (x y c : Int) : Int := if inBox W H x y then (if Pl.mayc c = true then 0 else 1) else 4
def setL (W H : Nat) (L : List Int) (x y c : Int) : List Int := if inBox W H x y ∧ Pl.mayc c = true then L.set (y * W + x).toNat c else L
theorem setL_length (W H : Nat) (L : List Int) (x y c : Int) : (setL W H L x y c).length = L.length := by unfold setL; split <;> simp
theorem IsM.setL {W H : Nat} {L : List Int} (h : IsM W H L) {x y c : Int} (hc : Pl.isC c) : IsM W H (setL W H L x y c) := by
  unfold Go.Proofs.Ytfnnhjnhccbglaa.setL
  split
  · rename_i k; exact h.set _ hc k.2
  · exact h

end Go.Proofs.Ytfnnhjnhccbglaa
