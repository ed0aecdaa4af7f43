/- Plain law: colors as numbers: parts, make, over, fade. No program here. -/
namespace Go.Proofs.Ytfnnhjnhccbglaa
namespace Pl

/-- A part, cut to 0 .. 255. -/
def cl (n : Int) : Int := min (max n 0) 255
def cA (c : Int) : Int := c / 16777216
def cR (c : Int) : Int := c / 65536 % 256
def cG (c : Int) : Int := c / 256 % 256
def cB (c : Int) : Int := c % 256
def mkc (a r g b : Int) : Int := a * 16777216 + r * 65536 + g * 256 + b
/-- A part of a part. -/
def part (p q : Int) : Int := (cl p * cl q + 127) / 255
def mayc (c : Int) : Bool := decide (max (cR c) (max (cG c) (cB c)) ≤ cA c)
def over (c d : Int) : Int :=
  mkc (cl (cA c + part (cA d) (255 - cA c))) (cl (cR c + part (cR d) (255 - cA c))) (cl (cG c + part (cG d) (255 - cA c))) (cl (cB c + part (cB d) (255 - cA c)))
def fade (c al : Int) : Int := mkc (part (cA c) al) (part (cR c) al) (part (cG c) al) (part (cB c) al)
def goodc (c : Int) : Int := mkc (cA c) (min (cR c) (cA c)) (min (cG c) (cA c)) (min (cB c) (cA c))
/-- A color's bounds. -/
def isC (c : Int) : Prop := 0 ≤ c ∧ c < 4294967296

theorem cl_bd (n : Int) : 0 ≤ cl n ∧ cl n ≤ 255 := by unfold cl; omega
theorem cl_of {n : Int} (h0 : 0 ≤ n) (h1 : n ≤ 255) : cl n = n := by unfold cl; omega
theorem cA_bd {c : Int} (h : isC c) : 0 ≤ cA c ∧ cA c ≤ 255 := by unfold isC at h; unfold cA; omega
theorem cR_bd (c : Int) : 0 ≤ cR c ∧ cR c ≤ 255 := by unfold cR; omega
theorem cG_bd (c : Int) : 0 ≤ cG c ∧ cG c ≤ 255 := by unfold cG; omega
theorem cB_bd (c : Int) : 0 ≤ cB c ∧ cB c ≤ 255 := by unfold cB; omega
theorem part_bd (p q : Int) : 0 ≤ part p q ∧ part p q ≤ 255 := by
  have hp := cl_bd p
  have hq := cl_bd q
  have h1 : 0 ≤ cl p * cl q := Int.mul_nonneg hp.1 hq.1
  have h2 : cl p * cl q ≤ 255 * 255 := Int.mul_le_mul hp.2 hq.2 hq.1 (by omega)
  unfold part; omega
theorem mkc_bd {a r g b : Int} (ha : 0 ≤ a ∧ a ≤ 255) (hr : 0 ≤ r ∧ r ≤ 255) (hg : 0 ≤ g ∧ g ≤ 255) (hb : 0 ≤ b ∧ b ≤ 255) : isC (mkc a r g b) := by
  unfold isC mkc; omega
theorem cA_mkc {a r g b : Int} (hr : 0 ≤ r ∧ r ≤ 255) (hg : 0 ≤ g ∧ g ≤ 255) (hb : 0 ≤ b ∧ b ≤ 255) : cA (mkc a r g b) = a := by
  unfold cA mkc; omega
theorem cR_mkc {a r g b : Int} (hr : 0 ≤ r ∧ r ≤ 255) (hg : 0 ≤ g ∧ g ≤ 255) (hb : 0 ≤ b ∧ b ≤ 255) : cR (mkc a r g b) = r := by
  unfold cR mkc; omega
theorem cG_mkc {a r g b : Int} (hg : 0 ≤ g ∧ g ≤ 255) (hb : 0 ≤ b ∧ b ≤ 255) : cG (mkc a r g b) = g := by
  unfold cG mkc; omega
theorem cB_mkc {a r g b : Int} (hb : 0 ≤ b ∧ b ≤ 255) : cB (mkc a r g b) = b := by
  unfold cB mkc; omega
theorem over_isC (c d : Int) : isC (over c d) := mkc_bd (cl_bd _) (cl_bd _) (cl_bd _) (cl_bd _)
theorem fade_isC (c al : Int) : isC (fade c al) := mkc_bd (part_bd _ _) (part_bd _ _) (part_bd _ _) (part_bd _ _)
theorem goodc_isC {c : Int} (h : isC c) : isC (goodc c) := by
  have := cA_bd h; have := cR_bd c; have := cG_bd c; have := cB_bd c
  exact mkc_bd (by omega) (by omega) (by omega) (by omega)
theorem mayc_iff (c : Int) : mayc c = true ↔ cR c ≤ cA c ∧ cG c ≤ cA c ∧ cB c ≤ cA c := by
  unfold mayc; rw [decide_eq_true_iff]; omega
theorem mayc_mkc {a r g b : Int} (hr : 0 ≤ r ∧ r ≤ 255) (hg : 0 ≤ g ∧ g ≤ 255) (hb : 0 ≤ b ∧ b ≤ 255) : mayc (mkc a r g b) = true ↔ r ≤ a ∧ g ≤ a ∧ b ≤ a := by
  rw [mayc_iff, cA_mkc hr hg hb, cR_mkc hr hg hb, cG_mkc hg hb, cB_mkc hb]
theorem goodc_may {c : Int} (h : isC c) : mayc (goodc c) = true := by
  have := cA_bd h; have := cR_bd c; have := cG_bd c; have := cB_bd c
  unfold goodc
  rw [mayc_mkc (by omega) (by omega) (by omega)]
  omega
/-- A part is monotone in its first number. -/
theorem part_mono {p q r : Int} (h : p ≤ q) : part p r ≤ part q r := by
  have h1 : cl p ≤ cl q := by unfold cl; omega
  have h2 : cl p * cl r ≤ cl q * cl r := Int.mul_le_mul_of_nonneg_right h1 (cl_bd r).1
  unfold part
  omega
theorem over_may {c d : Int} (hc : mayc c = true) (hd : mayc d = true) : mayc (over c d) = true := by
  rw [mayc_iff] at hc hd
  unfold over
  rw [mayc_mkc (cl_bd _) (cl_bd _) (cl_bd _)]
  have h1 := part_mono (r := 255 - cA c) hd.1
  have h2 := part_mono (r := 255 - cA c) hd.2.1
  have h3 := part_mono (r := 255 - cA c) hd.2.2
  unfold cl
  omega
theorem fade_may {c al : Int} (hc : mayc c = true) : mayc (fade c al) = true := by
  rw [mayc_iff] at hc
  unfold fade
  rw [mayc_mkc (part_bd _ _) (part_bd _ _) (part_bd _ _)]
  exact ⟨part_mono hc.1, part_mono hc.2.1, part_mono hc.2.2⟩
/-- A color of its own parts. -/
theorem mkc_parts {c : Int} (h : isC c) : mkc (cA c) (cR c) (cG c) (cB c) = c := by
  unfold isC at h; unfold mkc cA cR cG cB; omega
theorem goodc_of_may {c : Int} (h : isC c) (hm : mayc c = true) : goodc c = c := by
  rw [mayc_iff] at hm
  unfold goodc
  rw [show min (cR c) (cA c) = cR c by omega, show min (cG c) (cA c) = cG c by omega, show min (cB c) (cA c) = cB c by omega]
  exact mkc_parts h
/-- A solid color over another one is that color. -/
theorem over_solid {c d : Int} (h : isC c) (hs : cA c = 255) : over c d = c := by
  have := cR_bd c; have := cG_bd c; have := cB_bd c
  unfold over
  have hp : ∀ n, part n (255 - cA c) = 0 := by
    intro n; unfold part; rw [hs]; have : cl (255 - 255) = 0 := by decide
    rw [this]; simp
  simp only [hp, Int.add_zero]
  rw [cl_of (n := cA c) (by omega) (by omega), cl_of (n := cR c) (by omega) (by omega), cl_of (n := cG c) (by omega) (by omega), cl_of (n := cB c) (by omega) (by omega)]
  exact mkc_parts h
theorem part_255 {p : Int} (h0 : 0 ≤ p) (h1 : p ≤ 255) : part p 255 = p := by
  unfold part; rw [cl_of h0 h1, cl_of (n := 255) (by omega) (by omega)]; omega
theorem fade_255 {c : Int} (h : isC c) : fade c 255 = c := by
  have := cA_bd h; have := cR_bd c; have := cG_bd c; have := cB_bd c
  unfold fade
  rw [part_255 (by omega) (by omega), part_255 (by omega) (by omega), part_255 (by omega) (by omega), part_255 (by omega) (by omega)]
  exact mkc_parts h

end Pl
end Go.Proofs.Ytfnnhjnhccbglaa
