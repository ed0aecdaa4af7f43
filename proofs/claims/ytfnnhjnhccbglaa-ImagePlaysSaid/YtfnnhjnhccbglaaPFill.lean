/- Plain law: colors that are set at some places; how many points a rectangle has in an image. No program here. -/
import Derived.Test.YtfnnhjnhccbglaaPImg
namespace Go.Proofs.Ytfnnhjnhccbglaa

theorem gd_lt {L : List Int} {i : Nat} (h : i < L.length) : gd L i = L[i] := by simp [gd, List.getD, h]
theorem gd_ext {L M : List Int} (hl : L.length = M.length) (h : ∀ i, i < L.length → gd L i = gd M i) : L = M := by
  apply List.ext_getElem hl
  intro i h1 h2
  rw [← gd_lt h1, ← gd_lt h2]
  exact h i h1
theorem gd_mem' {L : List Int} {k : Nat} (h : k < L.length) : gd L k ∈ L := by rw [gd_lt h]; exact List.getElem_mem h
theorem gd_set {L : List Int} {j : Nat} (c : Int) (hj : j < L.length) (i : Nat) (hi : i < L.length) : gd (L.set j c) i = if i = j then c else gd L i := by
  rw [gd_lt (by simpa using hi), List.getElem_set, gd_lt hi]
  by_cases h : j = i
  · rw [if_pos h, if_pos h.symm]
  · rw [if_neg h, if_neg (fun k => h k.symm)]

/-- L, but f i at the places i of P. -/
def putL (L : List Int) (P : Nat → Bool) (f : Nat → Int) : List Int := (List.range L.length).map (fun i => if P i = true then f i else gd L i)
theorem putL_length (L : List Int) (P : Nat → Bool) (f : Nat → Int) : (putL L P f).length = L.length := by simp [putL]
theorem gd_putL {L : List Int} {P : Nat → Bool} {f : Nat → Int} {i : Nat} (h : i < L.length) : gd (putL L P f) i = if P i = true then f i else gd L i := by
  rw [gd_lt (by rw [putL_length]; exact h)]
  simp [putL]
theorem putL_congr {L : List Int} {P Q : Nat → Bool} {f g : Nat → Int} (h : ∀ i, i < L.length → P i = Q i) (hf : ∀ i, i < L.length → P i = true → f i = g i) : putL L P f = putL L Q g := by
  refine gd_ext (by rw [putL_length, putL_length]) fun i hi => ?_
  rw [putL_length] at hi
  rw [gd_putL hi, gd_putL hi, h i hi]
  split
  · rename_i k; exact hf i hi (by rw [h i hi]; exact k)
  · rfl
theorem putL_false {L : List Int} {P : Nat → Bool} {f : Nat → Int} (h : ∀ i, i < L.length → P i = false) : putL L P f = L := by
  refine gd_ext (putL_length _ _ _) fun i hi => ?_
  rw [putL_length] at hi
  rw [gd_putL hi, h i hi]; simp
theorem putL_set {L : List Int} {P Q : Nat → Bool} {f : Nat → Int} {j : Nat} (hj : j < L.length) (h : ∀ i, i < L.length → (Q i = true ↔ P i = true ∨ i = j)) : (putL L P f).set j (f j) = putL L Q f := by
  refine gd_ext (by rw [List.length_set, putL_length, putL_length]) fun i hi => ?_
  rw [List.length_set, putL_length] at hi
  rw [gd_set _ (by rw [putL_length]; exact hj) i (by rw [putL_length]; exact hi), gd_putL hi, gd_putL hi]
  have hq := h i hi
  by_cases e : i = j
  · subst e; rw [if_pos rfl, if_pos (hq.2 (.inr rfl))]
  · rw [if_neg e]
    by_cases hp : P i = true
    · rw [if_pos hp, if_pos (hq.2 (.inl hp))]
    · rw [if_neg hp, if_neg (fun k => (hq.1 k).elim hp e)]
theorem IsM.putL {W H : Nat} {L : List Int} (h : IsM W H L) {P : Nat → Bool} {f : Nat → Int} (hf : ∀ i, i < L.length → P i = true → Pl.isC (f i) ∧ Pl.mayc (f i) = true) : IsM W H (putL L P f) := by
  refine ⟨by rw [putL_length]; exact h.len, h.w1, h.w2, h.h1, h.h2, fun c hc => ?_⟩
  obtain ⟨i, hi, rfl⟩ := List.mem_map.1 hc
  have hi := List.mem_range.1 hi
  split
  · rename_i k; exact hf i hi k
  · exact h.col _ (gd_mem' hi)

/-- Is the place i of an image W wide in the rectangle? -/
def selR (W : Nat) (r : Pl.R) (i : Nat) : Bool := decide (r.has ((i % W : Nat) : Int) ((i / W : Nat) : Int))
theorem selR_iff (W : Nat) (r : Pl.R) (i : Nat) : selR W r i = true ↔ r.x0 ≤ ((i % W : Nat) : Int) ∧ ((i % W : Nat) : Int) < r.x1 ∧ r.y0 ≤ ((i / W : Nat) : Int) ∧ ((i / W : Nat) : Int) < r.y1 := by
  unfold selR; rw [decide_eq_true_iff]; exact Iff.rfl
theorem selR_cut {W H n i : Nat} (r : Pl.R) (hn : n = W * H) (hi : i < n) (hw : 1 ≤ W) : selR W (Pl.cutR r ⟨0, 0, W, H⟩) i = selR W r i := by
  have hb := inBox_place hn hi hw
  unfold selR
  rw [decide_eq_decide, Pl.cutR_has]
  refine ⟨fun h => h.1, fun h => ⟨h, ?_⟩⟩
  unfold inBox at hb
  exact ⟨hb.1, hb.2.1, hb.2.2.1, hb.2.2.2⟩

/-- How many of the first k places are in P. -/
def cntTo (P : Nat → Bool) : Nat → Int
  | 0 => 0
  | k + 1 => cntTo P k + (if P k = true then 1 else 0)
theorem cntTo_congr {P Q : Nat → Bool} {k : Nat} (h : ∀ i, i < k → P i = Q i) : cntTo P k = cntTo Q k := by
  induction k with
  | zero => rfl
  | succ k ih => simp only [cntTo]; rw [ih (fun i hi => h i (by omega)), h k (by omega)]
theorem cntTo_bd (P : Nat → Bool) (k : Nat) : 0 ≤ cntTo P k ∧ cntTo P k ≤ k := by
  induction k with
  | zero => simp [cntTo]
  | succ k ih => simp only [cntTo]; split <;> omega
theorem cntTo_add (P : Nat → Bool) (a b : Nat) : cntTo P (a + b) = cntTo P a + cntTo (fun i => P (a + i)) b := by
  induction b with
  | zero => simp [cntTo]
  | succ b ih => rw [← Nat.add_assoc]; simp only [cntTo]; rw [ih]; omega
/-- Places from a up to b, of the first k. -/
theorem cntTo_range (a b : Nat) (k : Nat) : cntTo (fun i => decide (a ≤ i ∧ i < b)) k = max (min (k : Int) b - a) 0 := by
  induction k with
  | zero => simp only [cntTo]; omega
  | succ k ih =>
    simp only [cntTo]
    rw [ih]
    by_cases h : a ≤ k ∧ k < b
    · rw [if_pos (by simpa using h)]; omega
    · rw [if_neg (by simpa using h)]; omega
theorem row_dm {W y x : Nat} (hx : x < W) : (y * W + x) % W = x ∧ (y * W + x) / W = y := by
  have hw : 0 < W := by omega
  constructor
  · rw [Nat.add_comm, Nat.add_mul_mod_self_right]; exact Nat.mod_eq_of_lt hx
  · rw [Nat.add_comm, Nat.add_mul_div_right _ _ hw, Nat.div_eq_of_lt hx, Nat.zero_add]

theorem dm_iff' {W y x i : Nat} (hx : x < W) : (i / W = y ∧ i % W = x) ↔ i = y * W + x := by
  constructor
  · rintro ⟨rfl, rfl⟩
    rw [Nat.mul_comm]; exact (Nat.div_add_mod i W).symm
  · rintro rfl
    exact ⟨(row_dm hx).2, (row_dm hx).1⟩

/-- A rectangle within a width: how many of its points lie in the first y rows. -/
theorem cntTo_rect {W X0 X1 Y0 Y1 : Nat} (h0 : X0 ≤ X1) (h1 : X1 ≤ W) (y : Nat) :
    cntTo (fun i => decide ((X0 ≤ i % W ∧ i % W < X1) ∧ Y0 ≤ i / W ∧ i / W < Y1)) (y * W) = (max (min (y : Int) Y1 - Y0) 0) * ((X1 : Int) - X0) := by
  induction y with
  | zero =>
    simp only [Nat.zero_mul, cntTo]
    rw [show max (min ((0 : Nat) : Int) Y1 - Y0) 0 = 0 by omega]; simp
  | succ y ih =>
    rw [Nat.add_mul, Nat.one_mul, cntTo_add, ih]
    by_cases h : Y0 ≤ y ∧ y < Y1
    · have e : cntTo (fun i => decide ((X0 ≤ (y * W + i) % W ∧ (y * W + i) % W < X1) ∧ Y0 ≤ (y * W + i) / W ∧ (y * W + i) / W < Y1)) W = cntTo (fun i => decide (X0 ≤ i ∧ i < X1)) W :=
        cntTo_congr fun i hi => by rw [(row_dm hi).1, (row_dm hi).2]; simp [h]
      rw [e, cntTo_range]
      rw [show max (min (W : Int) X1 - X0) 0 = (X1 : Int) - X0 by omega, show max (min ((y + 1 : Nat) : Int) Y1 - Y0) 0 = max (min (y : Int) Y1 - Y0) 0 + 1 by omega, Int.add_mul, Int.one_mul]
    · have e : cntTo (fun i => decide ((X0 ≤ (y * W + i) % W ∧ (y * W + i) % W < X1) ∧ Y0 ≤ (y * W + i) / W ∧ (y * W + i) / W < Y1)) W = cntTo (fun i => decide (0 ≤ i ∧ i < 0)) W :=
        cntTo_congr fun i hi => by rw [(row_dm hi).1, (row_dm hi).2]; simp; omega
      rw [e, cntTo_range]
      rw [show max (min (W : Int) ((0 : Nat) : Int) - ((0 : Nat) : Int)) 0 = 0 by omega, show max (min ((y + 1 : Nat) : Int) Y1 - Y0) 0 = max (min (y : Int) Y1 - Y0) 0 by omega, Int.add_zero]

/-- A rectangle cut by an image's box: whole numbers. -/
theorem cut_nat (r : Pl.R) (W H : Nat) : ∃ X0 Y0 X1 Y1 : Nat, Pl.cutR r ⟨0, 0, W, H⟩ = ⟨X0, Y0, X1, Y1⟩ ∧ X1 ≤ W ∧ Y1 ≤ H ∧ ((X0 < X1 ∧ Y0 < Y1) ∨ (X0 = 0 ∧ X1 = 0 ∧ Y0 = 0 ∧ Y1 = 0)) := by
  rcases Pl.cutR_cases r ⟨0, 0, W, H⟩ with h | ⟨h1, h2⟩
  · exact ⟨0, 0, 0, 0, h, Nat.zero_le _, Nat.zero_le _, .inr ⟨rfl, rfl, rfl, rfl⟩⟩
  · rw [h2] at h1 ⊢
    simp only [Pl.R.empty] at h1
    refine ⟨(max r.x0 0).toNat, (max r.y0 0).toNat, (min r.x1 W).toNat, (min r.y1 H).toNat, ?_, by omega, by omega, .inl ⟨by omega, by omega⟩⟩
    simp only [Pl.R.mk.injEq]
    omega

/-- HOW MANY POINTS OF AN IMAGE A RECTANGLE HAS: the area of what lies in the box. -/
theorem cnt_area {W H n : Nat} (r : Pl.R) (hn : n = W * H) (hw : 1 ≤ W) : cntTo (selR W r) n = Pl.areaR (Pl.cutR r ⟨0, 0, W, H⟩) := by
  rw [cntTo_congr (Q := selR W (Pl.cutR r ⟨0, 0, W, H⟩)) (fun i hi => (selR_cut r hn hi hw).symm)]
  obtain ⟨X0, Y0, X1, Y1, e, h1, h2, h3⟩ := cut_nat r W H
  rw [e, hn, Nat.mul_comm W H]
  rw [cntTo_congr (Q := fun i => decide ((X0 ≤ i % W ∧ i % W < X1) ∧ Y0 ≤ i / W ∧ i / W < Y1)) (fun i _ => by
    rw [Bool.eq_iff_iff, selR_iff, decide_eq_true_iff]
    simp only [Int.ofNat_le, Int.ofNat_lt]
    generalize i % W = a
    generalize i / W = b
    omega), cntTo_rect (by omega) h1]
  unfold Pl.areaR
  split
  · rename_i k
    simp only [Pl.R.empty] at k
    rw [show (X1 : Int) - X0 = 0 by omega]; simp
  · rename_i k
    simp only [Pl.R.empty] at k
    rw [show max (min (H : Int) Y1 - Y0) 0 = (Y1 : Int) - Y0 by omega, Int.mul_comm]

end Go.Proofs.Ytfnnhjnhccbglaa
