/- Walks: images: Fill. -/
import Derived.Test.YtfnnhjnhccbglaaRow
import Derived.Test.YtfnnhjnhccbglaaPFill
namespace Go.Proofs.Ytfnnhjnhccbglaa
open Go.RowKit

/-- The colors behind a Fill; how many points. -/
def fillL (W : Nat) (L : List Int) (r : Pl.R) (c : Int) : List Int := if Pl.mayc c = true then putL L (selR W r) (fun _ => c) else L
def fillN (W : Nat) (L : List Int) (r : Pl.R) (c : Int) : Int := if Pl.mayc c = true then cntTo (selR W r) L.length else 0

theorem Img.putL {w : World} {p b W H : Nat} {L : List Int} {P Q : Nat → Bool} {f : Nat → Int} (h : Img w p b W H (putL L P f)) (j : Nat) (hj : j < L.length) (hc : Pl.isC (f j)) (hm : Pl.mayc (f j) = true)
    (hq : ∀ i, i < L.length → (Q i = true ↔ P i = true ∨ i = j)) : Img (w.setCell ⟨b, j, none⟩ (.int .u32 (f j))) p b W H (putL L Q f) := by
  have := h.set j (by rw [putL_length]; exact hj) (f j) hc hm
  rwa [putL_set hj hq] at this

/-- What is filled when the rows up to y are done, and x places of row y. -/
def fillP (W : Nat) (X0 Y0 X1 y x : Nat) (i : Nat) : Bool := decide ((X0 ≤ i % W ∧ i % W < X1 ∧ Y0 ≤ i / W ∧ i / W < y) ∨ (i / W = y ∧ X0 ≤ i % W ∧ i % W < X0 + x))

theorem dm_iff {W y x i : Nat} (hx : x < W) : (i / W = y ∧ i % W = x) ↔ i = y * W + x := by
  constructor
  · rintro ⟨rfl, rfl⟩
    rw [Nat.mul_comm]; exact (Nat.div_add_mod i W).symm
  · rintro rfl
    exact ⟨(row_dm hx).2, (row_dm hx).1⟩
theorem fillP_step {W X0 Y0 X1 y j : Nat} (hj : X0 + j < X1) (hX : X1 ≤ W) (i : Nat) : fillP W X0 Y0 X1 y (j + 1) i = true ↔ fillP W X0 Y0 X1 y j i = true ∨ i = y * W + X0 + j := by
  have h := dm_iff (W := W) (y := y) (x := X0 + j) (i := i) (by omega)
  rw [← Nat.add_assoc] at h
  unfold fillP
  rw [decide_eq_true_iff, decide_eq_true_iff, ← h]
  generalize i % W = q
  generalize i / W = r
  omega
theorem fillP_row {W X0 Y0 X1 y m : Nat} (hm : X0 + m = X1) (hy : Y0 ≤ y) (i : Nat) : fillP W X0 Y0 X1 y m i = fillP W X0 Y0 X1 (y + 1) 0 i := by
  unfold fillP
  rw [decide_eq_decide]
  generalize i % W = q
  generalize i / W = r
  omega

set_option maxHeartbeats 4000000 in
theorem image_Fill {w : World} {p b W H : Nat} {L : List Int} (h : Img w p b W H L) (a b0 c d col : Int) (hc : Pl.isC col) :
    Calls Try.prog 20 #[.pointer (some ⟨p, 0, none⟩), .agg #[.int .i64 a, .int .i64 b0, .int .i64 c, .int .i64 d], .int .u32 col] w fun e w' =>
      e = .returned (.int .i64 (fillN W L ⟨a, b0, c, d⟩ col)) ∧ Img w' p b W H (fillL W L ⟨a, b0, c, d⟩ col) ∧ w.grownBy w' (some b) := by
  have hB := Blk.new w #[.int .i64 a, .int .i64 b0, .int .i64 c, .int .i64 d] 32
  have hW : Below w.heap.size w (w.alloc (.cells #[.int .i64 a, .int .i64 b0, .int .i64 c, .int .i64 d] 32)) := by go_grown
  have hp := h.ltp
  have hb := h.ltb
  by_cases hm : Pl.mayc col = true
  · obtain ⟨X0, Y0, X1, Y1, eC, hX, hY, hXY⟩ := cut_nat ⟨a, b0, c, d⟩ W H
    have hN : fillN W L ⟨a, b0, c, d⟩ col = Pl.areaR ⟨X0, Y0, X1, Y1⟩ := by unfold fillN; rw [if_pos hm, cnt_area _ h.len h.m.w1, eC]
    have hL : fillL W L ⟨a, b0, c, d⟩ col = putL L (fillP W X0 Y0 X1 Y1 0) (fun _ => col) := by
      unfold fillL
      rw [if_pos hm]
      refine putL_congr (fun i hi => ?_) (fun _ _ _ => rfl)
      rw [← selR_cut _ h.len hi h.m.w1, eC, Bool.eq_iff_iff, selR_iff, fillP, decide_eq_true_iff]
      simp only [Int.ofNat_le, Int.ofNat_lt]
      generalize i % W = q
      generalize i / W = r
      omega
    rw [hN, hL]
    have EC := Lib.hid eC
    clear hN hL eC
    go_enter Try.func20, Try.ntmps20
    go_wp2_with fail
    generalize hV : w.alloc (.cells #[.int .i64 a, .int .i64 b0, .int .i64 c, .int .i64 d] 32) = V at *
    clear hV
    refine (color_May col hc _).mono ?_
    rintro e w1 ⟨rfl, hb1⟩
    rw [hm]
    have hB := hB.below hb1 hB.lt
    have hW := below_of hW hb1
    clear hb1
    have hI := h.below hW hp hb
    have hcm := hB.cell
    have hfm := hB.free
    have hlm := hB.lt
    go_wp2_with fail
    go_region_with ((first
      | (go_at_call 81; refine (image_Box hI.drew).mono ?_; rintro e wz ⟨rfl, hbz⟩; have hBz := (hB.drew).below hbz hlm; have hcz := hBz.cell)
      | (go_at_call 84; refine (rect_Cut _ _ _ _ _ _ _ _ _).mono ?_; rintro e wy ⟨rfl, hby⟩; have hBy := hBz.below hby hBz.lt; have hcy := hBy.cell; have hfy := hBy.free)))
    all_goals
      rw [EC.out]
      obtain ⟨hR4, hg4⟩ := set4 hBy (.int .i64 X0) (.int .i64 Y0) (.int .i64 X1) (.int .i64 Y1)
      have hWy : Below w.heap.size w wy := below_of (below_of hW.drew hbz) hby
      have hI4 := (h.below hWy hp hb).of_blocks (hg4.block p (by have := hWy.size; omega) (by simp; omega)) (hg4.block b (by have := hWy.size; omega) (by simp; omega))
      have hW4 := grown_below hWy hg4 hWy.size (fun k e => by cases e; exact Nat.le_refl _)
      have hz4 := hR4.lt
      generalize (((wy.setCell ⟨w.heap.size, 0, none⟩ (.int .i64 X0)).setCell ⟨w.heap.size, 1, none⟩ (.int .i64 Y0)).setCell ⟨w.heap.size, 2, none⟩ (.int .i64 X1)).setCell ⟨w.heap.size, 3, none⟩ (.int .i64 Y1) = V4 at *
      clear hg4 hWy hby hBy hcy hfy hbz hBz hcz hB hW hI hcm hfm hlm
      have hr4 := hR4.cell
      have hne : ¬ w.heap.size = b := by omega
      rw [show L = putL L (fillP W X0 Y0 X1 Y0 0) (fun _ => col) from (putL_false (fun i hi => by unfold fillP; rw [decide_eq_false_iff_not]; generalize i % W = q; generalize i / W = r; omega)).symm] at hI4
      have hG4 := grown_of hW4 (some b)
      have hs := h.small
      have hw2 := h.m.w2
      have hh2 := h.m.h2
      have hlen := h.len
      have Hlen := Lib.hid hlen
      clear hlen
      go_wp2_with fail
      clear hr4 hW4
      go_loopw [7] (fun y wr => ∃ yy : Nat, Y0 ≤ yy ∧ yy ≤ Y1 ∧ y = .int .i64 yy ∧ Img wr p b W H (putL L (fillP W X0 Y0 X1 yy 0) (fun _ => col)) ∧ Blk wr w.heap.size #[.int .i64 X0, .int .i64 Y0, .int .i64 X1, .int .i64 Y1] 32 ∧ w.grownBy wr (some b)) (fun y _ => Y1 - (intOf y).toNat)
      case atStart => exact ⟨Y0, Nat.le_refl _, by omega, rfl, hI4, hR4, hG4⟩
      case round =>
        clear hI4 hR4 hG4
        obtain ⟨y, hy0, hy1, rfl, hI, hR, hG⟩ := hrel
        have hcm := hR.cell
        by_cases hlt : y < Y1
        · obtain ⟨wo, rfl⟩ : ∃ wo : World, wo = wr := ⟨_, rfl⟩
          have hx : X0 < X1 := by omega
          go_wp2_with fail
          refine (image_row hI y X0 X1 (by omega) hx hX).mono ?_
          rintro e wz ⟨⟨cc, rfl⟩, rfl⟩
          clear hcm
          go_wp2_with fail
          obtain ⟨m, hm0⟩ : ∃ m, X1 - X0 = m := ⟨_, rfl⟩
          rw [hm0]
          have hq : y * W + X1 ≤ L.length := by
            rw [Hlen.out]
            have := Nat.mul_le_mul_right W (show y + 1 ≤ H by omega)
            rw [Nat.add_mul, Nat.one_mul, Nat.mul_comm H W] at this
            omega
          obtain ⟨q, hq0⟩ : ∃ q, y * W + X0 = q := ⟨_, rfl⟩
          rw [hq0]
          have Hq := Lib.hid hq0
          have hql : q + m ≤ L.length := by omega
          have hmx : X0 + m = X1 := by omega
          clear hm0 hq hq0
          go_loopw [34] (fun i wr => ∃ j : Nat, j ≤ m ∧ i = .int .i64 j ∧ Img wr p b W H (putL L (fillP W X0 Y0 X1 y j) (fun _ => col)) ∧ Blk wr w.heap.size #[.int .i64 X0, .int .i64 Y0, .int .i64 X1, .int .i64 Y1] 32 ∧ w.grownBy wr (some b)) (fun i _ => m - (intOf i).toNat)
          case atStart => exact ⟨0, Nat.zero_le _, rfl, hI.drew, hR.drew, hG.trans (grown_drew _ _)⟩
          case round =>
            clear hI hR hG
            obtain ⟨j, hj, rfl, hI, hR, hG⟩ := hrel
            by_cases hjm : j < m
            · have hpx := hI.px (q + j) (by rw [putL_length]; omega)
              have hfz := hI.free (q + j)
              have hmb : m ≤ 65536 := by omega
              go_wp2_with fail
              have hI2 := hI.putL (Q := fillP W X0 Y0 X1 y (j + 1)) (q + j) (by omega) hc hm (fun i hi => by rw [fillP_step (by omega) hX i, Hq.out])
              have hR2 := hR.other hne (q + j) (.int .u32 col)
              have hG2 := hG.trans (grown_set (i := q + j) (.int .u32 col))
              go_roundw
              case rel => exact ⟨j + 1, by omega, by go_num, hI2, hR2, hG2⟩
              case measure => simp [intOf]; omega
            · obtain rfl : j = m := by omega
              have hI2 : Img wr p b W H (putL L (fillP W X0 Y0 X1 (y + 1) 0) (fun _ => col)) := by
                rw [← putL_congr (fun i _ => fillP_row hmx hy0 i) (fun _ _ _ => rfl)]; exact hI
              clear hI
              go_wp2_with fail
              go_roundw
              case rel => exact ⟨y + 1, by omega, by omega, by go_num, hI2, hR, hG⟩
              case measure => simp [intOf]; omega
        · obtain rfl : y = Y1 := by omega
          go_wp2_with fail
          refine (rect_Area _ _ _ _ (.inr ⟨by omega, by omega⟩) (by omega) _).mono ?_
          rintro e w5 ⟨rfl, hb5⟩
          go_wp2_with fail
          go_ret
          exact ⟨rfl, hI.below hb5 hI.ltp hI.ltb, hG.trans (grown_of hb5 _)⟩
  · have hN : fillN W L ⟨a, b0, c, d⟩ col = 0 := by unfold fillN; rw [if_neg hm]
    have hL : fillL W L ⟨a, b0, c, d⟩ col = L := by unfold fillL; rw [if_neg hm]
    rw [hN, hL]
    clear hN hL
    have hm : Pl.mayc col = false := by simpa using hm
    go_enter Try.func20, Try.ntmps20
    go_wp2_with fail
    generalize hV : w.alloc (.cells #[.int .i64 a, .int .i64 b0, .int .i64 c, .int .i64 d] 32) = V at *
    clear hV
    refine (color_May col hc _).mono ?_
    rintro e w1 ⟨rfl, hb1⟩
    rw [hm]
    have hW := below_of hW hb1
    go_wp2_with fail
    go_ret
    exact ⟨rfl, h.below hW hp hb, grown_of hW _⟩

end Go.Proofs.Ytfnnhjnhccbglaa
