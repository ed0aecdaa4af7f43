/- Walks: images: what holds of one in memory; New, Box, At, Set. -/
import Derived.Test.YtfnnhjnhccbglaaRect2
import Derived.Test.YtfnnhjnhccbglaaCol2
import Derived.Test.YtfnnhjnhccbglaaPImg
namespace Go.Proofs.Ytfnnhjnhccbglaa
open Go.RowKit

def colV (L : List Int) : List Value := L.map (Value.int .u32)
theorem colV_length (L : List Int) : (colV L).length = L.length := by simp [colV]

/-- At p lies an image of W by H, whose colors are L, in block b. -/
structure Img (w : World) (p b : Nat) (W H : Nat) (L : List Int) : Prop where
  ex : ∃ cap junk, Blk w p #[.int .i64 W, .int .i64 H, .slice (some ⟨b, 0, none⟩) L.length cap] 143 ∧ Blk w b (colV L ++ junk).toArray 30 ∧ L.length ≤ cap ∧ cap ≤ 9223372036854775807 ∧ (colV L ++ junk).length = cap
  ne : p ≠ b
  m : IsM W H L

theorem Img.len {w : World} {p b W H : Nat} {L : List Int} (h : Img w p b W H L) : L.length = W * H := h.m.len
theorem Img.small {w : World} {p b W H : Nat} {L : List Int} (h : Img w p b W H L) : 1 ≤ L.length ∧ L.length ≤ 65536 := h.m.small
/-- What the walk reads of it. -/
theorem Img.cells {w : World} {p b W H : Nat} {L : List Int} (h : Img w p b W H L) : ∃ cap, L.length ≤ cap ∧ cap ≤ 9223372036854775807 ∧ w.cell? ⟨p, 0, none⟩ = some (.int .i64 W) ∧ w.cell? ⟨p, 1, none⟩ = some (.int .i64 H) ∧
    w.cell? ⟨p, 2, none⟩ = some (.slice (some ⟨b, 0, none⟩) L.length cap) := by
  obtain ⟨cap, junk, h1, h2, h3, h4, h5⟩ := h.ex
  exact ⟨cap, h3, h4, h1.cell 0, h1.cell 1, h1.cell 2⟩
theorem Img.px {w : World} {p b W H : Nat} {L : List Int} (h : Img w p b W H L) (k : Nat) (hk : k < L.length) : w.cell? ⟨b, k, none⟩ = some (.int .u32 (gd L k)) := by
  obtain ⟨cap, junk, h1, h2, h3, h4, h5⟩ := h.ex
  rw [h2.cell]
  rw [List.getElem?_toArray, List.getElem?_append_left (by rw [colV_length]; omega)]
  simp [colV, gd, List.getD, show k < L.length by omega]
theorem Img.free {w : World} {p b W H : Nat} {L : List Int} (h : Img w p b W H L) (k : Nat) : w.frozen? ⟨b, k, none⟩ = false := by
  obtain ⟨cap, junk, h1, h2, h3, h4, h5⟩ := h.ex
  exact h2.free k
theorem Img.ltp {w : World} {p b W H : Nat} {L : List Int} (h : Img w p b W H L) : p < w.heap.size := by
  obtain ⟨cap, junk, h1, _⟩ := h.ex; exact h1.lt
theorem Img.ltb {w : World} {p b W H : Nat} {L : List Int} (h : Img w p b W H L) : b < w.heap.size := by
  obtain ⟨cap, junk, _, h2, _⟩ := h.ex; exact h2.lt
/-- It lives on where its two blocks do. -/
theorem Img.of_blocks {w w' : World} {p b W H : Nat} {L : List Int} (h : Img w p b W H L) (hp : w'.heap[p]? = w.heap[p]?) (hb : w'.heap[b]? = w.heap[b]?) : Img w' p b W H L := by
  obtain ⟨cap, junk, g1, g2, g3⟩ := h.ex
  exact ⟨⟨cap, junk, hp.trans g1, hb.trans g2, g3⟩, h.ne, h.m⟩
theorem Img.below {w w' : World} {B p b W H : Nat} {L : List Int} (h : Img w p b W H L) (hB : Below B w w') (hp : p < B) (hb : b < B) : Img w' p b W H L :=
  h.of_blocks (hB.block p hp) (hB.block b hb)
theorem Img.set {w : World} {p b W H : Nat} {L : List Int} (h : Img w p b W H L) (k : Nat) (hk : k < L.length) (c : Int) (hc : Pl.isC c) (hm : Pl.mayc c = true) : Img (w.setCell ⟨b, k, none⟩ (.int .u32 c)) p b W H (L.set k c) := by
  obtain ⟨cap, junk, g1, g2, g3, g4, g5⟩ := h.ex
  refine ⟨⟨cap, junk, by rw [List.length_set]; exact g1.other h.ne _ _, ?_, by rw [List.length_set]; exact g3, g4, by simpa [colV] using g5⟩, h.ne, h.m.set k hc hm⟩
  have := g2.set k (.int .u32 c)
  rw [List.setIfInBounds_toArray, List.set_append_left _ _ (by rw [colV_length]; omega)] at this
  have e : (colV L).set k (.int .u32 c) = colV (L.set k c) := by simp [colV, List.map_set]
  rwa [e] at this

set_option maxHeartbeats 1000000 in
theorem image_Box {w : World} {p b W H : Nat} {L : List Int} (h : Img w p b W H L) :
    Calls Try.prog 81 #[.pointer (some ⟨p, 0, none⟩)] w fun e w' => e = .returned (.agg #[.int .i64 0, .int .i64 0, .int .i64 W, .int .i64 H]) ∧ Below w.heap.size w w' := by
  obtain ⟨cap, _, _, hc0, hc1, hc2⟩ := h.cells
  have hlt := h.ltp
  have hne : ¬ p = w.heap.size := by omega
  have hB := Blk.new w #[.int .i64 0, .int .i64 0, .int .i64 0, .int .i64 0] 32
  have hW : Below w.heap.size w (w.alloc (.cells #[.int .i64 0, .int .i64 0, .int .i64 0, .int .i64 0] 32)) := by go_grown
  have hk0 : (w.alloc (.cells #[.int .i64 0, .int .i64 0, .int .i64 0, .int .i64 0] 32)).cell? ⟨p, 0, none⟩ = some (.int .i64 W) := (hW.cell (p := ⟨p, 0, none⟩) hlt).trans hc0
  have hk1 : (w.alloc (.cells #[.int .i64 0, .int .i64 0, .int .i64 0, .int .i64 0] 32)).cell? ⟨p, 1, none⟩ = some (.int .i64 H) := (hW.cell (p := ⟨p, 1, none⟩) hlt).trans hc1
  clear h hc0 hc1 hc2
  go_enter Try.func81, Try.ntmps81
  go_wp2
  generalize w.alloc (.cells #[.int .i64 0, .int .i64 0, .int .i64 0, .int .i64 0] 32) = V at *
  have hb0 := hB.cell
  have hbf := hB.free
  go_region_held3 (fun w' => w'.cell? ⟨p, 0, none⟩ = some (.int .i64 W) ∧ w'.cell? ⟨p, 1, none⟩ = some (.int .i64 H)) (simp [*, cell?_setCell_ne]) (fail)
  all_goals
    go_wp2
    refine bodyPost_ret (by simp [results, Try.results81, go_sem, hb0]; try rfl) rfl ⟨rfl, by go_grown⟩

theorem ret_cb {a b : Int} {c d : Bool} (h : a = b) (k : c = d) : Ending.returned (.tuple #[.int .u32 a, .bool c]) = .returned (.tuple #[.int .u32 b, .bool d]) := by rw [h, k]

set_option maxHeartbeats 1000000 in
theorem image_At {w : World} {p b W H : Nat} {L : List Int} (h : Img w p b W H L) (x y : Int) :
    Calls Try.prog 50 #[.pointer (some ⟨p, 0, none⟩), .int .i64 x, .int .i64 y] w fun e w' =>
      e = .returned (.tuple #[.int .u32 (pxo W H L x y), .bool (decide (inBox W H x y))]) ∧ Below w.heap.size w w' := by
  by_cases hin : inBox W H x y
  · have hd : decide (Pl.R.has ⟨0, 0, W, H⟩ x y) = true := by rw [inBox_iff]; simpa using hin
    have Hv := Lib.hid hin
    obtain ⟨q1, q2, q3, q4⟩ := at_lt hin h.len
    go_enter Try.func50, Try.ntmps50
    go_wp2_with fail
    refine (image_Box h).mono ?_
    rintro e w1 ⟨rfl, hb1⟩
    have h1 := h.below hb1 h.ltp h.ltb
    go_wp2_with fail
    refine (rect_Has _ _ _ _ _ _ _).mono ?_
    rintro e w2 ⟨rfl, hb2⟩
    have h2 := h1.below hb2 h1.ltp h1.ltb
    rw [hd]
    go_wp2_with fail
    obtain ⟨cap, hk1, hk2, hc0, hc1, hc2⟩ := h2.cells
    have hs := h2.small
    have hpx : w2.cell? ⟨b, (y * W + x).toNat, none⟩ = some (.int .u32 (px W L x y)) := h2.px _ (by omega)
    have e1 : IntKind.i64.wrap (y * W) = y * W := IntWalk.i64_in _ (by omega)
    have e2 : IntKind.i64.wrap (y * W + x) = y * W + x := IntWalk.i64_in _ (by omega)
    have hW : Below w.heap.size w w2 := below_of hb1 hb2
    clear hb1 hb2 h1 h2 h hin hd
    go_region_held3 (fun w' => (w'.cell? ⟨p, 0, none⟩ = some (.int .i64 W) ∧ w'.cell? ⟨p, 2, none⟩ = some (.slice (some ⟨b, 0, none⟩) L.length cap)) ∧ w'.cell? ⟨b, (y * W + x).toNat, none⟩ = some (.int .u32 (px W L x y))) (simp [*]) (fail)
    all_goals
      go_wp2
      go_ret2
      exact ⟨ret_cb (pxo_in Hv.out).symm (by simp [Hv.out]), by go_grown⟩
  · have hd : decide (Pl.R.has ⟨0, 0, W, H⟩ x y) = false := by rw [inBox_iff]; simpa using hin
    have Hv := Lib.hid hin
    clear hin
    go_enter Try.func50, Try.ntmps50
    go_wp2_with fail
    refine (image_Box h).mono ?_
    rintro e w1 ⟨rfl, hb1⟩
    go_wp2_with fail
    refine (rect_Has _ _ _ _ _ _ _).mono ?_
    rintro e w2 ⟨rfl, hb2⟩
    rw [hd]
    go_wp2_with fail
    go_ret2
    exact ⟨ret_cb (pxo_out Hv.out).symm (by simp [Hv.out]), below_of hb1 hb2⟩

end Go.Proofs.Ytfnnhjnhccbglaa
