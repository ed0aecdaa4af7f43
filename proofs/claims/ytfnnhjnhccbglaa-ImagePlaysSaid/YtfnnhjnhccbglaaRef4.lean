/- Walks: the document's images: what holds of one in memory; New, Box, At. -/
import Derived.Test.YtfnnhjnhccbglaaImg2
namespace Go.Proofs.Ytfnnhjnhccbglaa
open Go.RowKit

/-- v holds the colors L of an image of W by H, in a row of its own. -/
structure RM (w : World) (v : Value) (W H : Nat) (L : List Int) : Prop where
  own : w.ownsRow 0 30 1 v L.length (colV L)
  m : IsM W H L

theorem colV_one (L : List Int) : ∀ u ∈ colV L, u.oneCell' = true := fun u hu => by obtain ⟨_, _, rfl⟩ := List.mem_map.1 hu; rfl
theorem own_getD {w : World} {base g n cap : Nat} {e : TypeId} {L : List Int} (h : w.ownsRow base e 1 (.slice (some ⟨g, 0, none⟩) n cap) n (colV L)) (hn : n = L.length) (k : Nat) (hk : k < L.length) :
    w.cell? ⟨g, k, none⟩ = some (.int .u32 (gd L k)) := by
  rw [h.cellAt k (by omega)]
  simp [colV, gd, List.getD, hk]

theorem RM.form {w : World} {v : Value} {W H : Nat} {L : List Int} (h : RM w v W H L) : ∃ g cap, v = .slice (some ⟨g, 0, none⟩) L.length cap ∧ g < w.heap.size ∧ L.length ≤ cap ∧ cap ≤ 9223372036854775807 ∧
    (∀ k, k < L.length → w.cell? ⟨g, k, none⟩ = some (.int .u32 (gd L k))) := by
  have hs := h.m.small
  rcases h.own.2 with ⟨_, h0⟩ | ⟨g, cap, cur, rfl, hb, hh, h1, h2, h3, h4⟩
  · omega
  · exact ⟨g, cap, rfl, (Array.getElem?_eq_some_iff.1 hh).1, h1, h2, fun k hk => own_getD h.own rfl k hk⟩
theorem RM.kept {w w' : World} {v : Value} {W H : Nat} {L : List Int} (h : RM w v W H L) {row : Option Nat} (hg : w.grownBy w' row) (hne : v.ownBlock ≠ row ∨ row = none) : RM w' v W H L := by
  refine ⟨h.own.kept hg ?_, h.m⟩
  rcases hne with hne | rfl
  · exact .inr hne
  · obtain ⟨g, cap, rfl, _⟩ := h.form; exact .inr (by simp [Value.ownBlock])
theorem RM.below {w w' : World} {v : Value} {W H : Nat} {L : List Int} (h : RM w v W H L) (hb : Below w.heap.size w w') : RM w' v W H L := h.kept (grown_of hb none) (.inr rfl)

set_option maxHeartbeats 1000000 in
theorem ref04_Box (W H : Nat) (v : Value) (w : World) :
    Calls Try.prog 36 #[.agg #[.int .i64 W, .int .i64 H, v]] w fun e w' => e = .returned (.agg #[.int .i64 0, .int .i64 0, .int .i64 W, .int .i64 H]) ∧ Below w.heap.size w w' := by
  go_enter Try.func36, Try.ntmps36
  go_wp2
  go_returns
  exact ⟨rfl, by go_grown⟩

set_option maxHeartbeats 1000000 in
theorem ref04_At {w : World} {v : Value} {W H : Nat} {L : List Int} (h : RM w v W H L) (x y : Int) :
    Calls Try.prog 77 #[.agg #[.int .i64 W, .int .i64 H, v], .int .i64 x, .int .i64 y] w fun e w' =>
      e = .returned (.tuple #[.int .u32 (pxo W H L x y), .bool (decide (inBox W H x y))]) ∧ Below w.heap.size w w' := by
  have hs := h.m.small
  have hl := h.m.len
  obtain ⟨g, cap, rfl, hg, k1, k2, hc⟩ := h.form
  by_cases hin : inBox W H x y
  · have hp := hc (y * W + x).toNat (by have := at_lt hin hl; omega)
    obtain ⟨q1, q2, q3, q4⟩ := at_lt hin hl
    have hv := pxo_in (L := L) hin
    have Hv := Lib.hid hv
    have Hin := Lib.hid hin
    unfold px at Hv
    unfold inBox at hin
    clear hv hc h hl
    obtain ⟨i1, i2, i3, i4⟩ := hin
    go_enter Try.func77, Try.ntmps77
    go_wp2
    go_ret2
    exact ⟨ret_cb Hv.out.symm (by simp [Hin.out]), by go_grown⟩
  · have hv := pxo_out (L := L) hin
    have Hv := Lib.hid hv
    have Hin := Lib.hid hin
    have hin' : ¬ (0 ≤ x ∧ x < W ∧ 0 ≤ y ∧ y < H) := hin
    clear hv hc h hl hin
    go_enter Try.func77, Try.ntmps77
    go_wp2
    all_goals
      go_ret2
      exact ⟨ret_cb Hv.out.symm (by simp [Hin.out]), by go_grown⟩

end Go.Proofs.Ytfnnhjnhccbglaa
