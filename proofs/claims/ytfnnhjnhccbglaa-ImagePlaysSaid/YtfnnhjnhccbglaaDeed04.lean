/- What came in: the things to be done of layer 4. -/
import Derived.Test.YtfnnhjnhccbglaaLift2
import Derived.Test.YtfnnhjnhccbglaaLaw04
namespace Go.Proofs.Ytfnnhjnhccbglaa
open Go.ChangeShapes Go.WideShapes Go.ChangeAt Go.RowKit Go.Deep

section
variable {H : Type} {enc : TypeId × Value → H} {w : World} {base : Nat} {spare : Nat → Bool} {held : Bool}
theorem argD_of {n : Nat} {cs : List Value} {y : DataW H × List MemPlace} (h : DataW.trod enc Try.prog w base spare held n 23 cs = some y) : ∃ a cap, ∃ ds : List Dd, cs = [.slice a ds.length cap] ∧ ArgD w (.slice a ds.length cap) ds := by
  obtain ⟨a, len, cap, rfl, hl, hm, hr⟩ := at_rows Try.underlying23 (C := 9) (by kernel_rfl) (by omega) h
  by_cases hp : 0 < len
  · obtain ⟨g, o, rfl, hg, hk⟩ := hr hp
    obtain ⟨ds, hz, hds⟩ := list_of_forall (p := fun k d => ∃ u, DdAt w g (o + k * 9) d u) len (fun k hk' => by
      obtain ⟨cs', m, y', hcl, ht, hat⟩ := hk k hk'
      have U := Try.underlying35
      have UI := Try.underlying3
      obtain ⟨_, _, h0⟩ := at_field U ht 0 rfl (s := 1) (o := 0) rfl rfl (by kernel_rfl)
      obtain ⟨_, _, h1⟩ := at_field U ht 1 rfl (s := 1) (o := 1) rfl rfl (by kernel_rfl)
      obtain ⟨_, _, h2⟩ := at_field U ht 2 rfl (s := 1) (o := 2) rfl rfl (by kernel_rfl)
      obtain ⟨_, _, h3⟩ := at_field U ht 3 rfl (s := 1) (o := 3) rfl rfl (by kernel_rfl)
      obtain ⟨_, _, h4⟩ := at_field U ht 4 rfl (s := 4) (o := 4) rfl rfl (by kernel_rfl)
      obtain ⟨_, _, h5⟩ := at_field U ht 5 rfl (s := 1) (o := 8) rfl rfl (by kernel_rfl)
      obtain ⟨a0, e0, w0⟩ := at_int UI h0
      obtain ⟨a1, e1, w1⟩ := at_int UI h1
      obtain ⟨a2, e2, w2⟩ := at_int UI h2
      obtain ⟨a3, e3, w3⟩ := at_int Try.underlying30 h3
      obtain ⟨r0, r1, r2, r3, f0, f1, f2, f3, _⟩ := rect_of h4
      obtain ⟨b, c, B, e8, hB⟩ := argB_of h5
      have e8 := take1 e8
      exact ⟨⟨a0, a1, a2, a3, r0, r1, r2, r3, B⟩, .slice b B.length c, (hat 0 (by omega)).trans e0, (hat 1 (by omega)).trans e1, (hat 2 (by omega)).trans e2, (hat 3 (by omega)).trans e3,
        (hat 4 (by omega)).trans f0, (hat 5 (by omega)).trans f1, (hat 6 (by omega)).trans f2, (hat 7 (by omega)).trans f3, (hat 8 (by omega)).trans e8, hB, wf_u32 w3⟩)
    subst hz
    exact ⟨_, cap, ds, rfl, ⟨_, cap, rfl, fun _ => ⟨g, o, rfl, hg, hds⟩⟩⟩
  · obtain rfl : len = 0 := by omega
    exact ⟨a, cap, [], rfl, ⟨a, cap, rfl, fun h => by simp at h⟩⟩
end

end Go.Proofs.Ytfnnhjnhccbglaa
