/- What came in: slices of colors, of bytes. -/
import Derived.Test.YtfnnhjnhccbglaaLift
import Derived.Test.YtfnnhjnhccbglaaGood04
import Derived.Test.YtfnnhjnhccbglaaWrite
namespace Go.Proofs.Ytfnnhjnhccbglaa
open Go.ChangeShapes Go.WideShapes Go.ChangeAt Go.RowKit Go.Deep

section
variable {H : Type} {enc : TypeId × Value → H} {w : World} {base : Nat} {spare : Nat → Bool} {held : Bool}
theorem argC_of {n : Nat} {cs : List Value} {y : DataW H × List MemPlace} (h : DataW.trod enc Try.prog w base spare held n 22 cs = some y) : ∃ a cap zs, cs = [.slice a zs.length cap] ∧ ArgC w (.slice a zs.length cap) zs := by
  obtain ⟨a, cap, zs, rfl, hl, hm, hw, hc⟩ := at_ints Try.underlying22 Try.underlying30 (by kernel_rfl) h
  unfold maxLen at hm
  exact ⟨a, cap, zs, rfl, ⟨a, cap, rfl, hc⟩, fun c hc => wf_u32 (hw c hc), by omega⟩
theorem argB_of {n : Nat} {cs : List Value} {y : DataW H × List MemPlace} (h : DataW.trod enc Try.prog w base spare held n 33 cs = some y) : ∃ a cap zs, cs = [.slice a zs.length cap] ∧ ArgB w (.slice a zs.length cap) zs := by
  obtain ⟨a, cap, zs, rfl, hl, hm, hw, hc⟩ := at_ints Try.underlying33 Try.underlying5 (by kernel_rfl) h
  exact ⟨a, cap, zs, rfl, ⟨a, cap, rfl, hl, hc⟩, fun c hc => wf_u8 (hw c hc)⟩
/-- A rectangle's four cells. -/
theorem rect_of {n o : Nat} {cs : List Value} {y : DataW H × List MemPlace} (h : DataW.trod enc Try.prog w base spare held n 32 ((cs.drop o).take 4) = some y) :
    ∃ a b c d, cs[o]? = some (.int .i64 a) ∧ cs[o + 1]? = some (.int .i64 b) ∧ cs[o + 2]? = some (.int .i64 c) ∧ cs[o + 3]? = some (.int .i64 d) ∧
      isI64 a ∧ isI64 b ∧ isI64 c ∧ isI64 d := by
  have U := Try.underlying32
  have UI := Try.underlying3
  obtain ⟨_, _, h0⟩ := at_field U h 0 rfl (s := 1) (o := 0) rfl rfl (by kernel_rfl)
  obtain ⟨_, _, h1⟩ := at_field U h 1 rfl (s := 1) (o := 1) rfl rfl (by kernel_rfl)
  obtain ⟨_, _, h2⟩ := at_field U h 2 rfl (s := 1) (o := 2) rfl rfl (by kernel_rfl)
  obtain ⟨_, _, h3⟩ := at_field U h 3 rfl (s := 1) (o := 3) rfl rfl (by kernel_rfl)
  obtain ⟨a, ea, wa⟩ := at_int UI h0
  obtain ⟨b, eb, wb⟩ := at_int UI h1
  obtain ⟨c, ec, wc⟩ := at_int UI h2
  obtain ⟨d, ed, wd⟩ := at_int UI h3
  rw [sub_at (by omega)] at ea eb ec ed
  exact ⟨a, b, c, d, ea, eb, ec, ed, wf_i64 wa, wf_i64 wb, wf_i64 wc, wf_i64 wd⟩
end

end Go.Proofs.Ytfnnhjnhccbglaa
