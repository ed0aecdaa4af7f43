/- Walks: the document's example of layer 4. -/
import Derived.Test.YtfnnhjnhccbglaaFill
namespace Go.Proofs.Ytfnnhjnhccbglaa
open Go.RowKit

theorem lives_n : fillN 3 (List.replicate (3 * 3) 0) ⟨1, 1, 9, 9⟩ 4278190080 = 4 := by decide

set_option maxHeartbeats 1000000 in
theorem lives04 (w : World) : Calls Try.prog 26 #[] w fun e w' => e = .returned (.bool true) ∧ Below w.heap.size w w' := by
  have hN : Calls Try.prog 76 #[.int .i64 3, .int .i64 3] w (NewImg 3 3 w) := image_New 3 3 (by decide) (by decide) (by decide) (by decide) w
  go_enter Try.func26, Try.ntmps26
  go_wp2_with fail
  refine hN.mono ?_
  rintro e V ⟨p, b, rfl, hI, hp, hb, hW⟩
  go_wp2_with fail
  refine (image_Fill hI 1 1 9 9 4278190080 (by unfold Pl.isC; omega)).mono ?_
  rintro e V2 ⟨rfl, hI2, hg⟩
  rw [lives_n]
  go_wp2
  go_ret
  exact ⟨rfl, grown_below hW hg hW.size (fun k e => by cases e; exact hb)⟩

end Go.Proofs.Ytfnnhjnhccbglaa
