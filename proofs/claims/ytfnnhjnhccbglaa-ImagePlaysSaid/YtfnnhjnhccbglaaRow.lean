/- Walks: images: a row's colors. -/
import Derived.Test.YtfnnhjnhccbglaaImg2
namespace Go.Proofs.Ytfnnhjnhccbglaa
open Go.RowKit

set_option maxHeartbeats 1000000 in
theorem image_row {w : World} {p b W H : Nat} {L : List Int} (h : Img w p b W H L) (y x0 x1 : Nat) (hy : y < H) (h01 : x0 < x1) (h1 : x1 ≤ W) :
    Calls Try.prog 85 #[.pointer (some ⟨p, 0, none⟩), .int .i64 y, .int .i64 x0, .int .i64 x1] w fun e w' =>
      (∃ c, e = .returned (.slice (some ⟨b, y * W + x0, none⟩) (x1 - x0) c)) ∧ w' = w.drew := by
  have hs := h.small
  have hq : y * W + x1 ≤ L.length := by
    rw [h.len]
    have := Nat.mul_le_mul_right W (show y + 1 ≤ H by omega)
    rw [Nat.add_mul, Nat.one_mul, Nat.mul_comm H W] at this
    omega
  obtain ⟨cap, k1, k2, hc0, hc1, hc2⟩ := h.cells
  have e0 : ((y * W : Nat) : Int) = (y : Int) * W := by simp
  have e1 : IntKind.i64.wrap ((y : Int) * W) = ((y * W : Nat) : Int) := by rw [← e0]; exact IntWalk.i64_in _ (by omega)
  generalize y * W = q at *
  have e2 : IntKind.i64.wrap ((q : Int) + x0) = ((q + x0 : Nat) : Int) := by rw [IntWalk.i64_in _ (by omega)]; simp
  have e3 : IntKind.i64.wrap ((q : Int) + x1) = ((q + x1 : Nat) : Int) := by rw [IntWalk.i64_in _ (by omega)]; simp
  have e4 : q + x1 - (q + x0) = x1 - x0 := by omega
  obtain ⟨lo, hlo⟩ : ∃ lo, q + x0 = lo := ⟨_, rfl⟩
  obtain ⟨hi, hhi⟩ : ∃ hi, q + x1 = hi := ⟨_, rfl⟩
  rw [hlo] at e2 e4 ⊢
  rw [hhi] at e3 e4 hq
  rw [← e4]
  have hlt : lo < hi := by omega
  have hle : (lo : Int) ≤ hi := by omega
  have hcap : (hi : Int) ≤ cap := by omega
  have hnc : ¬ cap = lo := by omega
  clear hlo hhi e0 e4 h
  go_enter Try.func85, Try.ntmps85
  go_wp2_with fail
  go_region_held3 (fun w' => w'.cell? ⟨p, 0, none⟩ = some (.int .i64 W) ∧ w'.cell? ⟨p, 2, none⟩ = some (.slice (some ⟨b, 0, none⟩) L.length cap)) ((first | (exact ⟨‹_›, ‹_›⟩) | (simp [*]))) (fail)
  all_goals
    go_wp2
    go_ret
    exact ⟨⟨_, rfl⟩, rfl⟩

end Go.Proofs.Ytfnnhjnhccbglaa
