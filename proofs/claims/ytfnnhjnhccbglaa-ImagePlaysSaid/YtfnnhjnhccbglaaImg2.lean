/- Walks: images: Set, New. -/
import Derived.Test.YtfnnhjnhccbglaaImg
import Derived.Test.YtfnnhjnhccbglaaOwn
namespace Go.Proofs.Ytfnnhjnhccbglaa
open Go.RowKit

theorem Img.drew {w : World} {p b W H : Nat} {L : List Int} (h : Img w p b W H L) : Img w.drew p b W H L := h.of_blocks rfl rfl

set_option maxHeartbeats 1000000 in
theorem image_Set {w : World} {p b W H : Nat} {L : List Int} (h : Img w p b W H L) (x y c : Int) (hc : Pl.isC c) :
    Calls Try.prog 18 #[.pointer (some ⟨p, 0, none⟩), .int .i64 x, .int .i64 y, .int .u32 c] w fun e w' =>
      e = .returned (.int .i64 (setE W H x y c)) ∧ Img w' p b W H (setL W H L x y c) ∧ w.grownBy w' (some b) := by
  by_cases hin : inBox W H x y
  · have hd : decide (Pl.R.has ⟨0, 0, W, H⟩ x y) = true := by rw [inBox_iff]; simpa using hin
    obtain ⟨q1, q2, q3, q4⟩ := at_lt hin h.len
    by_cases hm : Pl.mayc c = true
    · have hE : setE W H x y c = 0 := by unfold setE; rw [if_pos hin, if_pos hm]
      have hL : setL W H L x y c = L.set (y * W + x).toNat c := by unfold setL; rw [if_pos ⟨hin, hm⟩]
      rw [hE, hL]
      clear hE hL hin
      go_enter Try.func18, Try.ntmps18
      go_wp2_with fail
      refine (image_Box h).mono ?_
      rintro e w1 ⟨rfl, hb1⟩
      have h1 := h.below hb1 h.ltp h.ltb
      go_wp2_with fail
      refine (rect_Has _ _ _ _ _ _ _).mono ?_
      rintro e w2 ⟨rfl, hb2⟩
      have h2 := h1.below hb2 h1.ltp h1.ltb
      have hW2 := below_of hb1 hb2
      rw [hd]
      clear hb1 hb2 h1 h
      go_wp2_with fail
      refine (color_May c hc _).mono ?_
      rintro e w3 ⟨rfl, hb3⟩
      have h3 := h2.below hb3 h2.ltp h2.ltb
      have hW3 := below_of hW2 hb3
      rw [hm]
      have hmc := hm
      clear hb3 hW2 h2 hd hm
      go_wp2_with fail
      obtain ⟨cap, hk1, hk2, hc0, hc1, hc2⟩ := h3.cells
      have hs := h3.small
      have hpx : w3.cell? ⟨b, (y * W + x).toNat, none⟩ = some (.int .u32 (px W L x y)) := h3.px _ (by omega)
      have hfz := h3.free
      have e1 : IntKind.i64.wrap (y * W) = y * W := IntWalk.i64_in _ (by omega)
      have e2 : IntKind.i64.wrap (y * W + x) = y * W + x := IntWalk.i64_in _ (by omega)
      have hne : ¬ p = b := h3.ne
      go_region_held3 (fun w' => (w'.cell? ⟨p, 0, none⟩ = some (.int .i64 W) ∧ w'.cell? ⟨p, 2, none⟩ = some (.slice (some ⟨b, 0, none⟩) L.length cap))) (simp [*, cell?_setCell_ne]) (fail)
      all_goals
        go_wp2
        go_ret
        exact ⟨rfl, (h3.set _ (by omega) c hc hmc).drew, (grown_of hW3 (some b)).trans ((grown_set _).trans (grown_drew _ _))⟩
    · have hE : setE W H x y c = 1 := by unfold setE; rw [if_pos hin, if_neg hm]
      have hL : setL W H L x y c = L := by unfold setL; rw [if_neg (fun k => hm k.2)]
      have hm : Pl.mayc c = false := by simpa using hm
      rw [hE, hL]
      clear hE hL hin
      go_enter Try.func18, Try.ntmps18
      go_wp2_with fail
      refine (image_Box h).mono ?_
      rintro e w1 ⟨rfl, hb1⟩
      have h1 := h.below hb1 h.ltp h.ltb
      go_wp2_with fail
      refine (rect_Has _ _ _ _ _ _ _).mono ?_
      rintro e w2 ⟨rfl, hb2⟩
      have h2 := h1.below hb2 h1.ltp h1.ltb
      have hW2 := below_of hb1 hb2
      rw [hd]
      clear hb1 hb2 h1 h
      go_wp2_with fail
      refine (color_May c hc _).mono ?_
      rintro e w3 ⟨rfl, hb3⟩
      have h3 := h2.below hb3 h2.ltp h2.ltb
      have hW3 := below_of hW2 hb3
      rw [hm]
      clear hb3 hW2 h2 hd hm
      go_wp2_with fail
      go_ret
      exact ⟨rfl, h3, grown_of hW3 _⟩
  · have hd : decide (Pl.R.has ⟨0, 0, W, H⟩ x y) = false := by rw [inBox_iff]; simpa using hin
    have hE : setE W H x y c = 4 := by unfold setE; rw [if_neg hin]
    have hL : setL W H L x y c = L := by unfold setL; rw [if_neg (fun k => hin k.1)]
    rw [hE, hL]
    clear hE hL hin
    go_enter Try.func18, Try.ntmps18
    go_wp2_with fail
    refine (image_Box h).mono ?_
    rintro e w1 ⟨rfl, hb1⟩
    have h1 := h.below hb1 h.ltp h.ltb
    go_wp2_with fail
    refine (rect_Has _ _ _ _ _ _ _).mono ?_
    rintro e w2 ⟨rfl, hb2⟩
    have h2 := h1.below hb2 h1.ltp h1.ltb
    have hW2 := below_of hb1 hb2
    rw [hd]
    clear hb1 hb2 h1 h
    go_wp2_with fail
    go_ret
    exact ⟨rfl, h2, grown_of hW2 _⟩

/-- A new image: its pointer, its block. -/
def NewImg (W H : Nat) (w : World) (e : Ending) (w' : World) : Prop :=
  ∃ p b, e = .returned (.tuple #[.pointer (some ⟨p, 0, none⟩), .int .i64 0]) ∧ Img w' p b W H (List.replicate (W * H) 0) ∧ w.heap.size ≤ p ∧ w.heap.size ≤ b ∧ Below w.heap.size w w'

theorem colInfo : (Try.prog.info? 30).map (fun i => (i.zero, i.size, i.bytes)) = some (some (.int .u32 0), 1, 4) := by kernel_rfl
theorem made_col (n : Nat) : madeCells #[.int .u32 0] n = (colV (List.replicate n 0) ++ []).toArray := by
  apply Array.ext
  · simp [madeCells, colV]
  · intro i h1 h2
    simp [madeCells, colV, Nat.mod_one]

set_option maxHeartbeats 1000000 in
theorem image_New (W H : Nat) (h1 : 1 ≤ W) (h2 : W ≤ 256) (h3 : 1 ≤ H) (h4 : H ≤ 256) (w : World) :
    Calls Try.prog 76 #[.int .i64 W, .int .i64 H] w (NewImg W H w) := by
  have hm1 : 1 ≤ W * H := Nat.mul_pos h1 h3
  have hm2 : W * H ≤ 65536 := Nat.le_trans (Nat.mul_le_mul h2 h4) (by decide)
  have e1 : ((W * H : Nat) : Int) = (W : Int) * H := by simp
  have b0 : (0 : Int) ≤ (W : Int) * H := by omega
  have b1 : (W : Int) * H ≤ 65536 := by omega
  have hmk : ∀ w : World, (Instr.makeSlice 22 (.int .i64 ((W : Int) * H)) (.int .i64 ((W : Int) * H))).run Try.prog w = .ok (.slice (some ⟨w.heap.size, 0, none⟩) (W * H) (W * H)) (w.alloc (.cells (colV (List.replicate (W * H) 0) ++ []).toArray 30)) := fun w => by
    rw [← e1, run_make_row' 22 30 (.int .u32 0) 4 Try.underlying22 colInfo rfl .i64 .i64 (W * H) (by omega) (by omega) w, made_col]
  clear e1
  generalize hn : W * H = n at *
  have Hn := Lib.hid hn
  clear hn
  generalize hL : (colV (List.replicate n 0) ++ []).toArray = C at *
  have HL := Lib.hid hL
  clear hL
  go_enter Try.func76, Try.ntmps76
  go_wp2
  go_ret2
  have hlen : (List.replicate (W * H) (0 : Int)).length = n := by rw [List.length_replicate, Hn.out]
  have hB := (Blk.new w C 30).alloc (.cells #[.int .i64 W, .int .i64 H, .slice (some ⟨w.heap.size, 0, none⟩) n n] 143)
  have hP := Blk.new (w.alloc (.cells C 30)) #[.int .i64 W, .int .i64 H, .slice (some ⟨w.heap.size, 0, none⟩) n n] 143
  simp only [World.size_alloc] at hP
  refine ⟨w.heap.size + 1, w.heap.size, rfl, ⟨⟨n, [], by rw [hlen]; exact hP, by rw [Hn.out, HL.out]; exact hB, by rw [hlen]; exact Nat.le_refl _, by omega, ?_⟩, by omega, IsM.zero h1 h2 h3 h4⟩, by omega, by omega, by go_grown⟩
  simp only [List.append_nil, colV_length]
  exact hlen

end Go.Proofs.Ytfnnhjnhccbglaa
