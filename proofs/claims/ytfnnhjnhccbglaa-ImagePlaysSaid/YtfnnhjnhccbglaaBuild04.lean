/- Walks: build: an image of the program out of the document's. -/
import Derived.Test.YtfnnhjnhccbglaaRef5
namespace Go.Proofs.Ytfnnhjnhccbglaa
open Go.RowKit

/-- A new image of these colors. -/
def NewImgOf (W H : Nat) (L : List Int) (w : World) (e : Ending) (w' : World) : Prop :=
  ∃ p b, e = .returned (.pointer (some ⟨p, 0, none⟩)) ∧ Img w' p b W H L ∧ w.heap.size ≤ p ∧ w.heap.size ≤ b ∧ Below w.heap.size w w'

/-- What has been set of an image when k colors are done. -/
def doneL (L : List Int) (k : Nat) : List Int := L.take k ++ List.replicate (L.length - k) 0
theorem doneL_zero (L : List Int) : doneL L 0 = List.replicate L.length 0 := by simp [doneL]
theorem doneL_all (L : List Int) : doneL L L.length = L := by simp [doneL]
theorem doneL_set (L : List Int) (k : Nat) (hk : k < L.length) : (doneL L k).set k (gd L k) = doneL L (k + 1) := by
  apply List.ext_getElem?
  intro i
  simp only [doneL, gd]
  by_cases h : i = k
  · subst h
    rw [List.getElem?_set_self (by simp; omega), List.getElem?_append_left (by simp; omega), List.getElem?_take_of_lt (by omega)]
    simp [List.getD, hk]
  · rw [List.getElem?_set_ne (by omega)]
    by_cases hi : i < k
    · rw [List.getElem?_append_left (by simp; omega), List.getElem?_append_left (by simp; omega), List.getElem?_take_of_lt hi, List.getElem?_take_of_lt (by omega)]
    · rw [List.getElem?_append_right (by simp; omega), List.getElem?_append_right (by simp; omega)]
      simp only [List.length_take, List.getElem?_replicate]
      congr 1
      rw [Nat.min_eq_left (by omega), Nat.min_eq_left (by omega)]
      simp only [eq_iff_iff]
      omega

set_option maxHeartbeats 2000000 in
theorem build04 {w : World} {v : Value} {W H : Nat} {L : List Int} (h : RM w v W H L) :
    Calls Try.prog 16 #[.agg #[.int .i64 W, .int .i64 H, v]] w (NewImgOf W H L w) := by
  have hB := Blk.new w #[.int .i64 W, .int .i64 H, v] 25
  have hW : Below w.heap.size w (w.alloc (.cells #[.int .i64 W, .int .i64 H, v] 25)) := by go_grown
  have h0 := h
  obtain ⟨g, cap, rfl, hg, k1, k2, hcells⟩ := h.form
  clear hcells
  go_enter Try.func16, Try.ntmps16
  go_wp2_with fail
  generalize hV : w.alloc (.cells #[.int .i64 W, .int .i64 H, .slice (some ⟨g, 0, none⟩) L.length cap] 25) = V at *
  clear hV
  refine (image_New W H h.m.w1 h.m.w2 h.m.h1 h.m.h2 V).mono ?_
  rintro e w1 ⟨p, b, rfl, hI, hp, hb, hb1⟩
  have hzV := hB.lt
  have hB := hB.below hb1 hB.lt
  have hW := below_of hW hb1
  have hI : Img w1 p b W H (doneL L 0) := by rw [doneL_zero, h0.m.len]; exact hI
  clear hb1
  have hs := h0.m.small
  have hcm := hB.cell
  go_wp2_with fail
  go_loopw [5] (fun i wr => ∃ k : Nat, k ≤ L.length ∧ i = .int .i64 k ∧ Img wr p b W H (doneL L k) ∧ Blk wr w.heap.size #[.int .i64 W, .int .i64 H, .slice (some ⟨g, 0, none⟩) L.length cap] 25 ∧ Below w.heap.size w wr) (fun i _ => L.length - (intOf i).toNat)
  case atStart => exact ⟨0, Nat.zero_le _, rfl, hI, hB, hW⟩
  case round =>
    clear hB hW hI hcm
    obtain ⟨k, hk, rfl, hI, hB, hW⟩ := hrel
    have hcm := hB.cell
    by_cases hlt : k < L.length
    · have hM := h0.below hW
      have hL := own_getD hM.own rfl k hlt
      have hcol := h0.m.col (gd L k) (by unfold gd; rw [List.getD_eq_getElem?_getD, List.getElem?_eq_getElem hlt]; exact List.getElem_mem hlt)
      have Hin := Lib.hid (inBox_place h0.m.len hlt h0.m.w1)
      have Hat := Lib.hid (place_at h0.m.len hlt h0.m.w1)
      have ht : (k : Int).tmod W = ((k % W : Nat) : Int) := by rw [Int.tmod_eq_emod_of_nonneg (by omega)]; rfl
      have hq : (k : Int).tdiv W = ((k / W : Nat) : Int) := by rw [Int.tdiv_eq_ediv_of_nonneg (by omega)]; rfl
      have hw0 : ¬ (W : Int) = 0 := by have := h0.m.w1; omega
      have hw00 : ¬ W = 0 := by have := h0.m.w1; omega
      have hw1 : ((W : Int) == 0) = false := by simpa using hw0
      have hne1 : ¬ w.heap.size = b := by omega
      have hne2 : ¬ g = b := by omega
      have hpl := place h0.m.len hlt h0.m.w1
      have hp1 := hpl.1
      have hp2 := hpl.2.1
      have hh := h0.m.h2
      clear hpl
      generalize hr : k % W = r at *
      generalize hd : k / W = d at *
      clear hr hd hM
      have hwd : IntKind.i64.wrap (d : Int) = d := IntWalk.i64_in _ (by omega)
      go_wp2_with fail
      go_region_held3 (fun w' => (∀ i, w'.cell? ⟨w.heap.size, i, none⟩ = (#[.int .i64 W, .int .i64 H, .slice (some ⟨g, 0, none⟩) L.length cap] : Array Value)[i]?) ∧ w'.cell? ⟨g, k, none⟩ = some (.int .u32 (gd L k))) ((first | (exact ⟨‹_›, ‹_›⟩) | (simp [*])))
        ((first | (go_at_call 18; refine (image_Set hI.drew _ _ _ hcol.1).mono ?_; rintro e wz ⟨rfl, hIz, hgz⟩; have hcz := ((hB.drew).kept hgz (by simpa using hne1)).cell; have hLz := cell_grown hgz (World.cell?_drew _ _ ▸ hL) (by simpa using hne2))))
      all_goals
        have hI2 : Img wz p b W H (doneL L (k + 1)) := by
          rw [setL, if_pos ⟨Hin.out, hcol.2⟩, Hat.out, doneL_set L k hlt] at hIz
          exact hIz
        have hg2 : wr.grownBy wz (some b) := (grown_drew _ _).trans hgz
        have hB2 := hB.kept hg2 (by simpa using hne1)
        have hW2 := grown_below hW hg2 hW.size (fun k e => by cases e; omega)
        clear hIz hgz hcz hLz
        go_wp2_with fail
        go_roundw
        case rel => exact ⟨k + 1, by omega, by go_num, hI2, hB2, hW2⟩
        case measure => simp [intOf]; omega
    · go_wp2
      go_ret
      have e : k = L.length := by omega
      subst e
      rw [doneL_all] at hI
      exact ⟨p, b, rfl, hI, by omega, by omega, hW⟩

end Go.Proofs.Ytfnnhjnhccbglaa
