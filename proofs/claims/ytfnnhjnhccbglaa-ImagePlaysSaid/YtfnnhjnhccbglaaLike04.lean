/- Walks: like: an image is the document's. -/
import Derived.Test.YtfnnhjnhccbglaaBuild04
namespace Go.Proofs.Ytfnnhjnhccbglaa
open Go.RowKit
attribute [local go_sem high] eqRect

theorem pxo_place {W H n k : Nat} {L : List Int} (hn : n = W * H) (hk : k < n) (hw : 1 ≤ W) : pxo W H L ((k % W : Nat) : Int) ((k / W : Nat) : Int) = gd L k := by
  rw [pxo_in (inBox_place hn hk hw), px_place hn hk hw]

/-- At, at a place. -/
theorem image_At_place {w : World} {p b W H : Nat} {L : List Int} (h : Img w p b W H L) {k r d : Nat} (hk : k < L.length) (hr : k % W = r) (hd : k / W = d) :
    Calls Try.prog 50 #[.pointer (some ⟨p, 0, none⟩), .int .i64 r, .int .i64 d] w fun e w' =>
      e = .returned (.tuple #[.int .u32 (gd L k), .bool true]) ∧ Below w.heap.size w w' := by
  subst hr hd
  refine (image_At h _ _).mono ?_
  rintro e w' ⟨rfl, hb⟩
  have hi := inBox_place h.m.len hk h.m.w1
  exact ⟨ret_cb (pxo_place h.m.len hk h.m.w1) (by simpa using hi), hb⟩

set_option maxHeartbeats 2000000 in
theorem like04 {w : World} {p b W H : Nat} {L : List Int} {v : Value} (hI : Img w p b W H L) (h : RM w v W H L) :
    Calls Try.prog 25 #[.pointer (some ⟨p, 0, none⟩), .agg #[.int .i64 W, .int .i64 H, v]] w fun e w' => e = .returned (.bool true) ∧ Below w.heap.size w w' := by
  have hB := Blk.new w #[.int .i64 W, .int .i64 H, v] 25
  have hW : Below w.heap.size w (w.alloc (.cells #[.int .i64 W, .int .i64 H, v] 25)) := by go_grown
  have h0 := h
  obtain ⟨g, cap, rfl, hg, k1, k2, hcells⟩ := h.form
  clear hcells
  have hpl := hI.ltp
  have hbl := hI.ltb
  go_enter Try.func25, Try.ntmps25
  go_wp2_with fail
  generalize hV : w.alloc (.cells #[.int .i64 W, .int .i64 H, .slice (some ⟨g, 0, none⟩) L.length cap] 25) = V at *
  clear hV
  have hcm := hB.cell
  have hlm := hB.lt
  have hIV := hI.below hW hpl hbl
  go_region_held3 (fun w' => Below V.heap.size V w' ∧ (∀ b o, b < V.heap.size → w'.cell? ⟨b, o, none⟩ = V.cell? ⟨b, o, none⟩)) ((refine keepS ?_; first | assumption | go_grown))
      ((first | (go_at_call 81; refine (image_Box (hI.below (below_of hW (by first | assumption | go_grown)) hpl hbl)).mono ?_; rintro e wz ⟨rfl, hbz⟩; have hWz : Below V.heap.size V wz := below_of (by first | assumption | go_grown) hbz; clear hbz) | (go_at_call 36; refine (ref04_Box W H _ _).mono ?_; rintro e wz ⟨rfl, hbz⟩; have hWz : Below V.heap.size V wz := below_of (by first | assumption | go_grown) hbz; clear hbz)))
  all_goals go_wp2_with fail
  have hB := hB.below hWz hlm
  have hW := below_of hW hWz
  clear hcm hIV
  go_loopw [5] (fun i wr => ∃ k : Nat, k ≤ L.length ∧ i = .int .i64 k ∧ Blk wr w.heap.size #[.int .i64 W, .int .i64 H, .slice (some ⟨g, 0, none⟩) L.length cap] 25 ∧ Below w.heap.size w wr) (fun i _ => L.length - (intOf i).toNat)
  case atStart => exact ⟨0, Nat.zero_le _, rfl, hB, hW⟩
  case round =>
    clear hB hW hWz
    obtain ⟨k, hk, rfl, hB, hW⟩ := hrel
    have hcm := hB.cell
    have hs := h0.m.small
    by_cases hlt : k < L.length
    · have hM := h0.below hW
      have hL := own_getD hM.own rfl k hlt
      have hIr := hI.below hW hpl hbl
      have ht : (k : Int).tmod W = ((k % W : Nat) : Int) := by rw [Int.tmod_eq_emod_of_nonneg (by omega)]; rfl
      have hq : (k : Int).tdiv W = ((k / W : Nat) : Int) := by rw [Int.tdiv_eq_ediv_of_nonneg (by omega)]; rfl
      have hw0 : ¬ (W : Int) = 0 := by have := h0.m.w1; omega
      have hw00 : ¬ W = 0 := by have := h0.m.w1; omega
      have hw1 : ((W : Int) == 0) = false := by simpa using hw0
      have hpl := place h0.m.len hlt h0.m.w1
      have hp1 := hpl.1
      have hp2 := hpl.2.1
      have hh := h0.m.h2
      clear hpl
      have hlr := hB.lt
      have hgr : g < wr.heap.size := by have := hW.size; omega
      obtain ⟨r, hr⟩ : ∃ r, k % W = r := ⟨_, rfl⟩
      obtain ⟨d, hd⟩ : ∃ d, k / W = d := ⟨_, rfl⟩
      rw [hr] at ht hp1
      rw [hd] at hq hp2
      have Hr := Lib.hid hr
      have Hd := Lib.hid hd
      clear hr hd hM
      have hwd : IntKind.i64.wrap (d : Int) = d := IntWalk.i64_in _ (by omega)
      go_wp2_with fail
      go_region_held3 (fun w' => Below wr.heap.size wr w' ∧ (∀ b o, b < wr.heap.size → w'.cell? ⟨b, o, none⟩ = wr.cell? ⟨b, o, none⟩)) ((refine keepS ?_; first | assumption | go_grown))
      ((first | (go_at_call 50; refine (image_At_place hIr.drew hlt Hr.out Hd.out).mono ?_; rintro e wz ⟨rfl, hbz⟩; have hWz : Below wr.heap.size wr wz := below_of (by first | assumption | go_grown) hbz; clear hbz)))
      all_goals
        go_wp2_with fail
        go_roundw
        case rel => exact ⟨k + 1, by omega, by go_num, hB.below hWz hlr, below_of hW hWz⟩
        case measure => simp [intOf]; omega
    · go_wp2
      go_ret
      exact ⟨rfl, hW⟩

end Go.Proofs.Ytfnnhjnhccbglaa
