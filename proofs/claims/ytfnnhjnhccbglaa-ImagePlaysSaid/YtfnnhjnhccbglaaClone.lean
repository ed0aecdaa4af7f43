/- Walks: images: Clone. -/
import Derived.Test.YtfnnhjnhccbglaaFill
import Derived.Test.YtfnnhjnhccbglaaRef4
import Derived.Lib.SliceRun
namespace Go.Proofs.Ytfnnhjnhccbglaa
open Go.RowKit

/-- Colors are handed back in memory of their own. -/
def RetC (L : List Int) (w : World) (e : Ending) (w' : World) : Prop :=
  ∃ v, e = .returned v ∧ w'.ownsRow 0 30 1 v L.length (colV L) ∧ Lies w (.slice none 0 0) v ∧ Below w.heap.size w w'

theorem add_plain (g o j : Nat) : (⟨g, o, none⟩ : Addr).add j = ⟨g, o + j, none⟩ := by unfold Addr.add; split <;> simp_all

set_option maxHeartbeats 1000000 in
theorem clone_col {w : World} {b o c : Nat} (L : List Int) (hn : 1 ≤ L.length) (hb : L.length ≤ 65536) (hbl : b < w.heap.size) (hc : ∀ k, k < L.length → w.cell? ⟨b, o + k, none⟩ = some (.int .u32 (gd L k))) :
    Calls Try.prog 127 #[.slice (some ⟨b, o, none⟩) L.length c] w (RetC L w) := by
  have hB := Blk.new w #[] 30
  have hE : (w.alloc (.cells #[] 30)).ownsRow 0 30 1 (.slice (some ⟨w.heap.size, 0, none⟩) 0 0) 0 [] := ⟨rfl, .inr ⟨_, _, #[], rfl, Nat.zero_le _, hB, Nat.le_refl _, Nat.zero_le _, rfl, rfl⟩⟩
  have hnews : ∀ j u, (colV L)[j]? = some u → (w.alloc (.cells #[] 30)).cell? ((⟨b, o, none⟩ : Addr).add j) = some u := fun j u hu => by
    have hj : j < L.length := by have := (List.getElem?_eq_some_iff.1 hu).1; rwa [colV_length] at this
    rw [add_plain]
    refine ((((Below.refl _ w).alloc (Nat.le_refl _) _).cell (p := ⟨b, o + j, none⟩) hbl).trans (hc j hj)).trans ?_
    rw [← hu]; simp [colV, gd, List.getD, hj]
  have Hnews := Lib.hid hnews
  have hnil := fun (w : World) (a : Option Addr) (n c : Nat) => Lib.run_eql_slice_nil (P := Try.prog) w 22 30 a n c 0 0 Try.underlying22
  clear hnews hc
  go_enter Try.func127, Try.ntmps127
  go_wp2_with (at_builtin; go_loud (refine wpList_app rfl _ _ 22 30 rfl (.int .u32 0) 1 4 Try.underlying22 colInfo rfl (by decide) (.slice (some ⟨w.heap.size, 0, none⟩) 0 0) 0 [] rfl hE ⟨b, o, none⟩ L.length c (colV L) rfl (by simp [colV]) Hnews.out (colV_one L) (by omega) (by omega) ?_; intro v1 w2 hown hgr hlies))
  go_ret
  rw [Nat.zero_add, List.nil_append] at hown
  have hW : Below w.heap.size w (w.alloc (.cells #[] 30)) := by go_grown
  refine ⟨_, rfl, hown, ?_, grown_below hW hgr (by simp) (fun k e => by simp [Value.ownBlock] at e; omega)⟩
  rcases hlies with h | ⟨g, h, hle⟩
  · exact .inr ⟨w.heap.size, h, Nat.le_refl _⟩
  · exact .inr ⟨g, h, by simp at hle; omega⟩


/-- A row of the call's own, as an image has it. -/
theorem own_row {w : World} {g n cap : Nat} {L : List Int} (h : w.ownsRow 0 30 1 (.slice (some ⟨g, 0, none⟩) n cap) n (colV L)) :
    ∃ junk, Blk w g (colV L ++ junk).toArray 30 ∧ n ≤ cap ∧ cap ≤ 9223372036854775807 ∧ (colV L ++ junk).length = cap := by
  rcases h.2 with ⟨h', _⟩ | ⟨g', cap', cur, h', hb, hg, hnc, hcm, hcs, htake⟩
  · simp at h'
  · simp only [Value.slice.injEq, Option.some.injEq, Addr.mk.injEq, and_true, true_and] at h'
    obtain ⟨rfl, rfl⟩ := h'
    refine ⟨cur.toList.drop (n * 1), ?_, hnc, by simpa [maxLen] using hcm, ?_⟩
    · rw [← htake, List.take_append_drop]
      show w.heap[g]? = _
      rw [hg]
    · rw [← htake, List.take_append_drop]; simpa using hcs

/-- A new image, told by its pointer. -/
def RetImg (W H : Nat) (L : List Int) (w : World) (e : Ending) (w' : World) : Prop :=
  ∃ p b, e = .returned (.pointer (some ⟨p, 0, none⟩)) ∧ Img w' p b W H L ∧ w.heap.size ≤ p ∧ w.heap.size ≤ b ∧ Below w.heap.size w w'

set_option maxHeartbeats 1000000 in
theorem image_Clone {w : World} {p b W H : Nat} {L : List Int} (h : Img w p b W H L) :
    Calls Try.prog 88 #[.pointer (some ⟨p, 0, none⟩)] w (RetImg W H L w) := by
  obtain ⟨cap, k1, k2, hc0, hc1, hc2⟩ := h.cells
  have hs := h.small
  have hp := h.ltp
  have hb := h.ltb
  go_enter Try.func88, Try.ntmps88
  go_wp2_with fail
  go_region_held3 (fun w' => (w'.cell? ⟨p, 0, none⟩ = some (.int .i64 W) ∧ w'.cell? ⟨p, 1, none⟩ = some (.int .i64 H)) ∧ w'.cell? ⟨p, 2, none⟩ = some (.slice (some ⟨b, 0, none⟩) L.length cap)) ((first | (exact ⟨⟨‹_›, ‹_›⟩, ‹_›⟩) | (refine ⟨⟨?_, ?_⟩, ?_⟩ <;> (refine cell_alloc ?_ _ <;> assumption))))
    ((first | (go_at_call 127; refine (clone_col L hs.1 hs.2 (by exact hb) (fun k hk => by rw [Nat.zero_add]; exact h.px k hk)).mono ?_; rintro e wz ⟨v1, rfl, hO, hl, hbz⟩; obtain ⟨g1, c1, rfl, _, hg1⟩ := hO.form (by omega); have hz0 := (hbz.cell (p := ⟨p, 0, none⟩) hp).trans hc0; have hz1 := (hbz.cell (p := ⟨p, 1, none⟩) hp).trans hc1; have hz2 := (hbz.cell (p := ⟨p, 2, none⟩) hp).trans hc2)))
  all_goals
    go_wp2
    go_ret
    have hB := Blk.new wz #[.int .i64 W, .int .i64 H, .slice (some ⟨g1, 0, none⟩) L.length c1] 143
    obtain ⟨junk, g2, g3, g4, g5⟩ := own_row hO
    have hgn := hl.new rfl
    have hzz := hbz.size
    simp only [World.size_drew] at hgn hzz
    refine ⟨wz.heap.size, g1, rfl, ⟨⟨c1, junk, hB, g2.alloc _, g3, g4, g5⟩, by omega, h.m⟩, hzz, hgn, ?_⟩
    have hW : Below w.heap.size w wz := below_of (Below.refl _ _).drew hbz
    go_grown

end Go.Proofs.Ytfnnhjnhccbglaa
