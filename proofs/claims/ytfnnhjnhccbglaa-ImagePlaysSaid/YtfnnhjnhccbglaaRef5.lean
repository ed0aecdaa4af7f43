/- Walks: the document's images: New, Put, Set. -/
import Derived.Test.YtfnnhjnhccbglaaRef4
namespace Go.Proofs.Ytfnnhjnhccbglaa
open Go.RowKit

/-- An image is handed back, in memory of its own or where it lay. -/
def RetM (W H : Nat) (L : List Int) (v0 : Value) (w : World) (e : Ending) (w' : World) : Prop :=
  ∃ v, e = .returned (.agg #[.int .i64 W, .int .i64 H, v]) ∧ RM w' v W H L ∧ Lies w v0 v ∧ Below w.heap.size w w'

set_option maxHeartbeats 1000000 in
theorem ref04_New (W H : Nat) (h1 : 1 ≤ W) (h2 : W ≤ 256) (h3 : 1 ≤ H) (h4 : H ≤ 256) (w : World) :
    Calls Try.prog 39 #[.int .i64 W, .int .i64 H] w (RetM W H (List.replicate (W * H) 0) (.slice none 0 0) w) := by
  have hm1 : 1 ≤ W * H := Nat.mul_pos h1 h3
  have hm2 : W * H ≤ 65536 := Nat.le_trans (Nat.mul_le_mul h2 h4) (by decide)
  have e1 : ((W * H : Nat) : Int) = (W : Int) * H := by simp
  have b0 : (0 : Int) ≤ (W : Int) * H := by omega
  have b1 : (W : Int) * H ≤ 65536 := by omega
  have hmk : ∀ w : World, (Instr.makeSlice 22 (.int .i64 ((W : Int) * H)) (.int .i64 ((W : Int) * H))).run Try.prog w = .ok (.slice (some ⟨w.heap.size, 0, none⟩) (W * H) (W * H)) (w.alloc (.cells (colV (List.replicate (W * H) 0) ++ []).toArray 30)) := fun w => by
    rw [← e1, run_make_row' 22 30 (.int .u32 0) 4 Try.underlying22 colInfo rfl .i64 .i64 (W * H) (by omega) (by omega) w, made_col]
  clear e1
  generalize hn : W * H = n at *
  have Hn := Lib.hid hn
  clear hn
  generalize hL : (colV (List.replicate n 0) ++ []).toArray = C at *
  have HL := Lib.hid hL
  clear hL
  go_enter Try.func39, Try.ntmps39
  go_wp2
  go_returns
  have hB := Blk.new (w.alloc (.cells #[.int .i64 W, .int .i64 H, .slice (some ⟨w.heap.size + 1, 0, none⟩) n n] 25)) C 30
  simp only [World.size_alloc] at hB
  have hC : C.size = n := by rw [← HL.out]; simp [colV]
  have hT : C.toList = colV (List.replicate n 0) := by rw [← HL.out]; simp
  refine ⟨_, rfl, ⟨?_, Hn.out ▸ IsM.zero h1 h2 h3 h4⟩, .inr ⟨w.heap.size + 1, rfl, by omega⟩, by go_grown⟩
  rw [List.length_replicate]
  refine ⟨by simp [colV], .inr ⟨_, _, C, rfl, Nat.zero_le _, hB, Nat.le_refl _, by simp only [maxLen]; omega, by rw [hC]; omega, ?_⟩⟩
  rw [hT, List.take_of_length_le (by simp [colV])]

set_option maxHeartbeats 1000000 in
theorem ref04_Put {w : World} {v : Value} {W H : Nat} {L : List Int} (h : RM w v W H L) (x y c : Int) (hin : inBox W H x y) (hc : Pl.isC c) (hm : Pl.mayc c = true) :
    Calls Try.prog 79 #[.agg #[.int .i64 W, .int .i64 H, v], .int .i64 x, .int .i64 y, .int .u32 c] w (RetM W H (L.set (y * W + x).toNat c) (.slice none 0 0) w) := by
  have hs := h.m.small
  obtain ⟨q1, q2, q3, q4⟩ := at_lt hin h.m.len
  have hd : decide (inBox W H x y) = true := by simpa using hin
  have h0 := h
  obtain ⟨g, cap, rfl, hg, k1, k2, hcells⟩ := h.form
  clear hcells
  go_enter Try.func79, Try.ntmps79
  go_wp2_with fail
  refine (ref04_At (h.below (by go_grown)) x y).mono ?_
  rintro e w1 ⟨rfl, hb1⟩
  rw [hd]
  have hz1 := hb1.size
  simp only [World.size_alloc] at hz1
  have hW1 : Below w.heap.size w w1 := below_of (by go_grown) hb1
  have hB := (((Blk.new w #[.int .i64 W, .int .i64 H, .slice (some ⟨g, 0, none⟩) L.length cap] 25).alloc (.cells #[.int .i64 0, .int .i64 0, .slice none 0 0] 25)).below hb1 (by simp only [World.size_alloc]; omega))
  have hl0 : w.heap.size < w1.heap.size := by omega
  have hl1 : w.heap.size + 1 < w1.heap.size := by omega
  have hR := Blk.new (w.alloc (.cells #[.int .i64 W, .int .i64 H, .slice (some ⟨g, 0, none⟩) L.length cap] 25)) #[.int .i64 0, .int .i64 0, .slice none 0 0] 25
  rw [World.size_alloc] at hR
  have hR := hR.below hb1 (by simp only [World.size_alloc]; omega)
  have hcm := hB.cell
  have hrm := hR.cell
  have hfm := hB.free
  have hfr := hR.free
  have h1 := h0.below hW1
  have hnews := h1.own.cells (g := g) rfl
  have Hnews := Lib.hid hnews
  clear hnews
  go_wp2_with (at_builtin; go_loud (refine wpList_app rfl _ _ 22 30 rfl (.int .u32 0) 1 4 Try.underlying22 colInfo rfl (by decide) (.slice none 0 0) 0 [] rfl (own_nil _ _ _ _) ⟨g, 0, none⟩ L.length cap (colV L) rfl (by simp [colV]) Hnews.out (colV_one L) (by omega) (by omega) ?_; intro v1 w2 hown hgr hlies; simp only [Nat.zero_add, List.nil_append] at hown; obtain ⟨g1, cap1, rfl, _, hg1⟩ := hown.form (by omega); have hp := own_getD hown rfl (y * W + x).toNat (by omega); have hfz := hown.frozenAt (y * W + x).toNat; have hB2 := hB.below (grown_none hgr) hl0; have hR2 := hR.below (grown_none hgr) hl1; clear hcm hrm hfm hfr; have hcm := hB2.cell; have hrm := hR2.cell; have hfm := hB2.free; have hfr := hR2.free; have hz2 := hgr.size; have hgn := hlies.new rfl; have hn0 : ¬ g1 = w.heap.size := (by omega); have hn1 : ¬ g1 = w.heap.size + 1 := (by omega); have hn2 : ¬ w.heap.size = g1 := (by omega); have hn3 : ¬ w.heap.size + 1 = g1 := (by omega)))
  have hst := (hown.stored (y * W + x).toNat (.int .u32 c)).1
  rw [show (colV L).set (y * W + x).toNat (.int .u32 c) = colV (L.set (y * W + x).toNat c) by simp [colV, List.map_set]] at hst
  have hM : RM (w2.setCell ⟨g1, (y * W + x).toNat, none⟩ (.int .u32 c)) (.slice (some ⟨g1, 0, none⟩) L.length cap1) W H (L.set (y * W + x).toNat c) := ⟨by rw [List.length_set]; exact hst, h.m.set _ hc hm⟩
  refine bodyPost_ret (v := .agg #[.int .i64 W, .int .i64 H, .slice (some ⟨g1, 0, none⟩) L.length cap1]) (by simp [results, Try.results79, go_sem, hcm, hrm, hn0, hn1, hn2, hn3]) rfl ⟨_, rfl, ?_, .inr ⟨g1, rfl, by omega⟩, ?_⟩
  · exact (((hM.kept (grown_set _) (.inl (by simp [Value.ownBlock]; omega))).kept (grown_set _) (.inl (by simp [Value.ownBlock]; omega))).kept (grown_set _) (.inl (by simp [Value.ownBlock]; omega))).kept (grown_set _) (.inl (by simp [Value.ownBlock]; omega))
  · have hW2 : Below w.heap.size w w2 := below_of hW1 (grown_none hgr)
    go_grown


/-- An image and an error are handed back. -/
def RetME (W H : Nat) (L : List Int) (E : Int) (v0 : Value) (w : World) (e : Ending) (w' : World) : Prop :=
  ∃ v, e = .returned (.tuple #[.agg #[.int .i64 W, .int .i64 H, v], .int .i64 E]) ∧ RM w' v W H L ∧ Lies w v0 v ∧ Below w.heap.size w w'
theorem Lies.any {W : World} {v : Value} {g o : Nat} {s : Option Nat} {n c : Nat} (v0 : Value) (h : Lies W (.slice none 0 0) v) (hv : v = .slice (some ⟨g, o, s⟩) n c) : Lies W v0 v := by
  subst hv; exact .inr ⟨g, rfl, h.new rfl⟩
theorem Lies.below {W W' : World} {v0 v : Value} (h : Lies W' v0 v) (hz : W.heap.size ≤ W'.heap.size) : Lies W v0 v := by
  rcases h with h | ⟨g, h, k⟩
  · exact .inl h
  · exact .inr ⟨g, h, by omega⟩

/-- The param's box and the result's: what the walk reads. -/
theorem two_boxes (w : World) (cs ds : Array Value) (T U : TypeId) : Blk ((w.alloc (.cells cs T)).alloc (.cells ds U)) w.heap.size cs T ∧ Blk ((w.alloc (.cells cs T)).alloc (.cells ds U)) (w.heap.size + 1) ds U ∧
    Below w.heap.size w ((w.alloc (.cells cs T)).alloc (.cells ds U)) ∧ ((w.alloc (.cells cs T)).alloc (.cells ds U)).heap.size = w.heap.size + 2 := by
  refine ⟨(Blk.new w cs T).alloc _, ?_, by go_grown, by simp⟩
  have := Blk.new (w.alloc (.cells cs T)) ds U
  rwa [World.size_alloc] at this

set_option maxHeartbeats 2000000 in
theorem ref04_Set {w : World} {v : Value} {W H : Nat} {L : List Int} (h : RM w v W H L) (x y c : Int) (hc : Pl.isC c) :
    Calls Try.prog 17 #[.agg #[.int .i64 W, .int .i64 H, v], .int .i64 x, .int .i64 y, .int .u32 c] w (RetME W H (setL W H L x y c) (setE W H x y c) v w) := by
  obtain ⟨hB, hR, hW, hz⟩ := two_boxes w #[.int .i64 W, .int .i64 H, v] #[.int .i64 0, .int .i64 0, .slice none 0 0] 25 25
  have h0 := h
  obtain ⟨g, cap, rfl, hg, k1, k2, hcells⟩ := h.form
  clear hcells
  have hcE : ∀ E L', setE W H x y c = E → setL W H L x y c = L' → RetME W H L' E (.slice (some ⟨g, 0, none⟩) L.length cap) w = RetME W H (setL W H L x y c) (setE W H x y c) (.slice (some ⟨g, 0, none⟩) L.length cap) w := fun E L' a b => by rw [a, b]
  have HE := Lib.hid hcE
  clear hcE
  by_cases hin : inBox W H x y
  · have hd : decide (inBox W H x y) = true := by simpa using hin
    by_cases hm : Pl.mayc c = true
    · rw [← HE.out 0 (L.set (y * W + x).toNat c) (by unfold setE; rw [if_pos hin, if_pos hm]) (by unfold setL; rw [if_pos ⟨hin, hm⟩])]
      go_enter Try.func17, Try.ntmps17
      go_wp2_with fail
      generalize (w.alloc (.cells #[.int .i64 W, .int .i64 H, .slice (some ⟨g, 0, none⟩) L.length cap] 25)).alloc (.cells #[.int .i64 0, .int .i64 0, .slice none 0 0] 25) = V at *
      refine (ref04_At (h0.below hW) x y).mono ?_
      rintro e w1 ⟨rfl, hb1⟩
      rw [hd]
      have hB := hB.below hb1 (by omega)
      have hR := hR.below hb1 (by omega)
      have hW := below_of hW hb1
      have hz := hb1.size
      clear hb1
      go_wp2_with fail
      refine (ref_May c hc _).mono ?_
      rintro e w2 ⟨rfl, hb2⟩
      rw [hm]
      have hB := hB.below hb2 hB.lt
      have hR := hR.below hb2 hR.lt
      have hW := below_of hW hb2
      have hz2 := hb2.size
      clear hb2
      have hcm := hB.cell
      go_wp2_with fail
      refine (ref04_Put (h0.below hW) x y c hin hc hm).mono ?_
      rintro e w3 ⟨v1, rfl, hM, hl, hb3⟩
      have hR := hR.below hb3 hR.lt
      have hW := below_of hW hb3
      clear hcm hB
      have hrm := hR.cell
      have hfr := hR.free
      obtain ⟨g1, c1, rfl, hg1, hk3, _⟩ := hM.form
      have hn := hl.new rfl
      rw [List.length_set] at hM hl hk3 ⊢
      go_wp2_with fail
      obtain ⟨hR4, hg4⟩ := set3 hR (.int .i64 W) (.int .i64 H) (.slice (some ⟨g1, 0, none⟩) L.length c1)
      have hr4 := hR4.cell
      have hM := hM.kept hg4 (.inl (by simp [Value.ownBlock]; omega))
      have hW4 := grown_below hW hg4 (by omega) (fun k e => by cases e; omega)
      refine bodyPost_ret (v := .tuple #[.agg #[.int .i64 W, .int .i64 H, .slice (some ⟨g1, 0, none⟩) L.length c1], .int .i64 0]) (by simp [results, Try.results17, go_sem, hr4]) rfl ⟨_, rfl, hM, .inr ⟨g1, rfl, by omega⟩, hW4⟩
    · rw [← HE.out 1 L (by unfold setE; rw [if_pos hin, if_neg hm]) (by unfold setL; rw [if_neg (fun k => hm k.2)])]
      have hm : Pl.mayc c = false := by simpa using hm
      go_enter Try.func17, Try.ntmps17
      go_wp2_with fail
      generalize (w.alloc (.cells #[.int .i64 W, .int .i64 H, .slice (some ⟨g, 0, none⟩) L.length cap] 25)).alloc (.cells #[.int .i64 0, .int .i64 0, .slice none 0 0] 25) = V at *
      refine (ref04_At (h0.below hW) x y).mono ?_
      rintro e w1 ⟨rfl, hb1⟩
      rw [hd]
      have hB := hB.below hb1 (by omega)
      have hR := hR.below hb1 (by omega)
      have hW := below_of hW hb1
      have hz := hb1.size
      clear hb1
      go_wp2_with fail
      refine (ref_May c hc _).mono ?_
      rintro e w2 ⟨rfl, hb2⟩
      rw [hm]
      have hB := hB.below hb2 hB.lt
      have hR := hR.below hb2 hR.lt
      have hW := below_of hW hb2
      have hz2 := hb2.size
      clear hb2
      have hcm := hB.cell
      have hrm := hR.cell
      have hfr := hR.free
      go_wp2_with fail
      obtain ⟨hR4, hg4⟩ := set3 hR (.int .i64 W) (.int .i64 H) (.slice (some ⟨g, 0, none⟩) L.length cap)
      have hr4 := hR4.cell
      have hM := (h0.below hW).kept hg4 (.inl (by simp [Value.ownBlock]; omega))
      have hW4 := grown_below hW hg4 (by omega) (fun k e => by cases e; omega)
      refine bodyPost_ret (v := .tuple #[.agg #[.int .i64 W, .int .i64 H, .slice (some ⟨g, 0, none⟩) L.length cap], .int .i64 1]) (by simp [results, Try.results17, go_sem, hr4]) rfl ⟨_, rfl, hM, .inl rfl, hW4⟩
  · rw [← HE.out 4 L (by unfold setE; rw [if_neg hin]) (by unfold setL; rw [if_neg (fun k => hin k.1)])]
    have hd : decide (inBox W H x y) = false := by simpa using hin
    go_enter Try.func17, Try.ntmps17
    go_wp2_with fail
    generalize (w.alloc (.cells #[.int .i64 W, .int .i64 H, .slice (some ⟨g, 0, none⟩) L.length cap] 25)).alloc (.cells #[.int .i64 0, .int .i64 0, .slice none 0 0] 25) = V at *
    refine (ref04_At (h0.below hW) x y).mono ?_
    rintro e w1 ⟨rfl, hb1⟩
    rw [hd]
    have hB := hB.below hb1 (by omega)
    have hR := hR.below hb1 (by omega)
    have hW := below_of hW hb1
    have hz := hb1.size
    clear hb1
    have hcm := hB.cell
    have hrm := hR.cell
    have hfr := hR.free
    go_wp2_with fail
    obtain ⟨hR4, hg4⟩ := set3 hR (.int .i64 W) (.int .i64 H) (.slice (some ⟨g, 0, none⟩) L.length cap)
    have hr4 := hR4.cell
    have hM := (h0.below hW).kept hg4 (.inl (by simp [Value.ownBlock]; omega))
    have hW4 := grown_below hW hg4 (by omega) (fun k e => by cases e; omega)
    refine bodyPost_ret (v := .tuple #[.agg #[.int .i64 W, .int .i64 H, .slice (some ⟨g, 0, none⟩) L.length cap], .int .i64 4]) (by simp [results, Try.results17, go_sem, hr4]) rfl ⟨_, rfl, hM, .inl rfl, hW4⟩

end Go.Proofs.Ytfnnhjnhccbglaa
