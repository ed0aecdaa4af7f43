/- Walks: the document's fade, over, good. -/
import Derived.Test.YtfnnhjnhccbglaaCol2
namespace Go.Proofs.Ytfnnhjnhccbglaa
open Go.RowKit

set_option maxHeartbeats 1000000 in
theorem ref_Fade (c al : Int) (hc : Pl.isC c) (w : World) :
    Calls Try.prog 136 #[.int .u32 c, .int .i64 al] w fun e w' => e = .returned (.int .u32 (Pl.fade c al)) ∧ Below w.heap.size w w' := by
  go_enter Try.func136, Try.ntmps136
  go_wp2_with (go_at_call 45; refine (ref_Parts c hc _).mono ?_; rintro e w1 ⟨rfl, hb1⟩)
  have hz1 := hb1.size
  have hB := Blk.new w1 #[.int .i64 (Pl.cA c), .int .i64 (Pl.cR c), .int .i64 (Pl.cG c), .int .i64 (Pl.cB c)] 79
  have hW : Below w.heap.size w (w1.alloc (.cells #[.int .i64 (Pl.cA c), .int .i64 (Pl.cR c), .int .i64 (Pl.cG c), .int .i64 (Pl.cB c)] 79)) := by go_grown
  generalize w1.alloc (.cells #[.int .i64 (Pl.cA c), .int .i64 (Pl.cR c), .int .i64 (Pl.cG c), .int .i64 (Pl.cB c)] 79) = W at *
  generalize w1.heap.size = b1 at *
  have hcell := hB.cell
  clear hb1 hB
  go_region_held3 (fun w' => (∀ i, w'.cell? ⟨b1, i, none⟩ = (#[.int .i64 (Pl.cA c), .int .i64 (Pl.cR c), .int .i64 (Pl.cG c), .int .i64 (Pl.cB c)] : Array Value)[i]?) ∧ Below w.heap.size w w') (refine ⟨?_, ?_⟩ <;> (first | go_keep | go_grown))
    (first
    | (go_at_call 137; refine (ref_Part _ _ _).mono ?_; rintro e w2 ⟨rfl, rfl⟩)
    | (go_at_call 46; refine (ref_Make _ _ _ _ _).mono ?_; rintro e w2 ⟨rfl, rfl⟩))
  all_goals
    go_wp2
    go_ret
    exact ⟨ret_int (by simp only [part_cl]; rfl), by go_grown⟩

set_option maxHeartbeats 1000000 in
theorem ref_Good (c : Int) (hc : Pl.isC c) (w : World) :
    Calls Try.prog 29 #[.int .u32 c] w fun e w' => e = .returned (.int .u32 (Pl.goodc c)) ∧ Below w.heap.size w w' := by
  go_enter Try.func29, Try.ntmps29
  go_wp2_with (first
    | (go_at_call 45; refine (ref_Parts c hc _).mono ?_; rintro e w1 ⟨rfl, hb1⟩)
    | (go_at_call 46; refine (ref_Make _ _ _ _ _).mono ?_; rintro e w2 ⟨rfl, rfl⟩))
  go_ret
  have hA := Pl.cA_bd hc
  have hR := Pl.cR_bd c
  have hG := Pl.cG_bd c
  have hB := Pl.cB_bd c
  exact ⟨ret_int (by rw [Pl.cl_of hA.1 hA.2, Pl.cl_of (by omega) (by omega), Pl.cl_of (by omega) (by omega), Pl.cl_of (by omega) (by omega)]; rfl), by have := hb1.size; go_grown⟩

/-- One part of a color over another one. -/
def overP (c d : Int) (i : Int) : Int := min (prt c i + Pl.part (prt d i) (255 - Pl.cA c)) 255
def four (a r g b : Int) : Array Value := #[.int .i64 a, .int .i64 r, .int .i64 g, .int .i64 b]

set_option maxHeartbeats 2000000 in
theorem ref_Over (c d : Int) (hc : Pl.isC c) (hd : Pl.isC d) (w : World) :
    Calls Try.prog 103 #[.int .u32 c, .int .u32 d] w fun e w' => e = .returned (.int .u32 (Pl.over c d)) ∧ Below w.heap.size w w' := by
  go_enter Try.func103, Try.ntmps103
  go_wp2_with fail
  refine (ref_Parts c hc _).mono ?_
  rintro e w1 ⟨rfl, hb1⟩
  go_wp2_with fail
  refine (ref_Parts d hd _).mono ?_
  rintro e w2 ⟨rfl, hb2⟩
  have hz1 := hb1.size
  have hB1 := (Blk.new w1 #[.int .i64 (Pl.cA c), .int .i64 (Pl.cR c), .int .i64 (Pl.cG c), .int .i64 (Pl.cB c)] 79).below hb2 (by simp)
  have hW : Below w.heap.size w w2 := (hb1.alloc hz1 _).trans (hb2.mono (by simp; omega))
  have hz2 : w1.heap.size + 1 ≤ w2.heap.size := by have := hb2.size; simpa using this
  clear hb1 hb2
  go_wp2_with fail
  have hB2 := (Blk.new w2 (four (Pl.cA d) (Pl.cR d) (Pl.cG d) (Pl.cB d)) 79).alloc (.cells (four 0 0 0 0) 79)
  have hB3 := Blk.new (w2.alloc (.cells (four (Pl.cA d) (Pl.cR d) (Pl.cG d) (Pl.cB d)) 79)) (four 0 0 0 0) 79
  have hB1 := (hB1.alloc (.cells (four (Pl.cA d) (Pl.cR d) (Pl.cG d) (Pl.cB d)) 79)).alloc (.cells (four 0 0 0 0) 79)
  have hW : Below w.heap.size w ((w2.alloc (.cells (four (Pl.cA d) (Pl.cR d) (Pl.cG d) (Pl.cB d)) 79)).alloc (.cells (four 0 0 0 0) 79)) := by go_grown
  simp only [World.size_alloc] at hB3
  unfold four at hB1 hB2 hB3 hW
  generalize (w2.alloc (.cells #[.int .i64 (Pl.cA d), .int .i64 (Pl.cR d), .int .i64 (Pl.cG d), .int .i64 (Pl.cB d)] 79)).alloc (.cells #[.int .i64 0, .int .i64 0, .int .i64 0, .int .i64 0] 79) = W at *
  have hn1 : ¬ w1.heap.size = w2.heap.size + 1 := by omega
  have hn2 : ¬ w2.heap.size = w2.heap.size + 1 := by omega
  have hz3 : w.heap.size ≤ w2.heap.size + 1 := by omega
  clear hz1 hz2
  generalize w1.heap.size = b1 at *
  generalize w2.heap.size + 1 = b3 at *
  generalize w2.heap.size = b2 at *
  have hA := Pl.cA_bd hc
  have q0 := prt_bd hc 0
  have q1 := prt_bd hc 1
  have q2 := prt_bd hc 2
  have q3 := prt_bd hc 3
  simp only [prt, Int.reduceEq, if_true, if_false] at q0 q1 q2 q3
  have p0 := Pl.part_bd (Pl.cA d) (255 - Pl.cA c)
  have p1 := Pl.part_bd (Pl.cR d) (255 - Pl.cA c)
  have p2 := Pl.part_bd (Pl.cG d) (255 - Pl.cA c)
  have p3 := Pl.part_bd (Pl.cB d) (255 - Pl.cA c)
  have hs0 : IntKind.i64.wrap (255 - Pl.cA c) = 255 - Pl.cA c := IntWalk.i64_in _ (by omega)
  refine wp_loop_rounds 5 ?_
  rw [rounds_succ]
  go_wp2_with fail
  have hc1 := hB1.cell
  have hc2 := hB2.cell
  have hc3 := hB3.cell
  have hf3 := hB3.free
  have hs1 : IntKind.i64.wrap (Pl.cA c + Pl.part (Pl.cA d) (255 - Pl.cA c)) = Pl.cA c + Pl.part (Pl.cA d) (255 - Pl.cA c) := IntWalk.i64_in _ (by omega)
  go_region_held3 (fun w' => (∀ i, w'.cell? ⟨b1, i, none⟩ = (#[.int .i64 (Pl.cA c), .int .i64 (Pl.cR c), .int .i64 (Pl.cG c), .int .i64 (Pl.cB c)] : Array Value)[i]?) ∧ (∀ i, w'.cell? ⟨b2, i, none⟩ = (#[.int .i64 (Pl.cA d), .int .i64 (Pl.cR d), .int .i64 (Pl.cG d), .int .i64 (Pl.cB d)] : Array Value)[i]?)) (simp [*, cell?_setCell_ne])
    (first | (go_at_call 137; refine (ref_Part _ _ _).mono ?_; rintro e w3 ⟨rfl, rfl⟩))
  clear hc1 hc2 hc3 hf3 hs1
  go_wp2_with fail
  have hB1 := (hB1.other hn1 0 (.int .i64 (min (Pl.cA c + Pl.part (Pl.cA d) (255 - Pl.cA c)) 255))).drew
  have hB2 := (hB2.other hn2 0 (.int .i64 (min (Pl.cA c + Pl.part (Pl.cA d) (255 - Pl.cA c)) 255))).drew
  have hB3 := (hB3.set 0 (.int .i64 (min (Pl.cA c + Pl.part (Pl.cA d) (255 - Pl.cA c)) 255))).drew
  have hW := (hW.setCell (p := ⟨b3, 0, none⟩) hz3 (.int .i64 (min (Pl.cA c + Pl.part (Pl.cA d) (255 - Pl.cA c)) 255))).drew
  simp only [List.setIfInBounds_toArray, List.set_cons_zero, List.set_cons_succ] at hB3
  generalize (W.setCell ⟨b3, 0, none⟩ (.int .i64 (min (Pl.cA c + Pl.part (Pl.cA d) (255 - Pl.cA c)) 255))).drew = W at *
  rw [rounds_succ]
  go_wp2_with fail
  have hc1 := hB1.cell
  have hc2 := hB2.cell
  have hc3 := hB3.cell
  have hf3 := hB3.free
  have hs1 : IntKind.i64.wrap (Pl.cR c + Pl.part (Pl.cR d) (255 - Pl.cA c)) = Pl.cR c + Pl.part (Pl.cR d) (255 - Pl.cA c) := IntWalk.i64_in _ (by omega)
  go_region_held3 (fun w' => (∀ i, w'.cell? ⟨b1, i, none⟩ = (#[.int .i64 (Pl.cA c), .int .i64 (Pl.cR c), .int .i64 (Pl.cG c), .int .i64 (Pl.cB c)] : Array Value)[i]?) ∧ (∀ i, w'.cell? ⟨b2, i, none⟩ = (#[.int .i64 (Pl.cA d), .int .i64 (Pl.cR d), .int .i64 (Pl.cG d), .int .i64 (Pl.cB d)] : Array Value)[i]?)) (simp [*, cell?_setCell_ne])
    (first | (go_at_call 137; refine (ref_Part _ _ _).mono ?_; rintro e w3 ⟨rfl, rfl⟩))
  clear hc1 hc2 hc3 hf3 hs1
  go_wp2_with fail
  have hB1 := (hB1.other hn1 1 (.int .i64 (min (Pl.cR c + Pl.part (Pl.cR d) (255 - Pl.cA c)) 255))).drew
  have hB2 := (hB2.other hn2 1 (.int .i64 (min (Pl.cR c + Pl.part (Pl.cR d) (255 - Pl.cA c)) 255))).drew
  have hB3 := (hB3.set 1 (.int .i64 (min (Pl.cR c + Pl.part (Pl.cR d) (255 - Pl.cA c)) 255))).drew
  have hW := (hW.setCell (p := ⟨b3, 1, none⟩) hz3 (.int .i64 (min (Pl.cR c + Pl.part (Pl.cR d) (255 - Pl.cA c)) 255))).drew
  simp only [List.setIfInBounds_toArray, List.set_cons_zero, List.set_cons_succ] at hB3
  generalize (W.setCell ⟨b3, 1, none⟩ (.int .i64 (min (Pl.cR c + Pl.part (Pl.cR d) (255 - Pl.cA c)) 255))).drew = W at *
  rw [rounds_succ]
  go_wp2_with fail
  have hc1 := hB1.cell
  have hc2 := hB2.cell
  have hc3 := hB3.cell
  have hf3 := hB3.free
  have hs1 : IntKind.i64.wrap (Pl.cG c + Pl.part (Pl.cG d) (255 - Pl.cA c)) = Pl.cG c + Pl.part (Pl.cG d) (255 - Pl.cA c) := IntWalk.i64_in _ (by omega)
  go_region_held3 (fun w' => (∀ i, w'.cell? ⟨b1, i, none⟩ = (#[.int .i64 (Pl.cA c), .int .i64 (Pl.cR c), .int .i64 (Pl.cG c), .int .i64 (Pl.cB c)] : Array Value)[i]?) ∧ (∀ i, w'.cell? ⟨b2, i, none⟩ = (#[.int .i64 (Pl.cA d), .int .i64 (Pl.cR d), .int .i64 (Pl.cG d), .int .i64 (Pl.cB d)] : Array Value)[i]?)) (simp [*, cell?_setCell_ne])
    (first | (go_at_call 137; refine (ref_Part _ _ _).mono ?_; rintro e w3 ⟨rfl, rfl⟩))
  clear hc1 hc2 hc3 hf3 hs1
  go_wp2_with fail
  have hB1 := (hB1.other hn1 2 (.int .i64 (min (Pl.cG c + Pl.part (Pl.cG d) (255 - Pl.cA c)) 255))).drew
  have hB2 := (hB2.other hn2 2 (.int .i64 (min (Pl.cG c + Pl.part (Pl.cG d) (255 - Pl.cA c)) 255))).drew
  have hB3 := (hB3.set 2 (.int .i64 (min (Pl.cG c + Pl.part (Pl.cG d) (255 - Pl.cA c)) 255))).drew
  have hW := (hW.setCell (p := ⟨b3, 2, none⟩) hz3 (.int .i64 (min (Pl.cG c + Pl.part (Pl.cG d) (255 - Pl.cA c)) 255))).drew
  simp only [List.setIfInBounds_toArray, List.set_cons_zero, List.set_cons_succ] at hB3
  generalize (W.setCell ⟨b3, 2, none⟩ (.int .i64 (min (Pl.cG c + Pl.part (Pl.cG d) (255 - Pl.cA c)) 255))).drew = W at *
  rw [rounds_succ]
  go_wp2_with fail
  have hc1 := hB1.cell
  have hc2 := hB2.cell
  have hc3 := hB3.cell
  have hf3 := hB3.free
  have hs1 : IntKind.i64.wrap (Pl.cB c + Pl.part (Pl.cB d) (255 - Pl.cA c)) = Pl.cB c + Pl.part (Pl.cB d) (255 - Pl.cA c) := IntWalk.i64_in _ (by omega)
  go_region_held3 (fun w' => (∀ i, w'.cell? ⟨b1, i, none⟩ = (#[.int .i64 (Pl.cA c), .int .i64 (Pl.cR c), .int .i64 (Pl.cG c), .int .i64 (Pl.cB c)] : Array Value)[i]?) ∧ (∀ i, w'.cell? ⟨b2, i, none⟩ = (#[.int .i64 (Pl.cA d), .int .i64 (Pl.cR d), .int .i64 (Pl.cG d), .int .i64 (Pl.cB d)] : Array Value)[i]?)) (simp [*, cell?_setCell_ne])
    (first | (go_at_call 137; refine (ref_Part _ _ _).mono ?_; rintro e w3 ⟨rfl, rfl⟩))
  clear hc1 hc2 hc3 hf3 hs1
  go_wp2_with fail
  have hB1 := (hB1.other hn1 3 (.int .i64 (min (Pl.cB c + Pl.part (Pl.cB d) (255 - Pl.cA c)) 255))).drew
  have hB2 := (hB2.other hn2 3 (.int .i64 (min (Pl.cB c + Pl.part (Pl.cB d) (255 - Pl.cA c)) 255))).drew
  have hB3 := (hB3.set 3 (.int .i64 (min (Pl.cB c + Pl.part (Pl.cB d) (255 - Pl.cA c)) 255))).drew
  have hW := (hW.setCell (p := ⟨b3, 3, none⟩) hz3 (.int .i64 (min (Pl.cB c + Pl.part (Pl.cB d) (255 - Pl.cA c)) 255))).drew
  simp only [List.setIfInBounds_toArray, List.set_cons_zero, List.set_cons_succ] at hB3
  generalize (W.setCell ⟨b3, 3, none⟩ (.int .i64 (min (Pl.cB c + Pl.part (Pl.cB d) (255 - Pl.cA c)) 255))).drew = W at *
  have hc3 := hB3.cell
  rw [rounds_succ]
  go_wp2_with (go_at_call 46; refine (ref_Make _ _ _ _ _).mono ?_; rintro e w4 ⟨rfl, rfl⟩)
  go_ret
  have hcl : ∀ n, 0 ≤ n → Pl.cl (min n 255) = Pl.cl n := fun n _ => by unfold Pl.cl; omega
  refine ⟨ret_int ?_, hW⟩
  rw [hcl _ (by omega), hcl _ (by omega), hcl _ (by omega), hcl _ (by omega)]
  rfl

end Go.Proofs.Ytfnnhjnhccbglaa
