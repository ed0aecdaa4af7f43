/- Walks: the colors of the program: cut, Parts, Make, May, Part, Solid. -/
import Derived.Test.YtfnnhjnhccbglaaBase
import Derived.Test.YtfnnhjnhccbglaaPCol
namespace Go.Proofs.Ytfnnhjnhccbglaa
open Go.RowKit

theorem and255 {x : Int} (h0 : 0 ≤ x) (h1 : x < 4294967296) : bits .and .u32 x 255 = x % 256 := by
  rw [u32_and x 255 h0 h1 (by omega) (by omega)]
  have : (255 : Int).toNat = 2 ^ 8 - 1 := by decide
  rw [this, Nat.and_two_pow_sub_one_eq_mod]
  omega
theorem or_low {a b : Int} (h0 : 0 ≤ a) (h1 : a < 16777216) (h2 : 0 ≤ b) (h3 : b < 256) : bits .or .u32 (a * 256) b = a * 256 + b := by
  rw [u32_or (a * 256) b (by omega) (by omega) (by omega) (by omega)]
  obtain ⟨m, rfl⟩ := Int.eq_ofNat_of_zero_le h0
  obtain ⟨k, rfl⟩ := Int.eq_ofNat_of_zero_le h2
  have e : ((m : Int) * 256).toNat = 2 ^ 8 * m := by omega
  rw [e, Int.toNat_natCast, ← Nat.two_pow_add_eq_or_of_lt (by omega)]
  omega

set_option maxHeartbeats 1000000 in
theorem color_Parts (c : Int) (hc : Pl.isC c) (w : World) :
    Calls Try.prog 104 #[.int .u32 c] w fun e w' => e = .returned (.agg #[.int .i64 (Pl.cA c), .int .i64 (Pl.cR c), .int .i64 (Pl.cG c), .int .i64 (Pl.cB c)]) ∧ Below w.heap.size w w' := by
  obtain ⟨h0, h1⟩ := hc
  go_enter Try.func104, Try.ntmps104
  go_wp2
  go_rounds 5
  go_returns
  rw [and255 (x := c) h0 h1, and255 (x := c / 16777216) (by omega) (by omega), and255 (x := c / 65536) (by omega) (by omega), and255 (x := c / 256) (by omega) (by omega),
    IntWalk.wrap64_in _ (by omega), IntWalk.wrap64_in _ (by omega), IntWalk.wrap64_in _ (by omega), IntWalk.wrap64_in _ (by omega)]
  refine ⟨by rw [show c / 16777216 % 256 = Pl.cA c by unfold Pl.cA; omega]; rfl, ?_⟩
  go_grown

set_option maxHeartbeats 1000000 in
theorem color_cut (n : Int) (w : World) :
    Calls Try.prog 130 #[.int .i64 n] w fun e w' => e = .returned (.int .i64 (Pl.cl n)) ∧ w = w' := by
  go_enter Try.func130, Try.ntmps130
  go_wp2
  go_ret
  exact ⟨by unfold Pl.cl; rfl, rfl⟩

set_option maxHeartbeats 1000000 in
theorem color_May (c : Int) (hc : Pl.isC c) (w : World) :
    Calls Try.prog 82 #[.int .u32 c] w fun e w' => e = .returned (.bool (Pl.mayc c)) ∧ Below w.heap.size w w' := by
  go_enter Try.func82, Try.ntmps82
  go_wp2_with (go_at_call 104; refine (color_Parts c hc _).mono ?_; rintro e w1 ⟨rfl, hb1⟩)
  go_ret
  exact ⟨by unfold Pl.mayc; rfl, by have := hb1.size; go_grown⟩

/-- An element of an array of four, by a number that is known. -/
theorem idx4 (a r g b : Value) (w : World) : (Instr.index 79 (.agg #[a, r, g, b]) (.int .i64 0)).run Try.prog w = .ok a w ∧ (Instr.index 79 (.agg #[a, r, g, b]) (.int .i64 1)).run Try.prog w = .ok r w ∧
    (Instr.index 79 (.agg #[a, r, g, b]) (.int .i64 2)).run Try.prog w = .ok g w ∧ (Instr.index 79 (.agg #[a, r, g, b]) (.int .i64 3)).run Try.prog w = .ok b w :=
  ⟨by kernel_rfl, by kernel_rfl, by kernel_rfl, by kernel_rfl⟩

theorem make_bits {a r g b : Int} (ha : 0 ≤ a ∧ a ≤ 255) (hr : 0 ≤ r ∧ r ≤ 255) (hg : 0 ≤ g ∧ g ≤ 255) (hb : 0 ≤ b ∧ b ≤ 255) :
    bits .or .u32 (bits .or .u32 (bits .or .u32 (bits .or .u32 0 a * 256 % 4294967296) r * 256 % 4294967296) g * 256 % 4294967296) b = Pl.mkc a r g b := by
  have e0 : bits .or .u32 0 a = a := by
    have := or_low (a := 0) (b := a) (by omega) (by omega) (by omega) (by omega)
    simpa using this
  have m1 : a * 256 % 4294967296 = a * 256 := by omega
  have m2 : (a * 256 + r) * 256 % 4294967296 = (a * 256 + r) * 256 := by omega
  have m3 : ((a * 256 + r) * 256 + g) * 256 % 4294967296 = ((a * 256 + r) * 256 + g) * 256 := by omega
  rw [e0, m1, or_low (a := a) (by omega) (by omega) (by omega) (by omega), m2, or_low (a := a * 256 + r) (by omega) (by omega) (by omega) (by omega), m3,
    or_low (a := (a * 256 + r) * 256 + g) (by omega) (by omega) (by omega) (by omega)]
  unfold Pl.mkc
  omega

set_option maxHeartbeats 1000000 in
theorem color_Make (a r g b : Int) (w : World) :
    Calls Try.prog 94 #[.int .i64 a, .int .i64 r, .int .i64 g, .int .i64 b] w fun e w' => e = .returned (.int .u32 (Pl.mkc (Pl.cl a) (Pl.cl r) (Pl.cl g) (Pl.cl b))) ∧ w = w' := by
  have ix := idx4 (.int .i64 a) (.int .i64 r) (.int .i64 g) (.int .i64 b)
  have i0 := fun w => (ix w).1
  have i1 := fun w => (ix w).2.1
  have i2 := fun w => (ix w).2.2.1
  have i3 := fun w => (ix w).2.2.2
  clear ix
  have ba := Pl.cl_bd a
  have br := Pl.cl_bd r
  have bg := Pl.cl_bd g
  have bb := Pl.cl_bd b
  go_enter Try.func94, Try.ntmps94
  go_wp2
  refine wp_loop_rounds 5 ?_
  rw [rounds_succ]
  go_wp2_with (go_at_call 130; refine (color_cut _ _).mono ?_; rintro e w1 ⟨rfl, rfl⟩)
  all_goals (rw [rounds_succ]; go_wp2_with (go_at_call 130; refine (color_cut _ _).mono ?_; rintro e w1 ⟨rfl, rfl⟩))
  all_goals (rw [rounds_succ]; go_wp2_with (go_at_call 130; refine (color_cut _ _).mono ?_; rintro e w1 ⟨rfl, rfl⟩))
  all_goals (rw [rounds_succ]; go_wp2_with (go_at_call 130; refine (color_cut _ _).mono ?_; rintro e w1 ⟨rfl, rfl⟩))
  all_goals (rw [rounds_succ]; go_wp2_with (go_at_call 130; refine (color_cut _ _).mono ?_; rintro e w1 ⟨rfl, rfl⟩))
  go_ret
  exact ⟨ret_int (make_bits ba br bg bb), rfl⟩

set_option maxHeartbeats 1000000 in
theorem color_Part (p q : Int) (w : World) :
    Calls Try.prog 158 #[.int .i64 p, .int .i64 q] w fun e w' => e = .returned (.int .i64 (Pl.part p q)) ∧ w = w' := by
  have hp := Pl.cl_bd p
  have hq := Pl.cl_bd q
  have h1 : 0 ≤ Pl.cl p * Pl.cl q := Int.mul_nonneg hp.1 hq.1
  have h2 : Pl.cl p * Pl.cl q ≤ 255 * 255 := Int.mul_le_mul hp.2 hq.2 hq.1 (by omega)
  go_enter Try.func158, Try.ntmps158
  go_wp2_with (go_at_call 130; refine (color_cut _ _).mono ?_; rintro e w1 ⟨rfl, rfl⟩)
  go_ret
  exact ⟨ret_int (by unfold Pl.part; rfl), rfl⟩

set_option maxHeartbeats 1000000 in
theorem color_Solid (c : Int) (hc : Pl.isC c) (w : World) :
    Calls Try.prog 107 #[.int .u32 c] w fun e w' => e = .returned (.bool (Pl.cA c == 255)) ∧ Below w.heap.size w w' := by
  have ix := fun (w : World) => (idx4 (.int .i64 (Pl.cA c)) (.int .i64 (Pl.cR c)) (.int .i64 (Pl.cG c)) (.int .i64 (Pl.cB c)) w).1
  go_enter Try.func107, Try.ntmps107
  go_wp2_with (go_at_call 104; refine (color_Parts c hc _).mono ?_; rintro e w1 ⟨rfl, hb1⟩)
  go_ret
  exact ⟨rfl, hb1⟩

/-- What is made of each part by a function that answers f. -/
def eachC (f : Int → Int → Int) (c : Int) : Int := Pl.mkc (Pl.cl (f 0 (Pl.cA c))) (Pl.cl (f 1 (Pl.cR c))) (Pl.cl (f 2 (Pl.cG c))) (Pl.cl (f 3 (Pl.cB c)))

set_option maxHeartbeats 2000000 in
theorem color_each (c : Int) (hc : Pl.isC c) (w : World) (k : Nat) (caps : Array Value) (f : Int → Int → Int)
    (he : ∀ args W, (callFunc k args).run Try.prog W = .ok (.enter k args) W)
    (hf : ∀ i n W, 0 ≤ i → i ≤ 3 → Below w.heap.size w W → Calls Try.prog k (#[.int .i64 i, .int .i64 n] ++ caps) W fun e W' => e = .returned (.int .i64 (f i n)) ∧ Below W.heap.size W W') :
    Calls Try.prog 156 #[.int .u32 c, .func (.func k) #[] caps] w fun e w' => e = .returned (.int .u32 (eachC f c)) ∧ Below w.heap.size w w' := by
  have Hf := Lib.hid hf
  clear hf
  go_enter Try.func156, Try.ntmps156
  go_wp2_with (go_at_call 104; refine (color_Parts c hc _).mono ?_; rintro e w1 ⟨rfl, hb1⟩)
  refine wp_loop_rounds 5 ?_
  rw [rounds_succ]
  go_wp2_with fail
  have hz1 := hb1.size
  have hB := Blk.new w1 #[.int .i64 (Pl.cA c), .int .i64 (Pl.cR c), .int .i64 (Pl.cG c), .int .i64 (Pl.cB c)] 79
  have hW : Below w.heap.size w (w1.alloc (.cells #[.int .i64 (Pl.cA c), .int .i64 (Pl.cR c), .int .i64 (Pl.cG c), .int .i64 (Pl.cB c)] 79)) := by go_grown
  generalize w1.alloc (.cells #[.int .i64 (Pl.cA c), .int .i64 (Pl.cR c), .int .i64 (Pl.cG c), .int .i64 (Pl.cB c)] 79) = W at *
  generalize w1.heap.size = b at *
  clear hb1
  refine (Hf.out 0 _ _ (by omega) (by omega) hW).mono ?_
  rintro e w2 ⟨rfl, hb2⟩
  have hB2 := hB.below hb2 hB.lt
  have hW2 := hW.trans (hb2.mono hW.size)
  clear hB hW hb2
  have hc := hB2.cell
  have hf := hB2.free
  go_wp2_with fail
  clear hc hf
  have hB := hB2.set 0 (.int .i64 (f 0 (Pl.cA c)))
  have hW := hW2.setCell (p := ⟨b, 0, none⟩) hz1 (.int .i64 (f 0 (Pl.cA c)))
  simp only [List.setIfInBounds_toArray, List.set_cons_zero, List.set_cons_succ] at hB
  clear hB2 hW2
  generalize w2.setCell ⟨b, 0, none⟩ (.int .i64 (f 0 (Pl.cA c))) = W at *
  have hc := hB.cell
  have hf := hB.free
  rw [rounds_succ]
  go_wp2_with fail
  clear hc hf
  refine (Hf.out 1 _ _ (by omega) (by omega) hW).mono ?_
  rintro e w2 ⟨rfl, hb2⟩
  have hB2 := hB.below hb2 hB.lt
  have hW2 := hW.trans (hb2.mono hW.size)
  clear hB hW hb2
  have hc := hB2.cell
  have hf := hB2.free
  go_wp2_with fail
  clear hc hf
  have hB := hB2.set 1 (.int .i64 (f 1 (Pl.cR c)))
  have hW := hW2.setCell (p := ⟨b, 1, none⟩) hz1 (.int .i64 (f 1 (Pl.cR c)))
  simp only [List.setIfInBounds_toArray, List.set_cons_zero, List.set_cons_succ] at hB
  clear hB2 hW2
  generalize w2.setCell ⟨b, 1, none⟩ (.int .i64 (f 1 (Pl.cR c))) = W at *
  have hc := hB.cell
  have hf := hB.free
  rw [rounds_succ]
  go_wp2_with fail
  clear hc hf
  refine (Hf.out 2 _ _ (by omega) (by omega) hW).mono ?_
  rintro e w2 ⟨rfl, hb2⟩
  have hB2 := hB.below hb2 hB.lt
  have hW2 := hW.trans (hb2.mono hW.size)
  clear hB hW hb2
  have hc := hB2.cell
  have hf := hB2.free
  go_wp2_with fail
  clear hc hf
  have hB := hB2.set 2 (.int .i64 (f 2 (Pl.cG c)))
  have hW := hW2.setCell (p := ⟨b, 2, none⟩) hz1 (.int .i64 (f 2 (Pl.cG c)))
  simp only [List.setIfInBounds_toArray, List.set_cons_zero, List.set_cons_succ] at hB
  clear hB2 hW2
  generalize w2.setCell ⟨b, 2, none⟩ (.int .i64 (f 2 (Pl.cG c))) = W at *
  have hc := hB.cell
  have hf := hB.free
  rw [rounds_succ]
  go_wp2_with fail
  clear hc hf
  refine (Hf.out 3 _ _ (by omega) (by omega) hW).mono ?_
  rintro e w2 ⟨rfl, hb2⟩
  have hB2 := hB.below hb2 hB.lt
  have hW2 := hW.trans (hb2.mono hW.size)
  clear hB hW hb2
  have hc := hB2.cell
  have hf := hB2.free
  go_wp2_with fail
  clear hc hf
  have hB := hB2.set 3 (.int .i64 (f 3 (Pl.cB c)))
  have hW := hW2.setCell (p := ⟨b, 3, none⟩) hz1 (.int .i64 (f 3 (Pl.cB c)))
  simp only [List.setIfInBounds_toArray, List.set_cons_zero, List.set_cons_succ] at hB
  clear hB2 hW2
  generalize w2.setCell ⟨b, 3, none⟩ (.int .i64 (f 3 (Pl.cB c))) = W at *
  have hc := hB.cell
  have hf := hB.free
  rw [rounds_succ]
  go_wp2_with (go_at_call 94; refine (color_Make _ _ _ _ _).mono ?_; rintro e w3 ⟨rfl, rfl⟩)
  go_ret
  exact ⟨ret_int rfl, hW⟩


set_option maxHeartbeats 1000000 in
theorem color_Fade1 (i n al : Int) (w : World) (b : Nat) (hc : w.cell? ⟨b, 0, none⟩ = some (.int .i64 al)) :
    Calls Try.prog 157 #[.int .i64 i, .int .i64 n, .pointer (some ⟨b, 0, none⟩)] w fun e w' => e = .returned (.int .i64 (Pl.part n al)) ∧ w = w' := by
  go_enter Try.func157, Try.ntmps157
  go_wp2_with (go_at_call 158; refine (color_Part _ _ _).mono ?_; rintro e w1 ⟨rfl, rfl⟩)
  go_ret
  exact ⟨rfl, rfl⟩

theorem part_cl (p q : Int) : Pl.cl (Pl.part p q) = Pl.part p q := Pl.cl_of (Pl.part_bd p q).1 (Pl.part_bd p q).2

set_option maxHeartbeats 1000000 in
theorem color_Fade (c al : Int) (hc : Pl.isC c) (w : World) :
    Calls Try.prog 133 #[.int .u32 c, .int .i64 al] w fun e w' => e = .returned (.int .u32 (Pl.fade c al)) ∧ Below w.heap.size w w' := by
  go_enter Try.func133, Try.ntmps133
  go_wp2_with fail
  have hB := Blk.new w #[.int .i64 al] 3
  refine (color_each c hc _ 157 #[.pointer (some ⟨w.heap.size, 0, none⟩)] (fun _ n => Pl.part n al) (fun _ _ => by kernel_rfl) ?_).mono ?_
  · intro i n W _ _ hW
    refine (color_Fade1 i n al W w.heap.size ((hB.below hW hB.lt).cell 0)).mono ?_
    rintro e w' ⟨rfl, rfl⟩
    exact ⟨rfl, Below.refl _ _⟩
  rintro e w1 ⟨rfl, hb1⟩
  go_wp2
  go_ret
  refine ⟨ret_int (by unfold eachC Pl.fade; simp only [part_cl]), ?_⟩
  exact ((Below.refl _ w).alloc (Nat.le_refl _) _).trans (hb1.mono (by simp))

set_option maxHeartbeats 1000000 in
theorem color_Over1 (i n rest : Int) (x : Int → Int) (w : World) (b b2 : Nat) (h0 : 0 ≤ i) (h3 : i ≤ 3) (hx : Blk w b #[.int .i64 (x 0), .int .i64 (x 1), .int .i64 (x 2), .int .i64 (x 3)] 79)
    (hb : ∀ j, 0 ≤ x j ∧ x j ≤ 255) (hc : w.cell? ⟨b2, 0, none⟩ = some (.int .i64 rest)) :
    Calls Try.prog 159 #[.int .i64 i, .int .i64 n, .pointer (some ⟨b, 0, none⟩), .pointer (some ⟨b2, 0, none⟩)] w fun e w' => e = .returned (.int .i64 (x i + Pl.part n rest)) ∧ Below w.heap.size w w' := by
  have hp := Pl.part_bd n rest
  have hxi := hb i
  have h4 : i < 4 := by omega
  have hsum : IntKind.i64.wrap (x i + Pl.part n rest) = x i + Pl.part n rest := IntWalk.i64_in _ (by omega)
  have hcell : w.cell? ⟨b, i.toNat, none⟩ = some (.int .i64 (x i)) := by
    rw [hx.cell]
    rcases (by omega : i = 0 ∨ i = 1 ∨ i = 2 ∨ i = 3) with rfl | rfl | rfl | rfl <;> rfl
  clear hb hx
  go_enter Try.func159, Try.ntmps159
  go_wp2
  go_region_held3 (fun w' => (w'.cell? ⟨b, i.toNat, none⟩ = some (.int .i64 (x i)) ∧ w'.cell? ⟨b2, 0, none⟩ = some (.int .i64 rest)) ∧ Below w.heap.size w w') (refine ⟨⟨?_, ?_⟩, ?_⟩ <;> (first | go_keep | go_grown))
    (first | (go_at_call 158; refine (color_Part _ _ _).mono ?_; rintro e w1 ⟨rfl, rfl⟩))
  all_goals
    go_wp2
    go_ret
    exact ⟨rfl, (Below.refl _ _).drew⟩

end Go.Proofs.Ytfnnhjnhccbglaa
