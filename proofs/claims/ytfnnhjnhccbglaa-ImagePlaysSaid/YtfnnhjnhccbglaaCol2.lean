/- Walks: a color over another one (the program's); the document's parts, make, may, over, fade, good. -/
import Derived.Test.YtfnnhjnhccbglaaCol
namespace Go.Proofs.Ytfnnhjnhccbglaa
open Go.RowKit

/-- A color's parts by number. -/
def prt (c : Int) (i : Int) : Int := if i = 0 then Pl.cA c else if i = 1 then Pl.cR c else if i = 2 then Pl.cG c else Pl.cB c
theorem prt_bd {c : Int} (hc : Pl.isC c) (i : Int) : 0 ≤ prt c i ∧ prt c i ≤ 255 := by
  have h1 := Pl.cA_bd hc; have h2 := Pl.cR_bd c; have h3 := Pl.cG_bd c; have h4 := Pl.cB_bd c
  unfold prt
  split
  · exact h1
  · split
    · exact h2
    · split
      · exact h3
      · exact h4

set_option maxHeartbeats 1000000 in
theorem color_Over (c d : Int) (hc : Pl.isC c) (hd : Pl.isC d) (w : World) :
    Calls Try.prog 134 #[.int .u32 c, .int .u32 d] w fun e w' => e = .returned (.int .u32 (Pl.over c d)) ∧ Below w.heap.size w w' := by
  have ix := fun (w : World) => (idx4 (.int .i64 (Pl.cA c)) (.int .i64 (Pl.cR c)) (.int .i64 (Pl.cG c)) (.int .i64 (Pl.cB c)) w).1
  have hA := Pl.cA_bd hc
  go_enter Try.func134, Try.ntmps134
  go_wp2_with fail
  refine (color_Parts c hc _).mono ?_
  rintro e w1 ⟨rfl, hb1⟩
  go_wp2_with fail
  refine (color_Parts c hc _).mono ?_
  rintro e w2 ⟨rfl, hb2⟩
  have hW : Below w.heap.size w w2 := hb1.trans (hb2.mono hb1.size)
  clear hb1 hb2
  go_wp2_with fail
  have hB := (Blk.new w2 #[.int .i64 (Pl.cA c), .int .i64 (Pl.cR c), .int .i64 (Pl.cG c), .int .i64 (Pl.cB c)] 79).alloc (.cells #[.int .i64 (255 - Pl.cA c)] 3)
  have hR := Blk.new (w2.alloc (.cells #[.int .i64 (Pl.cA c), .int .i64 (Pl.cR c), .int .i64 (Pl.cG c), .int .i64 (Pl.cB c)] 79)) #[.int .i64 (255 - Pl.cA c)] 3
  simp only [World.size_alloc] at hR
  refine (color_each d hd _ 159 #[.pointer (some ⟨w2.heap.size, 0, none⟩), .pointer (some ⟨w2.heap.size + 1, 0, none⟩)] (fun i n => prt c i + Pl.part n (255 - Pl.cA c)) (fun _ _ => by kernel_rfl) ?_).mono ?_
  · intro i n W h0 h3 hW
    exact color_Over1 i n (255 - Pl.cA c) (prt c) W w2.heap.size (w2.heap.size + 1) h0 h3 (hB.below hW hB.lt) (prt_bd hc) ((hR.below hW hR.lt).cell 0)
  rintro e w3 ⟨rfl, hb3⟩
  go_wp2
  go_ret
  refine ⟨ret_int (by unfold eachC Pl.over prt; rfl), ?_⟩
  have h2 := hW.size
  exact ((hW.alloc h2 _).alloc (by simp; omega) _).trans (hb3.mono (by simp; omega))

/-! ### The document's -/
set_option maxHeartbeats 1000000 in
theorem ref_Part (p q : Int) (w : World) :
    Calls Try.prog 137 #[.int .i64 p, .int .i64 q] w fun e w' => e = .returned (.int .i64 (Pl.part p q)) ∧ w = w' := by
  have hp : 0 ≤ min (max p 0) 255 ∧ min (max p 0) 255 ≤ 255 := by omega
  have hq : 0 ≤ min (max q 0) 255 ∧ min (max q 0) 255 ≤ 255 := by omega
  have h1 : 0 ≤ min (max p 0) 255 * min (max q 0) 255 := Int.mul_nonneg hp.1 hq.1
  have h2 : min (max p 0) 255 * min (max q 0) 255 ≤ 255 * 255 := Int.mul_le_mul hp.2 hq.2 hq.1 (by omega)
  go_enter Try.func137, Try.ntmps137
  go_wp2
  go_ret
  exact ⟨ret_int (by unfold Pl.part Pl.cl; rfl), rfl⟩

set_option maxHeartbeats 1000000 in
theorem ref_Make (a r g b : Int) (w : World) :
    Calls Try.prog 46 #[.int .i64 a, .int .i64 r, .int .i64 g, .int .i64 b] w fun e w' => e = .returned (.int .u32 (Pl.mkc (Pl.cl a) (Pl.cl r) (Pl.cl g) (Pl.cl b))) ∧ w = w' := by
  have ha := Pl.cl_bd a
  have hr := Pl.cl_bd r
  have hg := Pl.cl_bd g
  have hb := Pl.cl_bd b
  have hm := Pl.mkc_bd ha hr hg hb
  unfold Pl.isC Pl.mkc Pl.cl at *
  go_enter Try.func46, Try.ntmps46
  go_wp2
  go_ret
  exact ⟨rfl, rfl⟩

set_option maxHeartbeats 1000000 in
theorem ref_Parts (c : Int) (hc : Pl.isC c) (w : World) :
    Calls Try.prog 45 #[.int .u32 c] w fun e w' => e = .returned (.agg #[.int .i64 (Pl.cA c), .int .i64 (Pl.cR c), .int .i64 (Pl.cG c), .int .i64 (Pl.cB c)]) ∧ Below w.heap.size w w' := by
  obtain ⟨h0, h1⟩ := hc
  go_enter Try.func45, Try.ntmps45
  go_wp2
  go_returns
  exact ⟨rfl, by go_grown⟩

set_option maxHeartbeats 1000000 in
theorem ref_May (c : Int) (hc : Pl.isC c) (w : World) :
    Calls Try.prog 78 #[.int .u32 c] w fun e w' => e = .returned (.bool (Pl.mayc c)) ∧ Below w.heap.size w w' := by
  by_cases h1 : Pl.cR c ≤ Pl.cA c <;> by_cases h2 : Pl.cG c ≤ Pl.cA c <;> by_cases h3 : Pl.cB c ≤ Pl.cA c
  all_goals
    have hm : ∀ b : Bool, (b = true ↔ (Pl.cR c ≤ Pl.cA c ∧ Pl.cG c ≤ Pl.cA c ∧ Pl.cB c ≤ Pl.cA c)) → Ending.returned (.bool b) = .returned (.bool (Pl.mayc c)) := fun b h => by
      refine ret_bool ?_
      rw [Bool.eq_iff_iff, h, Pl.mayc_iff]
    have Hm := Lib.hid hm
    clear hm
    go_enter Try.func78, Try.ntmps78
    go_wp2_with (go_at_call 45; refine (ref_Parts c hc _).mono ?_; rintro e w1 ⟨rfl, hb1⟩)
    go_ret
    exact ⟨Hm.out _ (by simp [*]), by have := hb1.size; go_grown⟩

end Go.Proofs.Ytfnnhjnhccbglaa
