/- Walks: images: inside, Write. -/
import Derived.Test.YtfnnhjnhccbglaaCopy
import Derived.Test.YtfnnhjnhccbglaaRef5
import Derived.Test.YtfnnhjnhccbglaaChunk
import Derived.Test.YtfnnhjnhccbglaaPWrite
namespace Go.Proofs.Ytfnnhjnhccbglaa
open Go.RowKit Go.Shelf

attribute [local go_sem] Oper.semAt_some

/-- v is a slice of bytes that came in, which is only read. -/
structure ArgB (w : World) (v : Value) (B : List Int) : Prop where
  ex : ∃ a cap, v = .slice a B.length cap ∧ B.length ≤ cap ∧ (0 < B.length → ∃ g o, a = some ⟨g, o, none⟩ ∧ g < w.heap.size ∧ ∀ k, k < B.length → w.cell? ⟨g, o + k, none⟩ = some (.int .u8 (gd B k)))
  byte : ∀ c, c ∈ B → 0 ≤ c ∧ c < 256
theorem ArgB.below {w w' : World} {v : Value} {B : List Int} (h : ArgB w v B) (hb : Below w.heap.size w w') : ArgB w' v B := by
  obtain ⟨a, cap, e, hl, hc⟩ := h.ex
  refine ⟨⟨a, cap, e, hl, fun h0 => ?_⟩, h.byte⟩
  obtain ⟨g, o, e1, hg, hk⟩ := hc h0
  exact ⟨g, o, e1, Nat.lt_of_lt_of_le hg hb.size, fun k hk' => (hb.cell (p := ⟨g, o + k, none⟩) hg).trans (hk k hk')⟩

theorem image_inside {w : World} {p b W H : Nat} {L : List Int} (h : Img w p b W H L) (r0 r1 r2 r3 : Int) :
    Calls Try.prog 92 #[.pointer (some ⟨p, 0, none⟩), .agg #[.int .i64 r0, .int .i64 r1, .int .i64 r2, .int .i64 r3]] w fun e w' =>
      e = .returned (.bool (decide (insideR W H ⟨r0, r1, r2, r3⟩))) ∧ Below w.heap.size w w' := by
  have hB := Blk.new w #[.int .i64 r0, .int .i64 r1, .int .i64 r2, .int .i64 r3] 32
  have hW : Below w.heap.size w (w.alloc (.cells #[.int .i64 r0, .int .i64 r1, .int .i64 r2, .int .i64 r3] 32)) := by go_grown
  have hp := h.ltp
  have hb := h.ltb
  have hlt := hB.lt
  by_cases he : (⟨r0, r1, r2, r3⟩ : Pl.R).empty
  · have hd : decide ((⟨r0, r1, r2, r3⟩ : Pl.R).empty) = true := by simpa using he
    have hv : decide (insideR W H ⟨r0, r1, r2, r3⟩) = false := decide_eq_false (fun hi => hi.1 he)
    rw [hv]
    clear he hv
    go_enter Try.func92, Try.ntmps92
    go_wp2_with fail
    generalize w.alloc (.cells #[.int .i64 r0, .int .i64 r1, .int .i64 r2, .int .i64 r3] 32) = V at *
    have hcm := hB.cell
    refine wp_region_quiet (C := fun w' => Below V.heap.size V w') (by kernel_rfl) (by kernel_rfl) (keepN V _) ?_
    refine wpQuiet_step (fun K hK => ?_)
    rw [if_pos (by kernel_rfl)]
    refine ⟨.agg #[.int .i64 r0, .int .i64 r1, .int .i64 r2, .int .i64 r3], fun w' hw' => ?_, hK _ ?_⟩
    · have hc := fun i => (hw'.cell (p := ⟨w.heap.size, i, none⟩) hlt).trans (hcm i)
      simp [go_sem, hc, Oper.quietAt, Oper.quietUpon]
    clear hK K
    refine wpQuiet_step (fun K hK => ?_)
    rw [if_pos (by kernel_rfl)]
    refine ⟨.bool true, fun w' hw' => ?_, hK _ ?_⟩
    · simp [go_sem, Oper.quietAt, Oper.quietUpon]
      exact (rect_Empty_v hd _).mono (fun e w'' ⟨he, hb⟩ => ⟨he, below_of hw' hb⟩)
    clear hK K
    go_simp
    refine wpQuiet_step (fun K hK => ?_)
    rw [if_pos (by kernel_rfl)]
    refine ⟨.bool false, fun w' hw' => (by simp [go_sem, Oper.quietAt, Oper.quietUpon]), hK _ ?_⟩
    clear hK K
    go_simp
    refine wpQuiet_step (fun K hK => ?_)
    rw [if_pos (by kernel_rfl)]
    refine ⟨.bool false, fun w' hw' => (by simp [go_sem, Oper.quietAt, Oper.quietUpon]), hK _ ?_⟩
    clear hK K
    go_simp
    refine BigFrame.wpQuiet_skip (by kernel_rfl) ?_
    go_simp
    refine BigFrame.wpQuiet_skip (by kernel_rfl) ?_
    go_simp
    refine BigFrame.wpQuiet_skip (by kernel_rfl) ?_
    go_simp
    refine BigFrame.wpQuiet_skip (by kernel_rfl) ?_
    go_simp
    refine wpQuiet_step (fun K hK => ?_)
    rw [if_pos (by kernel_rfl)]
    refine ⟨.bool false, fun w' hw' => (by simp [go_sem, Oper.quietAt, Oper.quietUpon]), hK _ ?_⟩
    clear hK K
    go_simp
    refine wpQuiet_step (fun K hK => ?_)
    rw [if_pos (by kernel_rfl)]
    refine ⟨.bool false, fun w' hw' => (by simp [go_sem, Oper.quietAt, Oper.quietUpon]), hK _ ?_⟩
    clear hK K
    go_simp
    refine wpQuiet_nil ?_
    intro w' hw'
    go_wp2
    go_ret
    exact ⟨rfl, below_of hW hw'⟩
  · have hd : decide ((⟨r0, r1, r2, r3⟩ : Pl.R).empty) = false := by simpa using he
    have hv : decide (insideR W H ⟨r0, r1, r2, r3⟩) = decide (Pl.coversR ⟨0, 0, W, H⟩ ⟨r0, r1, r2, r3⟩) := by
      rw [decide_eq_decide]; unfold insideR; exact ⟨fun hi => hi.2, fun hi => ⟨he, hi⟩⟩
    rw [hv]
    clear he hv
    have hI := h.below hW hp hb
    have hpl : p < (w.alloc (.cells #[.int .i64 r0, .int .i64 r1, .int .i64 r2, .int .i64 r3] 32)).heap.size := hI.ltp
    have hbl : b < (w.alloc (.cells #[.int .i64 r0, .int .i64 r1, .int .i64 r2, .int .i64 r3] 32)).heap.size := hI.ltb
    go_enter Try.func92, Try.ntmps92
    go_wp2_with fail
    generalize w.alloc (.cells #[.int .i64 r0, .int .i64 r1, .int .i64 r2, .int .i64 r3] 32) = V at *
    have hcm := hB.cell
    go_region_held3 (fun w' => Below V.heap.size V w' ∧ (∀ b o, b < V.heap.size → w'.cell? ⟨b, o, none⟩ = V.cell? ⟨b, o, none⟩)) ((refine keepS ?_; first | assumption | go_grown))
      ((first | (go_at_call 126; refine (rect_Empty_v hd _).mono ?_; rintro e wz ⟨rfl, hbz⟩; have hWz : Below V.heap.size V wz := below_of (by first | assumption | go_grown) hbz; clear hbz) | (go_at_call 81; refine (image_Box (hI.below (by first | assumption | go_grown) hpl hbl)).mono ?_; rintro e wz ⟨rfl, hbz⟩; have hWz : Below V.heap.size V wz := below_of (by first | assumption | go_grown) hbz; clear hbz) | (go_at_call 128; refine (rect_Covers _ _ _ _ _ _ _ _ _).mono ?_; rintro e wz ⟨rfl, hbz⟩; have hWz : Below V.heap.size V wz := below_of (by first | assumption | go_grown) hbz; clear hbz)))
    all_goals
      go_wp2
      go_ret
      exact ⟨rfl, by first | exact below_of hW hWz | go_grown⟩

theorem set1 {w : World} {r : Nat} {a0 : Value} {T : TypeId} (h : Blk w r #[a0] T) (x : Value) : Blk (w.setCell ⟨r, 0, none⟩ x) r #[x] T ∧ w.grownBy (w.setCell ⟨r, 0, none⟩ x) (some r) :=
  ⟨by simpa using h.set 0 x, grown_set _⟩

theorem rect_Area_v {a b c d v : Int} (hv : Pl.areaR ⟨a, b, c, d⟩ = v) (h : (⟨a, b, c, d⟩ : Pl.R).empty ∨ (c - a ≤ 1073741824 ∧ d - b ≤ 1073741824)) (ha : -1073741824 ≤ a ∧ a ≤ 1073741824 ∧ -1073741824 ≤ b ∧ b ≤ 1073741824 ∧ -1073741824 ≤ c ∧ c ≤ 1073741824 ∧ -1073741824 ≤ d ∧ d ≤ 1073741824) (w : World) :
    Calls Try.prog 86 #[.agg #[.int .i64 a, .int .i64 b, .int .i64 c, .int .i64 d]] w fun e w' => e = .returned (.int .i64 v) ∧ Below w.heap.size w w' := by
  subst hv; exact rect_Area a b c d h ha w

/-- Between two rounds of the loop over the bytes: the colors so far lie in the box at z. -/
structure WI (w : World) (z : Nat) (R : Array Value) (S : Value) (cs : List Int) (W : World) : Prop where
  row : ∃ v, Boxed W z 22 v ∧ W.ownsRow z 30 1 v cs.length (colV cs)
  may : ∀ c, c ∈ cs → Pl.mayc c = true
  rect : Blk W w.heap.size R 32
  err : Blk W (w.heap.size + 1) #[.int .i64 0] 36
  src : Boxed W (z + 1) 33 S
  num : Boxed W (z + 2) 3 (.int .i64 4)
  below : Below w.heap.size w W
  lo : w.heap.size + 2 ≤ z

theorem WI.own {w : World} {z : Nat} {R : Array Value} {S : Value} {cs : List Int} {W W' : World} {row : Option Nat} (h : WI w z R S cs W) (hg : W.grownBy W' row)
    (hr : ∀ r, row = some r → z ≤ r ∧ ∃ o : Obj, W.heap[r]? = some o ∧ o.isCells = false) : WI w z R S cs W' := by
  have ne : ∀ {k : Nat} {c : Array Value} {T : TypeId}, W.heap[k]? = some (.cells c T (0, 0)) → some k ≠ row := fun hk e => by
    obtain ⟨_, o, ho, hc⟩ := hr _ e.symm
    rw [hk] at ho; cases ho; cases hc
  refine ⟨?_, h.may, h.rect.kept hg (ne h.rect), h.err.kept hg (ne h.err), h.src.kept hg (ne h.src), h.num.kept hg (ne h.num), h.below.grown hg h.below.size (fun k e => by have := (hr k e).1; have := h.lo; omega), h.lo⟩
  obtain ⟨v, hv, hrow⟩ := h.row
  refine ⟨v, hv.kept hg (ne hv), hrow.kept hg ?_⟩
  rcases hrow.2 with ⟨rfl, _⟩ | ⟨g, cap, cur, rfl, _, hgb, _⟩
  · exact .inl rfl
  · exact .inr (fun e' => ne hgb (by rw [← e']; simp [Value.ownBlock]))

/-- One color more: behind the append and the store. -/
theorem WI.more {w : World} {z : Nat} {R : Array Value} {S : Value} {cs : List Int} {W w1 : World} {v v' : Value} {c : Int} (h : WI w z R S cs W) (hm : Pl.mayc c = true)
    (hv : Boxed W z 22 v) (hrow : W.ownsRow z 30 1 v cs.length (colV cs)) {tmp : Obj}
    (hown' : w1.ownsRow z 30 1 v' (cs.length + 1) (colV cs ++ [Value.int .u32 c])) (hgrow : (W.alloc tmp).grownBy w1 v.ownBlock) :
    Boxed w1 z 22 v ∧ KeepsOthers W (w1.setCell ⟨z, 0, none⟩ v') ∧ KpC (z + 1) (z + 2) W (w1.setCell ⟨z, 0, none⟩ v') ∧ WI w z R S (cs ++ [c]) (w1.setCell ⟨z, 0, none⟩ v') := by
  have hlt := hv.lt
  obtain ⟨hv1, hv2, hr2, hk2, hb2⟩ := hv.appended (by decide) hrow (by omega) (Nat.le_refl _) hown' hgrow
  have hlo := h.lo
  have s2 := ((h.src.alloc tmp).kept hgrow (h.src.not_row (by decide) hrow)).kept (grownBy_setCell' w1 z v') (by simp)
  have n2 := ((h.num.alloc tmp).kept hgrow (h.num.not_row (by decide) hrow)).kept (grownBy_setCell' w1 z v') (by simp)
  refine ⟨hv1, hk2, ⟨by rw [s2.cell, h.src.cell], by rw [n2.cell, h.num.cell]⟩, ⟨v', hv2, ?_⟩, ?_, h.rect.below hb2 (by omega), h.err.below hb2 (by omega), s2, n2, h.below.trans (hb2.mono (by omega)), hlo⟩
  · rw [List.length_append, List.length_singleton, show colV (cs ++ [c]) = colV cs ++ [Value.int .u32 c] by simp [colV]]; exact hr2
  · intro d hd
    rcases List.mem_append.1 hd with hd | hd
    · exact h.may d hd
    · rw [List.mem_singleton.1 hd]; exact hm

/-- A row is written from a row of colors. -/
theorem row_copy_src {w : World} {p b W H : Nat} {L : List Int} (h : Img w p b W H L) (q1 m g q2 sl : Nat) (f : Nat → Int) (h1 : q1 + m ≤ L.length) (hsl : m ≤ sl) (hc : ∀ j, j < m → w.cell? ⟨g, q2 + j, none⟩ = some (.int .u32 (f (q1 + j)))) (c1 c3 : Nat) :
    (Builtin.copy_ #[22, 22] 3 #[.slice (some ⟨b, q1, none⟩) m c1, .slice (some ⟨g, q2, none⟩) sl c3]).run Try.prog w = .ok (goInt m) (w.setCells b q1 ((List.range' q1 m).map (fun i => .int .u32 (f i)))) := by
  have hl : ((List.range' q1 m).map (fun i => Value.int .u32 (f i))).length = m := by simp
  have := run_copy_cells (P := Try.prog) w 22 22 3 30 b q1 m c1 ⟨g, q2, none⟩ sl c3 ((List.range' q1 m).map (fun i => .int .u32 (f i))) Try.underlying22 (by obtain ⟨i, hi, hz, hsize, hby⟩ := info_parts colInfo; rw [hi]; simp [hsize]) (by rw [hl]; exact (Nat.min_eq_right hsl).symm)
    (fun j v hv => by
      have hj : j < m := by rw [← hl]; exact (List.getElem?_eq_some_iff.1 hv).1
      have ha : (⟨g, q2, none⟩ : Addr).add j = ⟨g, q2 + j, none⟩ := by unfold Addr.add; split <;> simp_all
      rw [ha, hc j hj, ← hv]
      simp [List.getElem?_map, hj])
    (fun j hj => by rw [hl] at hj; rw [h.px (q1 + j) (by omega)]; rfl) (fun j _ => h.free _)
    (fun v hv => by obtain ⟨i, _, rfl⟩ := List.mem_map.1 hv; rfl)
  rwa [hl] at this

theorem grown_new {w W W' : World} {row : Option Nat} {z : Nat} (h : w.grownBy W row) (k : W.grownBy W' (some z)) (hz : w.heap.size ≤ z) : w.grownBy W' row :=
  ⟨k.os.trans h.os, k.tape.trans h.tape, k.output.trans h.output, Nat.le_trans h.size k.size, fun i hi hne => (k.block i (Nat.lt_of_lt_of_le hi h.size) (by simp; omega)).trans (h.block i hi hne)⟩

theorem okN_of {B : List Int} {A : Nat} (h : ∀ c, c ∈ (List.finRange A).map (fun k => wcol B k.val) → Pl.mayc c = true) : okN B A = true := by
  unfold okN
  rw [List.all_eq_true]
  intro k hk
  exact h _ (List.mem_map.2 ⟨⟨k, List.mem_range.1 hk⟩, List.mem_finRange _, rfl⟩)
theorem gd_fin (B : List Int) {A k : Nat} (h : k < A) : gd ((List.finRange A).map (fun k => wcol B k.val)) k = wcol B k := by
  rw [gd_lt (by simpa using h)]
  simp

set_option maxHeartbeats 4000000 in
theorem image_Write {w : World} {p b W H : Nat} {L : List Int} {v : Value} {B : List Int} (h : Img w p b W H L) (hA : ArgB w v B) (r0 r1 r2 r3 : Int) :
    Calls Try.prog 24 #[.pointer (some ⟨p, 0, none⟩), .agg #[.int .i64 r0, .int .i64 r1, .int .i64 r2, .int .i64 r3], v] w fun e w' =>
      e = .returned (.int .i64 (writeE W H ⟨r0, r1, r2, r3⟩ B)) ∧ Img w' p b W H (writeL W H L ⟨r0, r1, r2, r3⟩ B) ∧ w.grownBy w' (some b) := by
  obtain ⟨a, cap, rfl, hcap, hcell⟩ := hA.ex
  have hp := h.ltp
  have hb := h.ltb
  by_cases hin : insideR W H ⟨r0, r1, r2, r3⟩
  · have hd : decide (insideR W H ⟨r0, r1, r2, r3⟩) = true := by simpa using hin
    obtain ⟨X0, Y0, X1, Y1, e, hx, hX, hy, hY⟩ := inside_nat hin
    simp only [Pl.R.mk.injEq] at e
    obtain ⟨rfl, rfl, rfl, rfl⟩ := e
    obtain ⟨A, hA0⟩ : ∃ A, (X1 - X0) * (Y1 - Y0) = A := ⟨_, rfl⟩
    have ha : Pl.areaR ⟨X0, Y0, X1, Y1⟩ = (A : Int) := by rw [area_nat hx hy, hA0]
    have hw2 := h.m.w2
    have hh2 := h.m.h2
    have hA1 : A ≤ 65536 := hA0 ▸ area_le hX hY hw2 hh2
    have e4 : IntKind.i64.wrap (4 * (A : Int)) = ((4 * A : Nat) : Int) := by rw [IntWalk.i64_in _ (by omega)]; omega
    have Ha := Lib.hid ha
    have Hin := Lib.hid hin
    obtain ⟨hB, hR, hW, hz⟩ := two_boxes w #[.int .i64 X0, .int .i64 Y0, .int .i64 X1, .int .i64 Y1] #[.int .i64 0] 32 36
    refine callsIn_wide.1 (callsIn_of_wp_marks (n := 9) Try.func24 rfl trivial ?_ rfl)
    simp only [Try.ntmps24, List.size_toArray, List.length_cons, List.length_nil, Nat.reduceAdd, Nat.reduceSub, Array.replicate_succ, Array.replicate_zero, List.push_toArray, List.append_toArray, List.nil_append, List.cons_append]
    refine wpIn_wide.2 ?_
    go_wp2_with fail
    generalize hV : (w.alloc (.cells #[.int .i64 X0, .int .i64 Y0, .int .i64 X1, .int .i64 Y1] 32)).alloc (.cells #[.int .i64 0] 36) = V at *
    clear hV
    refine (image_inside (h.below hW hp hb) X0 Y0 X1 Y1).mono ?_
    rintro e V1 ⟨rfl, hb1⟩
    have hB := Blk.next hb1 hB
    have hR := Blk.next hb1 hR
    have hW := below_of hW hb1
    have hz1 := hb1.size
    clear hb1
    have hcm := hB.cell
    have hfr := hR.free
    have hcr := hR.cell
    rw [hd]
    clear ha hin
    go_wp2_with fail
    refine (rect_Area_v Ha.out (.inr ⟨by omega, by omega⟩) (by omega) _).mono ?_
    rintro e V2 ⟨rfl, hb2⟩
    have hB := Blk.next hb2 hB
    have hR := Blk.next hb2 hR
    have hW := below_of hW hb2
    have hz2 := hb2.size
    clear hb2 hcm hfr hcr
    have hcm := hB.cell
    have hfr := hR.free
    have hcr := hR.cell
    by_cases hs : B.length < 4 * A
    · have hE := writeE_short (B := B) Hin.out (by rw [Ha.out]; omega)
      have hL : writeL W H L ⟨X0, Y0, X1, Y1⟩ B = L := writeL_ne hE (by decide)
      go_wp2_with fail
      obtain ⟨hR4, hg4⟩ := set1 hR (.int .i64 3)
      have hr4 := hR4.cell
      have hW4 := hW.setCell (p := ⟨w.heap.size + 1, 0, none⟩) (by simp) (.int .i64 3)
      exact ⟨.int .i64 3, by simp [results, Try.results24, go_sem, hr4], ret_int hE.symm, by rw [hL]; exact h.below hW4 hp hb, grown_of hW4 _⟩
    · go_wp2_with fail
      refine (rect_Area_v Ha.out (.inr ⟨by omega, by omega⟩) (by omega) _).mono ?_
      rintro e V3 ⟨rfl, hb3⟩
      have hB := Blk.next hb3 hB
      have hR := Blk.next hb3 hR
      have hW := below_of hW hb3
      have hz3 := hb3.size
      clear hb3 hcm hfr hcr
      have hcm := hB.cell
      have hfr := hR.free
      have hcr := hR.cell
      by_cases hl : 4 * A < B.length
      · have hE := writeE_long (B := B) Hin.out (by rw [Ha.out]; omega)
        have hL : writeL W H L ⟨X0, Y0, X1, Y1⟩ B = L := writeL_ne hE (by decide)
        go_wp2_with fail
        obtain ⟨hR4, hg4⟩ := set1 hR (.int .i64 2)
        have hr4 := hR4.cell
        have hW4 := hW.setCell (p := ⟨w.heap.size + 1, 0, none⟩) (by simp) (.int .i64 2)
        exact ⟨.int .i64 2, by simp [results, Try.results24, go_sem, hr4], ret_int hE.symm, by rw [hL]; exact h.below hW4 hp hb, grown_of hW4 _⟩
      · have hBl : B.length = 4 * A := by omega
        go_wp2_with fail
        have hA2 : 0 < A := by rw [← hA0]; exact Nat.mul_pos (by omega) (by omega)
        obtain ⟨g, o, rfl, hg, hbytes⟩ := hcell (by omega)
        have hzV := hW.size
        refine (chunk _ _ _ _).mono ?_
        rintro e V5 ⟨rfl, rfl⟩
        obtain ⟨z, hzz⟩ : ∃ z, V3.heap.size = z := ⟨_, rfl⟩
        have hlo : w.heap.size + 2 ≤ z := by have := hR.lt; omega
        have hW0 : WI w z #[.int .i64 X0, .int .i64 Y0, .int .i64 X1, .int .i64 Y1] (.slice (some ⟨g, o, none⟩) (4 * A) cap) [] (((V3.alloc (.cells #[.slice none 0 0] 22)).alloc (.cells #[.slice (some ⟨g, o, none⟩) (4 * A) cap] 33)).alloc (.cells #[.int .i64 4] 3)) := by
          have b1 := Boxed.new V3 22 (.slice none 0 0)
          have b2 := Boxed.new (V3.alloc (.cells #[.slice none 0 0] 22)) 33 (.slice (some ⟨g, o, none⟩) (4 * A) cap)
          have b3 := Boxed.new ((V3.alloc (.cells #[.slice none 0 0] 22)).alloc (.cells #[.slice (some ⟨g, o, none⟩) (4 * A) cap] 33)) 3 (.int .i64 4)
          simp only [World.size_alloc, hzz] at b1 b2 b3
          exact ⟨⟨_, (b1.alloc _).alloc _, own_nil _ _ _ _⟩, by simp, ((hB.alloc _).alloc _).alloc _, ((hR.alloc _).alloc _).alloc _, b2.alloc _, b3, ((hW.alloc (by omega) _).alloc (by simp; omega) _).alloc (by simp; omega) _, hlo⟩
        have hsz : (((V3.alloc (.cells #[.slice none 0 0] 22)).alloc (.cells #[.slice (some ⟨g, o, none⟩) (4 * A) cap] 33)).alloc (.cells #[.int .i64 4] 3)).heap.size = z + 3 := by simp [hzz]
        rw [World.size_alloc, hzz]
        generalize ((V3.alloc (.cells #[.slice none 0 0] 22)).alloc (.cells #[.slice (some ⟨g, o, none⟩) (4 * A) cap] 33)).alloc (.cells #[.int .i64 4] 3) = V5 at *
        clear hcell hB hR hcm hfr hcr
        go_wp2_with fail
        refine (wpIn_wide (n := 9)).1 ?_
        apply wpIn_rangeFunc_ownF (F := Fence.wide) (n := 9) rfl (by omega) (gf := 129) (lb := #[.pointer (some ⟨z + 1, 0, none⟩), .pointer (some ⟨z + 2, 0, none⟩)]) rfl trivial (enters_of Try.func129 (by kernel_rfl) rfl)
          (chunk_stops 8 (by omega) (z + 1) (z + 2) g o A cap (by omega) (by omega) V5 (by omega) (by omega) hW0.src.cell hW0.num.cell) (fun h k => h.trans k)
          (fun W l o1 o' hl _ _ _ => ⟨World.cell?_of_block (w := W) (World.putObj_heap_other (by dsimp only; omega)), World.cell?_of_block (w := W) (World.putObj_heap_other (by dsimp only; omega))⟩) (Below.refl _ _) (fun _ => rfl)
          (fun pre W => WI w z #[.int .i64 X0, .int .i64 Y0, .int .i64 X1, .int .i64 Y1] (.slice (some ⟨g, o, none⟩) (4 * A) cap) (pre.map fun k => wcol B k.val) W)
          (fun c pre W => c = .ret ∧ (∃ k, k ∈ pre ∧ Pl.mayc (wcol B k.val) = false) ∧ Blk W (w.heap.size + 1) #[.int .i64 1] 36 ∧ Below w.heap.size w W)
          (fun s W W' row hs hg hr => hs.own hg (fun r e => ⟨by have := (hr r e).1; omega, (hr r e).2⟩))
          (fun c s W W' row hs hg hr => ⟨hs.1, hs.2.1, hs.2.2.1.kept hg (fun e => by have := (hr _ e.symm).1; omega), hs.2.2.2.grown hg hs.2.2.2.size (fun k e => by have := (hr k e).1; omega)⟩)
          hW0
        case hassign =>
          intro l x W K hK
          gi_wp2
          exact hK
        case hbody =>
          intro l pre x W hi hlen
          have hxA := x.isLt
          have hby : ∀ j, j < 4 → W.cell? ⟨g, o + 4 * x.val + j, none⟩ = some (.int .u8 (gd B (4 * x.val + j))) ∧ IntKind.i64.wrap (gd B (4 * x.val + j)) = gd B (4 * x.val + j) := fun j hj => by
            have := hbytes (4 * x.val + j) (by omega)
            rw [← Nat.add_assoc] at this
            have hr := hA.byte _ (gd_mem' (show 4 * x.val + j < B.length by omega))
            exact ⟨(hi.below.cell (p := ⟨g, o + 4 * x.val + j, none⟩) hg).trans this, IntWalk.i64_in _ (by omega)⟩
          obtain ⟨c0, w0⟩ := hby 0 (by omega)
          obtain ⟨c1, w1⟩ := hby 1 (by omega)
          obtain ⟨c2, w2⟩ := hby 2 (by omega)
          obtain ⟨c3, w3⟩ := hby 3 (by omega)
          clear hby
          have hwc : wcol B x.val = Pl.mkc (Pl.cl (gd B (4 * x.val + 0))) (Pl.cl (gd B (4 * x.val + 1))) (Pl.cl (gd B (4 * x.val + 2))) (Pl.cl (gd B (4 * x.val + 3))) := rfl
          have hci := wcol_isC B x.val
          have Hm := Lib.hid (show x.val = x.val from rfl)
          rw [Nat.add_zero (o + 4 * x.val)] at c0
          generalize gd B (4 * x.val + 0) = v0 at *
          generalize gd B (4 * x.val + 1) = v1 at *
          generalize gd B (4 * x.val + 2) = v2 at *
          generalize gd B (4 * x.val + 3) = v3 at *
          generalize o + 4 * x.val = q at *
          have hmk : ∀ wq, Calls Try.prog 94 #[.int .i64 v0, .int .i64 v1, .int .i64 v2, .int .i64 v3] wq fun e w' => e = .returned (.int .u32 (wcol B x.val)) ∧ w' = wq := fun wq => by
            rw [hwc]
            exact (color_Make v0 v1 v2 v3 wq).mono (fun e w' ⟨he, hw⟩ => ⟨he, hw.symm⟩)
          gi_wp2
          refine region_round_lit (by kernel_rfl) (by kernel_rfl) (by kernel_rfl) ?_
          repeat (go_big_quiet_step (exact Calls.quiet_of_same (hmk _)))
          refine wpQuiet_nil ?_
          rintro wd ⟨nq, rfl⟩
          clear hmk
          have gd : W.grownBy (W.drewN nq) none := ⟨rfl, rfl, rfl, Nat.le_refl _, fun _ _ _ => rfl⟩
          generalize W.drewN nq = Wd at *
          have hi0 := hi
          have hi := hi.own gd (by simp)
          generalize hwx : wcol B x.val = cx at *
          clear c0 c1 c2 c3 w0 w1 w2 w3 hwc
          gi_wp2_with fail
          refine ⟨trivial, (CallsIn.inRound l (callsIn_wide.2 (color_May cx hci _))).mono ?_⟩
          rintro e w1 ⟨rfl, hb1⟩
          have gd := gd.trans (grown_of hb1 none)
          have hi := hi.own (grown_of hb1 none) (by simp)
          have ko := KeepsOthers.of_grownBy gd (by simp)
          have kp : KpC (z + 1) (z + 2) W w1 := ⟨(cell_grown gd hi0.src.cell (by simp)).trans hi0.src.cell.symm, (cell_grown gd hi0.num.cell (by simp)).trans hi0.num.cell.symm⟩
          by_cases hm : Pl.mayc cx = true
          · rw [hm]
            obtain ⟨v, hv, hrow⟩ := hi.row
            have hvc := hv.cell
            have hz1 := hv.lt
            have hcl : (pre.map fun k => wcol B k.val).length = pre.length := by simp
            obtain ⟨i0, hi1, hz0, hz2, hz3⟩ := info_parts colInfo
            gi_wp2_with (gi_at_builtin; go_loud (refine wpListIn_append_own _ rfl _ _ 22 rfl z 30 i0 (.int .u32 0) 1 4 Try.underlying22 hi1 hz0 hz2 hz3 rfl (by decide) _ _ _ rfl (hrow.alloc _) ⟨w1.heap.size, 0, none⟩ 1 1 [.int .u32 cx] rfl rfl (cell_one_new _ _ _) (by simp [Value.oneCell']) (by simp [maxLen]; omega) (by rw [hcl]; omega) (by simp; omega) ?_; intro v' w2 hown' hgrow _; obtain ⟨g', cap', rfl⟩ := ownsRow_succ hown'; obtain ⟨m0, m1, m2, m3⟩ := hi.more hm hv hrow hown' hgrow; have hm1 := m0.cell; have hm2 := m0.frozen))
            rw [hcl] at m1 m2 m3
            have e : (pre ++ [x]).map (fun k => wcol B k.val) = pre.map (fun k => wcol B k.val) ++ [cx] := by rw [List.map_append, List.map_singleton, hwx]
            exact ⟨ko.trans m1, kp.trans m2, (by dsimp only; rw [e]; exact m3)⟩
          · have hm : Pl.mayc cx = false := by simpa using hm
            rw [hm]
            have her := hi.err.free
            have hec := hi.err.cell
            gi_wp2_with fail
            obtain ⟨hR4, hg4⟩ := set1 hi.err (.int .i64 1)
            exact ⟨ko.trans (KeepsOthers.setCell _ _ _), rfl, ⟨x, by simp, by rw [hwx]; exact hm⟩, hR4, hi.below.setCell (p := ⟨w.heap.size + 1, 0, none⟩) (by simp) (.int .i64 1)⟩
        case hstop =>
          rintro D c pre W hD hpre ⟨rfl, ⟨k, hkin, hmk⟩, hR4, hW4⟩ hK
          have hE := writeE_arg (B := B) Hin.out Ha.out hBl (okN_no k.isLt hmk)
          have hL : writeL _ H L ⟨X0, Y0, X1, Y1⟩ B = L := writeL_ne hE (by decide)
          have hW5 := hW4.grown (grownBy_putObj' W D (.deferred none)) hW4.size (fun k e => by cases e; omega)
          have hR5 := hR4.kept (grownBy_putObj' W D (.deferred none)) (by simp; omega)
          have hr5 := hR5.cell
          dsimp only
          gi_wp2
          refine ⟨by simp, .inl ⟨_, _, rfl, run_takeDeferred hK, ?_⟩⟩
          exact ⟨.int .i64 1, by simp [results, Try.results24, go_sem, hr5], ret_int hE.symm, by rw [hL]; exact h.below hW5 hp hb, grown_of hW5 _⟩
        case hdone =>
          rintro D xs Wd hD rfl hi hK
          have hok := okN_of hi.may
          have hE := writeE_ok (B := B) Hin.out Ha.out hBl hok
          obtain ⟨m, hm⟩ : ∃ m, X1 - X0 = m := ⟨_, rfl⟩
          have hL := writeL_rows (L := L) (B := B) hm hx hy hE
          have HE := Lib.hid hE
          have HL := Lib.hid hL
          have HA := Lib.hid hA0
          clear hE hL hA0
          obtain ⟨v, hv, hrow⟩ := hi.row
          have hcl : ((List.finRange A).map fun k => wcol B k.val).length = A := by simp
          rw [hcl] at hrow
          obtain ⟨g1, c1, rfl, hzg, hg1⟩ := hrow.form hA2
          have hcells : ∀ k, k < A → Wd.cell? ⟨g1, k, none⟩ = some (.int .u32 (wcol B k)) := fun k hk => by
            rw [← gd_fin B hk]; exact own_getD hrow hcl.symm k (by rw [hcl]; exact hk)
          have hc1 : A ≤ c1 := by
            rcases hrow.2 with ⟨e, _⟩ | ⟨_, _, _, e, _, _, h4, _⟩
            · cases e
            · cases e; exact h4
          have hzg1 : ¬ z = g1 := fun e => hv.not_row (by decide) hrow (by rw [e]; rfl)
          have hbg1 : ¬ g1 = b := by omega
          have hI := h.below hi.below hp hb
          rw [show L = putL L (copyQ W Y0 X0 X1 X0 Y0 Y0) (fun i => wcol B (wIx W X0 Y0 m i)) from (putL_false (fun i hi => by unfold copyQ; rw [decide_eq_false_iff_not]; omega)).symm] at hI
          have hBr := hi.rect
          have hRr := hi.err
          have hGr := grown_of hi.below (some b)
          have hsm := h.small
          have Hlen := Lib.hid h.len
          have hcm := hBr.cell
          have hDlt : D < Wd.heap.size := (Array.getElem?_eq_some_iff.1 hK).1
          clear hi hrow hW0
          dsimp only
          go_wp2_with fail
          clear hcm
          go_loopw [10] (fun y wr => ∃ (yy q cc : Nat) (ad : Option Addr), Y0 ≤ yy ∧ yy ≤ Y1 ∧ (yy - Y0) * m = q ∧ y = .int .i64 yy ∧ Img wr p b W H (putL L (copyQ W Y0 X0 X1 X0 Y0 yy) (fun i => wcol B (wIx W X0 Y0 m i))) ∧
            Blk wr w.heap.size #[.int .i64 X0, .int .i64 Y0, .int .i64 X1, .int .i64 Y1] 32 ∧ Blk wr (w.heap.size + 1) #[.int .i64 0] 36 ∧ Boxed wr z 22 (.slice ad (A - q) cc) ∧ (q < A → ad = some ⟨g1, q, none⟩) ∧ A - q ≤ cc ∧
            (∀ k, k < A → wr.cell? ⟨g1, k, none⟩ = some (.int .u32 (wcol B k))) ∧ wr.heap[D]? = some (.deferred (some [])) ∧ w.grownBy wr (some b)) (fun y _ => Y1 - (intOf y).toNat)
          case atStart => exact ⟨Y0, 0, c1, some ⟨g1, 0, none⟩, Nat.le_refl _, by omega, by simp, rfl, hI, hBr, hRr, hv, fun _ => rfl, hc1, hcells, hK, hGr⟩
          case round =>
            clear hI hBr hRr hGr hv hc1 hcells hK
            obtain ⟨y, q, cc, ad, hy0, hy1, hq, rfl, hI, hBr, hRr, hv, had, hcc, hcells, hK, hGr⟩ := hrel
            have hcm := hBr.cell
            by_cases hlt : y < Y1
            · have hqm : q + m ≤ A := by
                rw [← HA.out, hm, ← hq]
                have := Nat.mul_le_mul_left m (show y - Y0 + 1 ≤ Y1 - Y0 by omega)
                rw [Nat.mul_add, Nat.mul_one, Nat.mul_comm m (y - Y0)] at this
                exact this
              have hq2 : (y + 1 - Y0) * m = q + m := by rw [← hq, show y + 1 - Y0 = (y - Y0) + 1 by omega, Nat.add_mul, Nat.one_mul]
              obtain rfl := had (by omega)
              obtain ⟨q1, hq1⟩ : ∃ q1, y * W + X0 = q1 := ⟨_, rfl⟩
              have hq1l : q1 + m ≤ L.length := by
                rw [Hlen.out]
                have := Nat.mul_le_mul_right W (show y + 1 ≤ H by omega)
                rw [Nat.add_mul, Nat.one_mul, Nat.mul_comm H W] at this
                omega
              have hff : ∀ j, j < m → wcol B (wIx W X0 Y0 m (q1 + j)) = wcol B (q + j) := fun j hj => by
                rw [← hq1, wIx_row hm hX hy0 hj, hq]
              have hfc : ∀ j, j < m → Pl.isC (wcol B (wIx W X0 Y0 m (q1 + j))) ∧ Pl.mayc (wcol B (wIx W X0 Y0 m (q1 + j))) = true := fun j hj => by
                rw [hff j hj]
                exact ⟨wcol_isC _ _, by have := okN_le (k := q + j + 1) hok (by omega); rw [okN_succ, Bool.and_eq_true] at this; exact this.2⟩
              have hcp := row_copy_src hI.drew.drew q1 m g1 q (A - q) (fun i => wcol B (wIx W X0 Y0 m i)) (by simpa [putL_length] using hq1l) (by omega) (fun j hj => by rw [hff j hj]; exact hcells (q + j) (by omega))
              have hI2 := img_putCells (Q := copyQ W Y0 X0 X1 X0 Y0 (y + 1)) m q1 hI.drew.drew hq1l hfc (fun i hi => by rw [copyQ_step (by omega) hy0, show Y0 + (y - Y0) = y by omega, hq1, hm])
              have hg2 := grown_setCells (b := b) ((List.range' q1 m).map (fun i => Value.int .u32 (wcol B (wIx W X0 Y0 m i)))) q1 wr.drew.drew
              have hBr2 := (hBr.drew.drew).kept hg2 (by simp; omega)
              have hRr2 := (hRr.drew.drew).kept hg2 (by simp; omega)
              have hv2 := Boxed.kept (W := wr.drew.drew) hv hg2 (by simp; omega)
              have hcells2 : ∀ k, k < A → (wr.drew.drew.setCells b q1 ((List.range' q1 m).map (fun i => Value.int .u32 (wcol B (wIx W X0 Y0 m i))))).cell? ⟨g1, k, none⟩ = some (.int .u32 (wcol B k)) := fun k hk => cell_grown hg2 (hcells k hk) (by simp; omega)
              have hK2 := (hg2.block D (Array.getElem?_eq_some_iff.1 hK).1 (by simp; omega)).trans hK
              have hG2 := ((hGr.trans (grown_drew _ _)).trans (grown_drew _ _)).trans hg2
              have hcm2 := hBr2.cell
              have hvc := hv.cell
              have hvc2 := hv2.cell
              have hvf2 := hv2.frozen
              generalize (List.range' q1 m).map (fun i => Value.int .u32 (wcol B (wIx W X0 Y0 m i))) = cs at *
              have hr1 := image_row_m hI.drew y X0 X1 m hq1 (by omega) (by omega) (by omega) hX
              have HALL := Lib.hid (And.intro hI2 (And.intro hBr2 (And.intro hRr2 (And.intro hv2 (And.intro hcells2 (And.intro hK2 hG2))))))
              have HR1 := Lib.hid hr1
              have hyb : y + 1 ≤ Y1 ∧ Y1 ≤ 256 := by omega
              have hb1 : m ≤ A - q ∧ m ≤ 256 ∧ 0 < m := by omega
              clear hff hfc hq1l hg2 hI hBr hRr hv hcells hK hGr hI2 hBr2 hRr2 hv2 hcells2 hK2 hG2 hr1 hbytes
              go_wp2_with fail
              go_region_held3 (fun w' => (∀ i, w'.cell? ⟨w.heap.size, i, none⟩ = (#[.int .i64 X0, .int .i64 Y0, .int .i64 X1, .int .i64 Y1] : Array Value)[i]?) ∧ w'.cell? ⟨z, 0, none⟩ = some (.slice (some ⟨g1, q, none⟩) (A - q) cc)) ((exact ⟨by assumption, by assumption⟩)) ((first
                | (go_at_call 85; with_reducible refine (HR1.out).mono ?_; rintro e wz ⟨⟨cpa, rfl⟩, rfl⟩)
                | ((with_reducible refine wpList_copy_run (o := ⟨some 74, _, _, _, _, _⟩) _ ?g1 (.tmp 72) (.tmp 73) 22 22 ?g2 (.slice (some ⟨b, q1, none⟩) m cpa) (.slice (some ⟨g1, q, none⟩) (A - q) cc) ?g3 ?g4 (hcp cpa cc) ?g5); (case g1 => rfl); (case g2 => rfl); (case g3 => rfl); (case g4 => rfl))))
              all_goals
                obtain ⟨hI2, hBr2, hRr2, hv2, hcells2, hK2, hG2⟩ := HALL.out
                have F : ∀ v' : Value, Img ((wr.drew.drew.setCells b q1 cs).setCell ⟨z, 0, none⟩ v') p b W H (putL L (copyQ W Y0 X0 X1 X0 Y0 (y + 1)) (fun i => wcol B (wIx W X0 Y0 m i))) ∧
                    Blk ((wr.drew.drew.setCells b q1 cs).setCell ⟨z, 0, none⟩ v') w.heap.size #[.int .i64 X0, .int .i64 Y0, .int .i64 X1, .int .i64 Y1] 32 ∧ Blk ((wr.drew.drew.setCells b q1 cs).setCell ⟨z, 0, none⟩ v') (w.heap.size + 1) #[.int .i64 0] 36 ∧
                    Boxed ((wr.drew.drew.setCells b q1 cs).setCell ⟨z, 0, none⟩ v') z 22 v' ∧ (∀ k, k < A → ((wr.drew.drew.setCells b q1 cs).setCell ⟨z, 0, none⟩ v').cell? ⟨g1, k, none⟩ = some (.int .u32 (wcol B k))) ∧
                    ((wr.drew.drew.setCells b q1 cs).setCell ⟨z, 0, none⟩ v').heap[D]? = some (.deferred (some [])) ∧ w.grownBy ((wr.drew.drew.setCells b q1 cs).setCell ⟨z, 0, none⟩ v') (some b) := fun v' => by
                  have hg3 := grown_set (w := wr.drew.drew.setCells b q1 cs) (b := z) (i := 0) v'
                  refine ⟨hI2.of_blocks (hg3.block p hI2.ltp (by simp; omega)) (hg3.block b hI2.ltb (by simp; omega)), hBr2.kept hg3 (by simp; omega), hRr2.kept hg3 (by simp; omega), hv2.set v', fun k hk => cell_grown hg3 (hcells2 k hk) (by simp; omega), (hg3.block D (Array.getElem?_eq_some_iff.1 hK2).1 (by simp; omega)).trans hK2, grown_new hG2 hg3 (by omega)⟩
                clear hI2 hBr2 hRr2 hv2 hcells2 hK2 hG2 hcm hvc
                have hm3 : (m : Int) ≤ ((A - q : Nat) : Int) := by omega
                have hm4 : ((A - q : Nat) : Int) ≤ (cc : Int) := by omega
                by_cases hcm2 : cc = m
                · subst hcm2
                  go_wp2_with fail
                  go_roundw
                  case rel => exact ⟨y + 1, q + cc, 0, some ⟨g1, q, none⟩, by omega, by omega, hq2, by go_num, (F _).1, (F _).2.1, (F _).2.2.1, by rw [show A - (q + cc) = 0 by omega]; exact (F _).2.2.2.1, fun h => (by omega), by omega, (F _).2.2.2.2.1, (F _).2.2.2.2.2.1, (F _).2.2.2.2.2.2⟩
                  case measure => simp [intOf]; omega
                · go_wp2_with fail
                  go_roundw
                  case rel => exact ⟨y + 1, q + m, _, _, by omega, by omega, hq2, by go_num, (F _).1, (F _).2.1, (F _).2.2.1, by rw [← Nat.sub_sub]; exact (F _).2.2.2.1, fun h => rfl, by omega, (F _).2.2.2.2.1, (F _).2.2.2.2.2.1, (F _).2.2.2.2.2.2⟩
                  case measure => simp [intOf]; omega
            · obtain rfl : y = Y1 := by omega
              have hfr := hRr.free
              have hcr := hRr.cell
              go_wp2_with fail
              obtain ⟨hR4, hg4⟩ := set1 hRr (.int .i64 0)
              have hK4 := (hg4.block D (Array.getElem?_eq_some_iff.1 hK).1 (by simp; omega)).trans hK
              have hg5 := grownBy_putObj' (wr.setCell ⟨w.heap.size + 1, 0, none⟩ (.int .i64 0)) D (.deferred none)
              have hR5 := hR4.kept hg5 (by simp; omega)
              have hr5 := hR5.cell
              have hI4 := hI.of_blocks (hg4.block p hI.ltp (by simp; omega)) (hg4.block b hI.ltb (by simp; omega))
              have hI5 := hI4.of_blocks (hg5.block p hI4.ltp (by simp; omega)) (hg5.block b hI4.ltb (by simp; omega))
              refine ⟨by simp, .inl ⟨_, _, rfl, run_takeDeferred hK4, ?_⟩⟩
              exact ⟨.int .i64 0, by simp [results, Try.results24, go_sem, hr5], ret_int HE.out.symm, by rw [HL.out]; exact hI5, grown_new (grown_new hGr hg4 (by omega)) hg5 (by omega)⟩
  · have hd : decide (insideR W H ⟨r0, r1, r2, r3⟩) = false := by simpa using hin
    have hE := writeE_out (B := B) hin
    have hL : writeL W H L ⟨r0, r1, r2, r3⟩ B = L := writeL_ne hE (by decide)
    obtain ⟨hB, hR, hW, hz⟩ := two_boxes w #[.int .i64 r0, .int .i64 r1, .int .i64 r2, .int .i64 r3] #[.int .i64 0] 32 36
    refine callsIn_wide.1 (callsIn_of_wp_marks (n := 9) Try.func24 rfl trivial ?_ rfl)
    simp only [Try.ntmps24, List.size_toArray, List.length_cons, List.length_nil, Nat.reduceAdd, Nat.reduceSub, Array.replicate_succ, Array.replicate_zero, List.push_toArray, List.append_toArray, List.nil_append, List.cons_append]
    refine wpIn_wide.2 ?_
    go_wp2_with fail
    generalize hV : (w.alloc (.cells #[.int .i64 r0, .int .i64 r1, .int .i64 r2, .int .i64 r3] 32)).alloc (.cells #[.int .i64 0] 36) = V at *
    clear hV
    refine (image_inside (h.below hW hp hb) r0 r1 r2 r3).mono ?_
    rintro e V1 ⟨rfl, hb1⟩
    have hB := Blk.next hb1 hB
    have hR := Blk.next hb1 hR
    have hW := below_of hW hb1
    have hz1 := hb1.size
    clear hb1
    have hcm := hB.cell
    have hfr := hR.free
    have hcr := hR.cell
    rw [hd]
    go_wp2_with fail
    obtain ⟨hR4, hg4⟩ := set1 hR (.int .i64 4)
    have hr4 := hR4.cell
    have hW4 := hW.setCell (p := ⟨w.heap.size + 1, 0, none⟩) (by simp) (.int .i64 4)
    exact ⟨.int .i64 4, by simp [results, Try.results24, go_sem, hr4], ret_int hE.symm, by rw [hL]; exact h.below hW4 hp hb, grown_of hW4 _⟩

end Go.Proofs.Ytfnnhjnhccbglaa
