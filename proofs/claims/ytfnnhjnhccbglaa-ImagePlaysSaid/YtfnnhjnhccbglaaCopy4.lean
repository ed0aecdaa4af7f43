/- Walks: the document's Copy. -/
import Derived.Test.YtfnnhjnhccbglaaFill4
import Derived.Test.YtfnnhjnhccbglaaPCopy
namespace Go.Proofs.Ytfnnhjnhccbglaa
open Go.RowKit

/-- Four boxes: what the walk reads. -/
theorem four_boxes (w : World) (cs ds es fs : Array Value) (T U X Y : TypeId) : Blk ((((w.alloc (.cells cs T)).alloc (.cells ds U)).alloc (.cells es X)).alloc (.cells fs Y)) w.heap.size cs T ∧ Blk ((((w.alloc (.cells cs T)).alloc (.cells ds U)).alloc (.cells es X)).alloc (.cells fs Y)) (w.heap.size + 1) ds U ∧
    Blk ((((w.alloc (.cells cs T)).alloc (.cells ds U)).alloc (.cells es X)).alloc (.cells fs Y)) (w.heap.size + 2) es X ∧ Blk ((((w.alloc (.cells cs T)).alloc (.cells ds U)).alloc (.cells es X)).alloc (.cells fs Y)) (w.heap.size + 3) fs Y ∧
    Below w.heap.size w ((((w.alloc (.cells cs T)).alloc (.cells ds U)).alloc (.cells es X)).alloc (.cells fs Y)) ∧ ((((w.alloc (.cells cs T)).alloc (.cells ds U)).alloc (.cells es X)).alloc (.cells fs Y)).heap.size = w.heap.size + 4 := by
  obtain ⟨h1, h2, h3, h4, h5⟩ := three_boxes w cs ds es T U X
  refine ⟨h1.alloc _, h2.alloc _, h3.alloc _, ?_, by go_grown, by simp⟩
  have := Blk.new (((w.alloc (.cells cs T)).alloc (.cells ds U)).alloc (.cells es X)) fs Y
  rwa [h5] at this

theorem ref04_At_v {w : World} {v : Value} {W H : Nat} {L : List Int} (h : RM w v W H L) {x y c : Int} {s : Bool} (hc : pxo W H L x y = c) (hs : decide (inBox W H x y) = s) :
    Calls Try.prog 77 #[.agg #[.int .i64 W, .int .i64 H, v], .int .i64 x, .int .i64 y] w fun e w' => e = .returned (.tuple #[.int .u32 c, .bool s]) ∧ Below w.heap.size w w' := by
  subst hc hs; exact ref04_At h x y

set_option maxHeartbeats 4000000 in
theorem ref04_Copy {w : World} {v v2 : Value} {W H W2 H2 : Nat} {L L2 : List Int} (h : RM w v W H L) (h2 : RM w v2 W2 H2 L2) (a b c d dx dy : Int) :
    Calls Try.prog 21 #[.agg #[.int .i64 W, .int .i64 H, v], .agg #[.int .i64 W2, .int .i64 H2, v2], .agg #[.int .i64 a, .int .i64 b, .int .i64 c, .int .i64 d], .int .i64 dx, .int .i64 dy] w (RetMN W H (copyL W L W2 H2 L2 ⟨a, b, c, d⟩ dx dy) (copyN W L W2 H2 ⟨a, b, c, d⟩ dx dy) v w) := by
  have h0 := h
  obtain ⟨g, cap, rfl, hg, k1, k2, hcells⟩ := h.form
  clear hcells
  obtain ⟨hB, hE, hD, hR, hW, hz⟩ := four_boxes w #[.int .i64 W, .int .i64 H, .slice (some ⟨g, 0, none⟩) L.length cap] #[.int .i64 W2, .int .i64 H2, v2] #[.int .i64 a, .int .i64 b, .int .i64 c, .int .i64 d] #[.int .i64 0, .int .i64 0, .slice none 0 0] 25 25 32 25
  have bx := clampF_bd dx
  have bY := clampF_bd dy
  have hmM : IsM W H (copyL W L W2 H2 L2 ⟨a, b, c, d⟩ dx dy) := by
    unfold copyL
    exact h0.m.putL (fun i _ hi => by
      unfold copyP at hi
      have hi := (of_decide_eq_true hi).1
      obtain ⟨q1, q2, q3, q4⟩ := at_lt hi h2.m.len
      exact h2.m.col _ (gd_mem' (by omega)))
  unfold copyN copyL at *
  generalize hdx : clampF dx = ex at *
  generalize hdy : clampF dy = ey at *
  have e1 : min (max dx (-1048576)) 1048576 = ex := by rw [← hdx]; rfl
  have e2 : min (max dy (-1048576)) 1048576 = ey := by rw [← hdy]; rfl
  clear hdx hdy
  have hL : putL L (copyP W W2 H2 ⟨a, b, c, d⟩ ex ey) (copyF W W2 L2 ex ey) = takeF (fun i => if copyP W W2 H2 ⟨a, b, c, d⟩ ex ey i = true then copyF W W2 L2 ex ey i else gd L i) L.length := rfl
  rw [hL] at hmM ⊢
  clear hL
  obtain ⟨f, hf⟩ : ∃ f : Nat → Int, (fun i => if copyP W W2 H2 ⟨a, b, c, d⟩ ex ey i = true then copyF W W2 L2 ex ey i else gd L i) = f := ⟨_, rfl⟩
  rw [hf] at hmM ⊢
  have Hf := Lib.hid hf
  clear hf
  go_enter Try.func21, Try.ntmps21
  go_wp2_with fail
  generalize hV : (((w.alloc (.cells #[.int .i64 W, .int .i64 H, .slice (some ⟨g, 0, none⟩) L.length cap] 25)).alloc (.cells #[.int .i64 W2, .int .i64 H2, v2] 25)).alloc (.cells #[.int .i64 a, .int .i64 b, .int .i64 c, .int .i64 d] 32)).alloc (.cells #[.int .i64 0, .int .i64 0, .slice none 0 0] 25) = V at *
  clear hV e1 e2
  go_loopw [12, 13, 14] (fun l n i wr => ∃ (k : Nat) (v1 : Value), k ≤ L.length ∧ i = .int .i64 k ∧ n = .int .i64 (cntTo (copyP W W2 H2 ⟨a, b, c, d⟩ ex ey) k) ∧ l = v1 ∧ wr.ownsRow 0 30 1 v1 k (colV (takeF f k)) ∧ Lies V (.slice none 0 0) v1 ∧
    Blk wr w.heap.size #[.int .i64 W, .int .i64 H, .slice (some ⟨g, 0, none⟩) L.length cap] 25 ∧ Blk wr (w.heap.size + 1) #[.int .i64 W2, .int .i64 H2, v2] 25 ∧ Blk wr (w.heap.size + 2) #[.int .i64 a, .int .i64 b, .int .i64 c, .int .i64 d] 32 ∧
    Blk wr (w.heap.size + 3) #[.int .i64 0, .int .i64 0, .slice none 0 0] 25 ∧ Below w.heap.size w wr) (fun _ _ i _ => L.length - (intOf i).toNat)
  case atStart => exact ⟨0, _, Nat.zero_le _, rfl, rfl, rfl, own_nil _ _ _ _, .inl rfl, hB, hE, hD, hR, hW⟩
  case round =>
    clear hB hD hR hW hE
    obtain ⟨k, v1, hk, rfl, rfl, rfl, hO, hLi, hB, hE, hD, hR, hW⟩ := hrel
    have hcm := hB.cell
    have hs := h0.m.small
    have hcnt := cntTo_bd (copyP W W2 H2 ⟨a, b, c, d⟩ ex ey) k
    by_cases hlt : k < L.length
    · have hM := h0.below hW
      have hM2 := h2.below hW
      have hL := own_getD hM.own rfl k hlt
      have hem := hE.cell
      have ht : (k : Int).tmod W = ((k % W : Nat) : Int) := by rw [Int.tmod_eq_emod_of_nonneg (by omega)]; rfl
      have hq : (k : Int).tdiv W = ((k / W : Nat) : Int) := by rw [Int.tdiv_eq_ediv_of_nonneg (by omega)]; rfl
      have hw0 : ¬ (W : Int) = 0 := by have := h0.m.w1; omega
      have hw1 : ((W : Int) == 0) = false := by simpa using hw0
      have hpl := place h0.m.len hlt h0.m.w1
      have hp1 := hpl.1
      have hp2 := hpl.2.1
      have hh := h0.m.h2
      have hww := h0.m.w2
      have hl1 := hB.lt
      have hl2 := hD.lt
      have hlg : g < wr.heap.size := by have := hW.size; omega
      have hzV : V.heap.size ≤ wr.heap.size := by have := hR.lt; omega
      obtain ⟨x, hx⟩ : ∃ x : Int, ((k % W : Nat) : Int) - ex = x := ⟨_, rfl⟩
      obtain ⟨y, hy⟩ : ∃ y : Int, ((k / W : Nat) : Int) - ey = y := ⟨_, rfl⟩
      obtain ⟨s1, hs1⟩ : ∃ s1, decide (inBox W2 H2 x y) = s1 := ⟨_, rfl⟩
      obtain ⟨s2, hs2⟩ : ∃ s2, decide (Pl.R.has ⟨a, b, c, d⟩ x y) = s2 := ⟨_, rfl⟩
      obtain ⟨cc, hcc⟩ : ∃ cc, pxo W2 H2 L2 x y = cc := ⟨_, rfl⟩
      have hsel : copyP W W2 H2 ⟨a, b, c, d⟩ ex ey k = (s1 && s2) := by unfold copyP; rw [hx, hy, ← hs1, ← hs2, Bool.decide_and]
      have hn1 : cntTo (copyP W W2 H2 ⟨a, b, c, d⟩ ex ey) (k + 1) = cntTo (copyP W W2 H2 ⟨a, b, c, d⟩ ex ey) k + (if (s1 && s2) = true then 1 else 0) := by rw [← hsel]; rfl
      have hf1 : f k = if (s1 && s2) = true then cc else gd L k := by
        rw [← Hf.out, ← hsel]
        show (if copyP W W2 H2 ⟨a, b, c, d⟩ ex ey k = true then copyF W W2 L2 ex ey k else gd L k) = _
        split
        · rename_i hq
          unfold copyP at hq
          have hi := (of_decide_eq_true hq).1
          unfold copyF
          rw [hx, hy] at hi ⊢
          rw [← hcc, pxo_in hi]
        · rfl
      have Hn1 := Lib.hid hn1
      have Hf1 := Lib.hid hf1
      have Hs1 := Lib.hid hs1
      have Hs2 := Lib.hid hs2
      have Hcc := Lib.hid hcc
      have hpr : k % W < W := Nat.mod_lt _ (by omega)
      clear hpl hsel hn1 hf1 hs1 hs2 hcc
      generalize k % W = r at *
      generalize k / W = q at *
      have hwd : IntKind.i64.wrap (q : Int) = q := IntWalk.i64_in _ (by omega)
      have hwx : IntKind.i64.wrap ((r : Int) - ex) = x := by rw [IntWalk.i64_in _ (by omega)]; exact hx
      have hwy : IntKind.i64.wrap ((q : Int) - ey) = y := by rw [IntWalk.i64_in _ (by omega)]; exact hy
      clear hx hy
      go_wp2_with fail
      refine (ref04_At_v hM2 Hcc.out Hs1.out).mono ?_
      rintro e wz ⟨rfl, hWz⟩
      have hBz := hB.below hWz hB.lt
      have hEz := hE.below hWz hE.lt
      have hDz := hD.below hWz hD.lt
      have hRz := hR.below hWz hR.lt
      have hOz := own_below hO hWz
      have hWw := below_of hW hWz
      have hzz := hWz.size
      have hLz := (hWz.cell (p := ⟨g, k, none⟩) (by have := hW.size; show g < _; omega)).trans hL
      have hdm := hDz.cell
      have hbm := hBz.cell
      clear hWz hcm hem
      cases s1
      · have e3 := colV_snoc f k (gd L k) (by rw [Hf1.out]; simp)
        have E3 := Lib.hid e3
        clear e3
        go_wp2_with (at_builtin; go_loud (refine wpList_app1 rfl _ _ 22 30 rfl (.int .u32 0) 1 4 Try.underlying22 colInfo rfl (by decide) _ k (colV (takeF f k)) rfl hOz #[.int .u32 (gd L k)] rfl (by simp [Value.oneCell']) rfl (by omega) (by omega) ?_; intro v2 w3 hO3 hg3 hl3))
        rw [show (#[Value.int .u32 (gd L k)] : Array Value).toList = [Value.int .u32 (gd L k)] from rfl, E3.out] at hO3
        have hB3 := hBz.kept hg3 (hLi.ne (by omega))
        have hE3 := hEz.kept hg3 (hLi.ne (by omega))
        have hD3 := hDz.kept hg3 (hLi.ne (by omega))
        have hR3 := hRz.kept hg3 (hLi.ne (by omega))
        have hW3 := grown_below hWw hg3 hWw.size (fun j e => by have := hLi.ge j e; omega)
        have hL3 := hLi.step hl3 (by omega)
        go_roundw
        case rel => exact ⟨k + 1, _, by omega, by go_num, by rw [Hn1.out]; simp, rfl, hO3, hL3, hB3, hE3, hD3, hR3, hW3⟩
        case measure => simp [intOf]; omega
      · go_wp2_with fail
        refine (ref_Has_v Hs2.out _).mono ?_
        rintro e wy ⟨rfl, hWz⟩
        have hBy := hBz.below hWz hBz.lt
        have hEy := hEz.below hWz hEz.lt
        have hDy := hDz.below hWz hDz.lt
        have hRy := hRz.below hWz hRz.lt
        have hOy := own_below hOz hWz
        have hWy := below_of hWw hWz
        have hzy := hWz.size
        have hLy := (hWz.cell (p := ⟨g, k, none⟩) (by have := hWw.size; show g < _; omega)).trans hLz
        clear hdm hbm
        have hbm := hBy.cell
        clear hWz
        cases s2
        · have e3 := colV_snoc f k (gd L k) (by rw [Hf1.out]; simp)
          have E3 := Lib.hid e3
          clear e3
          go_wp2_with (at_builtin; go_loud (refine wpList_app1 rfl _ _ 22 30 rfl (.int .u32 0) 1 4 Try.underlying22 colInfo rfl (by decide) _ k (colV (takeF f k)) rfl hOy #[.int .u32 (gd L k)] rfl (by simp [Value.oneCell']) rfl (by omega) (by omega) ?_; intro v2 w3 hO3 hg3 hl3))
          rw [show (#[Value.int .u32 (gd L k)] : Array Value).toList = [Value.int .u32 (gd L k)] from rfl, E3.out] at hO3
          have hB3 := hBy.kept hg3 (hLi.ne (by omega))
          have hE3 := hEy.kept hg3 (hLi.ne (by omega))
          have hD3 := hDy.kept hg3 (hLi.ne (by omega))
          have hR3 := hRy.kept hg3 (hLi.ne (by omega))
          have hW3 := grown_below hWy hg3 hWy.size (fun j e => by have := hLi.ge j e; omega)
          have hL3 := hLi.step hl3 (by omega)
          go_roundw
          case rel => exact ⟨k + 1, _, by omega, by go_num, by rw [Hn1.out]; simp, rfl, hO3, hL3, hB3, hE3, hD3, hR3, hW3⟩
          case measure => simp [intOf]; omega
        · have e3 := colV_snoc f k cc (by rw [Hf1.out]; simp)
          have E3 := Lib.hid e3
          clear e3
          go_wp2_with (at_builtin; go_loud (refine wpList_app1 rfl _ _ 22 30 rfl (.int .u32 0) 1 4 Try.underlying22 colInfo rfl (by decide) _ k (colV (takeF f k)) rfl hOy #[.int .u32 cc] rfl (by simp [Value.oneCell']) rfl (by omega) (by omega) ?_; intro v2 w3 hO3 hg3 hl3))
          rw [show (#[Value.int .u32 cc] : Array Value).toList = [Value.int .u32 cc] from rfl, E3.out] at hO3
          have hB3 := hBy.kept hg3 (hLi.ne (by omega))
          have hE3 := hEy.kept hg3 (hLi.ne (by omega))
          have hD3 := hDy.kept hg3 (hLi.ne (by omega))
          have hR3 := hRy.kept hg3 (hLi.ne (by omega))
          have hW3 := grown_below hWy hg3 hWy.size (fun j e => by have := hLi.ge j e; omega)
          have hL3 := hLi.step hl3 (by omega)
          go_roundw
          case rel => exact ⟨k + 1, _, by omega, by go_num, by rw [Hn1.out]; simp, rfl, hO3, hL3, hB3, hE3, hD3, hR3, hW3⟩
          case measure => simp [intOf]; omega
    · obtain rfl : k = L.length := by omega
      obtain ⟨g1, c1, rfl, _, hg1⟩ := hO.form (by omega)
      have hn := hLi.new rfl
      have hrm := hR.cell
      have hfm := hB.free
      have hfr := hR.free
      have hn0 : ¬ w.heap.size = w.heap.size + 3 := by omega
      have hn1 : ¬ w.heap.size + 3 = w.heap.size := by omega
      go_wp2_with fail
      have hR5 := hR.other (c := w.heap.size) (by omega) 2 (.slice (some ⟨g1, 0, none⟩) L.length c1)
      obtain ⟨hR4, hg4⟩ := set3 hR5 (.int .i64 W) (.int .i64 H) (.slice (some ⟨g1, 0, none⟩) L.length c1)
      have hr4 := hR4.cell
      have hM : RM wr (.slice (some ⟨g1, 0, none⟩) L.length c1) W H (takeF f L.length) := ⟨by rw [takeF_length]; exact hO, hmM⟩
      have hM := (hM.kept (grown_set (b := w.heap.size) (i := 2) (.slice (some ⟨g1, 0, none⟩) L.length c1)) (.inl (by simp [Value.ownBlock]; omega))).kept hg4 (.inl (by simp [Value.ownBlock]; omega))
      have hW5 := hW.setCell (p := ⟨w.heap.size, 2, none⟩) (Nat.le_refl _) (.slice (some ⟨g1, 0, none⟩) L.length c1)
      have hW4 := grown_below hW5 hg4 hW5.size (fun k e => by cases e; omega)
      exact bodyPost_ret (v := .tuple #[.agg #[.int .i64 W, .int .i64 H, .slice (some ⟨g1, 0, none⟩) L.length c1], .int .i64 (cntTo (copyP W W2 H2 ⟨a, b, c, d⟩ ex ey) L.length)]) (by simp [results, Try.results21, go_sem, hr4]) rfl ⟨_, rfl, hM, .inr ⟨g1, rfl, by omega⟩, hW4⟩

end Go.Proofs.Ytfnnhjnhccbglaa
