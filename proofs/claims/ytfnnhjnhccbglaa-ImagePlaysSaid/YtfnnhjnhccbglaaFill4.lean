/- Walks: the document's Fill. -/
import Derived.Test.YtfnnhjnhccbglaaFill
import Derived.Test.YtfnnhjnhccbglaaRef5
namespace Go.Proofs.Ytfnnhjnhccbglaa
open Go.RowKit

theorem ref_Has_v {a b c d x y : Int} {v : Bool} (hv : decide (Pl.R.has ⟨a, b, c, d⟩ x y) = v) (w : World) :
    Calls Try.prog 83 #[.agg #[.int .i64 a, .int .i64 b, .int .i64 c, .int .i64 d], .int .i64 x, .int .i64 y] w fun e w' => e = .returned (.bool v) ∧ Below w.heap.size w w' := by
  subst hv; exact ref_Has a b c d x y w

/-- Three boxes: what the walk reads. -/
theorem three_boxes (w : World) (cs ds es : Array Value) (T U X : TypeId) : Blk (((w.alloc (.cells cs T)).alloc (.cells ds U)).alloc (.cells es X)) w.heap.size cs T ∧ Blk (((w.alloc (.cells cs T)).alloc (.cells ds U)).alloc (.cells es X)) (w.heap.size + 1) ds U ∧
    Blk (((w.alloc (.cells cs T)).alloc (.cells ds U)).alloc (.cells es X)) (w.heap.size + 2) es X ∧ Below w.heap.size w (((w.alloc (.cells cs T)).alloc (.cells ds U)).alloc (.cells es X)) ∧ (((w.alloc (.cells cs T)).alloc (.cells ds U)).alloc (.cells es X)).heap.size = w.heap.size + 3 := by
  obtain ⟨h1, h2, h3, h4⟩ := two_boxes w cs ds T U
  refine ⟨h1.alloc _, h2.alloc _, ?_, by go_grown, by simp⟩
  have := Blk.new ((w.alloc (.cells cs T)).alloc (.cells ds U)) es X
  rwa [h4] at this

/-- The first k of what f tells. -/
def takeF (f : Nat → Int) (k : Nat) : List Int := (List.range k).map f
theorem takeF_length (f : Nat → Int) (k : Nat) : (takeF f k).length = k := by simp [takeF]
theorem takeF_succ (f : Nat → Int) (k : Nat) : takeF f (k + 1) = takeF f k ++ [f k] := by simp [takeF, List.range_succ]
theorem colV_snoc (f : Nat → Int) (k : Nat) (c : Int) (h : f k = c) : colV (takeF f k) ++ [Value.int .u32 c] = colV (takeF f (k + 1)) := by rw [takeF_succ, h]; simp [colV]

/-- An image and a number are handed back. -/
def RetMN (W H : Nat) (L : List Int) (N : Int) (v0 : Value) (w : World) (e : Ending) (w' : World) : Prop :=
  ∃ v, e = .returned (.tuple #[.agg #[.int .i64 W, .int .i64 H, v], .int .i64 N]) ∧ RM w' v W H L ∧ Lies w v0 v ∧ Below w.heap.size w w'

set_option maxHeartbeats 4000000 in
theorem ref04_Fill {w : World} {v : Value} {W H : Nat} {L : List Int} (h : RM w v W H L) (a b c d col : Int) (hc : Pl.isC col) :
    Calls Try.prog 19 #[.agg #[.int .i64 W, .int .i64 H, v], .agg #[.int .i64 a, .int .i64 b, .int .i64 c, .int .i64 d], .int .u32 col] w (RetMN W H (fillL W L ⟨a, b, c, d⟩ col) (fillN W L ⟨a, b, c, d⟩ col) v w) := by
  obtain ⟨hB, hD, hR, hW, hz⟩ := three_boxes w #[.int .i64 W, .int .i64 H, v] #[.int .i64 a, .int .i64 b, .int .i64 c, .int .i64 d] #[.int .i64 0, .int .i64 0, .slice none 0 0] 25 32 25
  have h0 := h
  obtain ⟨g, cap, rfl, hg, k1, k2, hcells⟩ := h.form
  clear hcells
  by_cases hm : Pl.mayc col = true
  · have hN : fillN W L ⟨a, b, c, d⟩ col = cntTo (selR W ⟨a, b, c, d⟩) L.length := by unfold fillN; rw [if_pos hm]
    have hL : fillL W L ⟨a, b, c, d⟩ col = takeF (fun i => if selR W ⟨a, b, c, d⟩ i = true then col else gd L i) L.length := by unfold fillL; rw [if_pos hm]; rfl
    have hmM : IsM W H (fillL W L ⟨a, b, c, d⟩ col) := by unfold fillL; rw [if_pos hm]; exact h.m.putL (fun _ _ _ => ⟨hc, hm⟩)
    rw [hL] at hmM
    rw [hN, hL]
    clear hN hL
    obtain ⟨f, hf⟩ : ∃ f : Nat → Int, (fun i => if selR W ⟨a, b, c, d⟩ i = true then col else gd L i) = f := ⟨_, rfl⟩
    rw [hf] at hmM ⊢
    have Hf := Lib.hid hf
    clear hf
    go_enter Try.func19, Try.ntmps19
    go_wp2_with fail
    generalize hV : ((w.alloc (.cells #[.int .i64 W, .int .i64 H, .slice (some ⟨g, 0, none⟩) L.length cap] 25)).alloc (.cells #[.int .i64 a, .int .i64 b, .int .i64 c, .int .i64 d] 32)).alloc (.cells #[.int .i64 0, .int .i64 0, .slice none 0 0] 25) = V at *
    clear hV
    refine (ref_May col hc _).mono ?_
    rintro e w1 ⟨rfl, hb1⟩
    rw [hm]
    have hB := hB.below hb1 hB.lt
    have hD := hD.below hb1 hD.lt
    have hR := hR.below hb1 hR.lt
    have hW := below_of hW hb1
    have hz1 := hb1.size
    clear hb1
    go_wp2_with fail
    go_loopw [9, 10, 11] (fun l n i wr => ∃ (k : Nat) (v1 : Value), k ≤ L.length ∧ i = .int .i64 k ∧ n = .int .i64 (cntTo (selR W ⟨a, b, c, d⟩) k) ∧ l = v1 ∧ wr.ownsRow 0 30 1 v1 k (colV (takeF f k)) ∧ Lies V (.slice none 0 0) v1 ∧
      Blk wr w.heap.size #[.int .i64 W, .int .i64 H, .slice (some ⟨g, 0, none⟩) L.length cap] 25 ∧ Blk wr (w.heap.size + 1) #[.int .i64 a, .int .i64 b, .int .i64 c, .int .i64 d] 32 ∧
      Blk wr (w.heap.size + 2) #[.int .i64 0, .int .i64 0, .slice none 0 0] 25 ∧ Below w.heap.size w wr) (fun _ _ i _ => L.length - (intOf i).toNat)
    case atStart => exact ⟨0, _, Nat.zero_le _, rfl, rfl, rfl, own_nil _ _ _ _, .inl rfl, hB, hD, hR, hW⟩
    case round =>
      clear hB hD hR hW
      obtain ⟨k, v1, hk, rfl, rfl, rfl, hO, hLi, hB, hD, hR, hW⟩ := hrel
      have hcm := hB.cell
      have hs := h0.m.small
      have hcnt := cntTo_bd (selR W ⟨a, b, c, d⟩) k
      by_cases hlt : k < L.length
      · have hM := h0.below hW
        have hL := own_getD hM.own rfl k hlt
        have hdm := hD.cell
        have ht : (k : Int).tmod W = ((k % W : Nat) : Int) := by rw [Int.tmod_eq_emod_of_nonneg (by omega)]; rfl
        have hq : (k : Int).tdiv W = ((k / W : Nat) : Int) := by rw [Int.tdiv_eq_ediv_of_nonneg (by omega)]; rfl
        have hw0 : ¬ (W : Int) = 0 := by have := h0.m.w1; omega
        have hw00 : ¬ W = 0 := by have := h0.m.w1; omega
        have hw1 : ((W : Int) == 0) = false := by simpa using hw0
        have hpl := place h0.m.len hlt h0.m.w1
        have hp1 := hpl.1
        have hp2 := hpl.2.1
        have hh := h0.m.h2
        have hl1 := hB.lt
        have hl2 := hD.lt
        have hlg : g < wr.heap.size := by have := hW.size; omega
        obtain ⟨s, hsel⟩ : ∃ s, selR W ⟨a, b, c, d⟩ k = s := ⟨_, rfl⟩
        have Hs : Hid (decide (Pl.R.has ⟨a, b, c, d⟩ ((k % W : Nat) : Int) ((k / W : Nat) : Int)) = s) := hsel
        have hn1 : cntTo (selR W ⟨a, b, c, d⟩) (k + 1) = cntTo (selR W ⟨a, b, c, d⟩) k + (if s = true then 1 else 0) := by rw [← hsel]; rfl
        have hf1 : f k = if s = true then col else gd L k := by rw [← Hf.out, ← hsel]
        have Hn1 := Lib.hid hn1
        have Hf1 := Lib.hid hf1
        clear hpl hM hsel hn1 hf1
        generalize hr : k % W = r at *
        generalize hd : k / W = q at *
        clear hr hd
        have hwd : IntKind.i64.wrap (q : Int) = q := IntWalk.i64_in _ (by omega)
        go_wp2_with fail
        go_region_held3 (fun w' => Below wr.heap.size wr w' ∧ (∀ b o, b < wr.heap.size → w'.cell? ⟨b, o, none⟩ = wr.cell? ⟨b, o, none⟩)) ((refine keepS ?_; first | assumption | go_grown))
      ((first | (go_at_call 83; refine (ref_Has_v Hs.out _).mono ?_; rintro e wz ⟨rfl, hbz⟩; have hWz : Below wr.heap.size wr wz := below_of (by first | assumption | go_grown) hbz; clear hbz)))
        all_goals
          have hBz := hB.below hWz hB.lt
          have hDz := hD.below hWz hD.lt
          have hRz := hR.below hWz hR.lt
          have hOz := own_below hO hWz
          have hWw := below_of hW hWz
          have hzz := hWz.size
          have hLz := (hWz.cell (p := ⟨g, k, none⟩) (by have := hW.size; show g < _; omega)).trans hL
          have hzV : V.heap.size ≤ wr.heap.size := by have := hR.lt; omega
          clear hWz
          cases s
          ·
            have e3 := colV_snoc f k (gd L k) (by rw [Hf1.out]; simp)
            have E3 := Lib.hid e3
            clear e3
            go_wp2_with (at_builtin; go_loud (refine wpList_app1 rfl _ _ 22 30 rfl (.int .u32 0) 1 4 Try.underlying22 colInfo rfl (by decide) _ k (colV (takeF f k)) rfl hOz #[.int .u32 (gd L k)] rfl (by simp [Value.oneCell']) rfl (by omega) (by omega) ?_; intro v2 w3 hO3 hg3 hl3))
            rw [show (#[Value.int .u32 (gd L k)] : Array Value).toList = [Value.int .u32 (gd L k)] from rfl, E3.out] at hO3
            have hB3 := hBz.kept hg3 (hLi.ne (by omega))
            have hD3 := hDz.kept hg3 (hLi.ne (by omega))
            have hR3 := hRz.kept hg3 (hLi.ne (by omega))
            have hW3 := grown_below hWw hg3 hWw.size (fun j e => by have := hLi.ge j e; omega)
            have hL3 := hLi.step hl3 (by omega)
            go_roundw
            case rel => exact ⟨k + 1, _, by omega, by go_num, by rw [Hn1.out]; simp, rfl, hO3, hL3, hB3, hD3, hR3, hW3⟩
            case measure => simp [intOf]; omega
          ·
            have e3 := colV_snoc f k (col) (by rw [Hf1.out]; simp)
            have E3 := Lib.hid e3
            clear e3
            go_wp2_with (at_builtin; go_loud (refine wpList_app1 rfl _ _ 22 30 rfl (.int .u32 0) 1 4 Try.underlying22 colInfo rfl (by decide) _ k (colV (takeF f k)) rfl hOz #[.int .u32 (col)] rfl (by simp [Value.oneCell']) rfl (by omega) (by omega) ?_; intro v2 w3 hO3 hg3 hl3))
            rw [show (#[Value.int .u32 (col)] : Array Value).toList = [Value.int .u32 (col)] from rfl, E3.out] at hO3
            have hB3 := hBz.kept hg3 (hLi.ne (by omega))
            have hD3 := hDz.kept hg3 (hLi.ne (by omega))
            have hR3 := hRz.kept hg3 (hLi.ne (by omega))
            have hW3 := grown_below hWw hg3 hWw.size (fun j e => by have := hLi.ge j e; omega)
            have hL3 := hLi.step hl3 (by omega)
            go_roundw
            case rel => exact ⟨k + 1, _, by omega, by go_num, by rw [Hn1.out]; simp, rfl, hO3, hL3, hB3, hD3, hR3, hW3⟩
            case measure => simp [intOf]; omega
      · obtain rfl : k = L.length := by omega
        obtain ⟨g1, c1, rfl, _, hg1⟩ := hO.form (by omega)
        have hn := hLi.new rfl
        have hrm := hR.cell
        have hfm := hB.free
        have hfr := hR.free
        have hn0 : ¬ w.heap.size = w.heap.size + 2 := by omega
        have hn1 : ¬ w.heap.size + 2 = w.heap.size := by omega
        go_wp2_with fail
        have hR5 := hR.other (c := w.heap.size) (by omega) 2 (.slice (some ⟨g1, 0, none⟩) L.length c1)
        obtain ⟨hR4, hg4⟩ := set3 hR5 (.int .i64 W) (.int .i64 H) (.slice (some ⟨g1, 0, none⟩) L.length c1)
        have hr4 := hR4.cell
        have hM : RM wr (.slice (some ⟨g1, 0, none⟩) L.length c1) W H (takeF f L.length) := ⟨by rw [takeF_length]; exact hO, hmM⟩
        have hM := (hM.kept (grown_set (b := w.heap.size) (i := 2) (.slice (some ⟨g1, 0, none⟩) L.length c1)) (.inl (by simp [Value.ownBlock]; omega))).kept hg4 (.inl (by simp [Value.ownBlock]; omega))
        have hW5 := hW.setCell (p := ⟨w.heap.size, 2, none⟩) (Nat.le_refl _) (.slice (some ⟨g1, 0, none⟩) L.length c1)
        have hW4 := grown_below hW5 hg4 hW5.size (fun k e => by cases e; omega)
        exact bodyPost_ret (v := .tuple #[.agg #[.int .i64 W, .int .i64 H, .slice (some ⟨g1, 0, none⟩) L.length c1], .int .i64 (cntTo (selR W ⟨a, b, c, d⟩) L.length)]) (by simp [results, Try.results19, go_sem, hr4]) rfl ⟨_, rfl, hM, .inr ⟨g1, rfl, by omega⟩, hW4⟩
  · have hN : fillN W L ⟨a, b, c, d⟩ col = 0 := by unfold fillN; rw [if_neg hm]
    have hL : fillL W L ⟨a, b, c, d⟩ col = L := by unfold fillL; rw [if_neg hm]
    rw [hN, hL]
    clear hN hL
    have hm : Pl.mayc col = false := by simpa using hm
    go_enter Try.func19, Try.ntmps19
    go_wp2_with fail
    generalize hV : ((w.alloc (.cells #[.int .i64 W, .int .i64 H, .slice (some ⟨g, 0, none⟩) L.length cap] 25)).alloc (.cells #[.int .i64 a, .int .i64 b, .int .i64 c, .int .i64 d] 32)).alloc (.cells #[.int .i64 0, .int .i64 0, .slice none 0 0] 25) = V at *
    clear hV
    refine (ref_May col hc _).mono ?_
    rintro e w1 ⟨rfl, hb1⟩
    rw [hm]
    have hB := hB.below hb1 hB.lt
    have hR := hR.below hb1 hR.lt
    have hW := below_of hW hb1
    have hcm := hB.cell
    have hrm := hR.cell
    have hfr := hR.free
    go_wp2_with fail
    obtain ⟨hR4, hg4⟩ := set3 hR (.int .i64 W) (.int .i64 H) (.slice (some ⟨g, 0, none⟩) L.length cap)
    have hr4 := hR4.cell
    have hM := (h0.below hW).kept hg4 (.inl (by simp [Value.ownBlock]; omega))
    have hW4 := grown_below hW hg4 hW.size (fun k e => by cases e; omega)
    exact bodyPost_ret (v := .tuple #[.agg #[.int .i64 W, .int .i64 H, .slice (some ⟨g, 0, none⟩) L.length cap], .int .i64 0]) (by simp [results, Try.results19, go_sem, hr4]) rfl ⟨_, rfl, hM, .inl rfl, hW4⟩

end Go.Proofs.Ytfnnhjnhccbglaa
