/- Walks: the document's Write. -/
import Derived.Test.YtfnnhjnhccbglaaWrite
import Derived.Test.YtfnnhjnhccbglaaFill4
import Derived.Test.YtfnnhjnhccbglaaRect4
import Derived.StillTailTactics
namespace Go.Proofs.Ytfnnhjnhccbglaa
open Go.RowKit

theorem ref_Covers_v {a b c d p q r s : Int} {v : Bool} (hv : decide (Pl.coversR ⟨a, b, c, d⟩ ⟨p, q, r, s⟩) = v) (w : World) :
    Calls Try.prog 89 #[.agg #[.int .i64 a, .int .i64 b, .int .i64 c, .int .i64 d], .agg #[.int .i64 p, .int .i64 q, .int .i64 r, .int .i64 s]] w fun e w' => e = .returned (.bool v) ∧ Below w.heap.size w w' := by
  subst hv; exact ref_Covers a b c d p q r s w
theorem ref_Area_v {a b c d v : Int} (hv : Pl.areaR ⟨a, b, c, d⟩ = v) (h : (⟨a, b, c, d⟩ : Pl.R).empty ∨ (c - a ≤ 1073741824 ∧ d - b ≤ 1073741824)) (ha : -1073741824 ≤ a ∧ a ≤ 1073741824 ∧ -1073741824 ≤ b ∧ b ≤ 1073741824 ∧ -1073741824 ≤ c ∧ c ≤ 1073741824 ∧ -1073741824 ≤ d ∧ d ≤ 1073741824) (w : World) :
    Calls Try.prog 91 #[.agg #[.int .i64 a, .int .i64 b, .int .i64 c, .int .i64 d]] w fun e w' => e = .returned (.int .i64 v) ∧ Below w.heap.size w w' := by
  subst hv; exact ref_Area a b c d h ha w

set_option maxRecDepth 100000 in
set_option maxHeartbeats 4000000 in
theorem ref04_Write {w : World} {v u : Value} {W H : Nat} {L B : List Int} (h : RM w v W H L) (hA : ArgB w u B) (r0 r1 r2 r3 : Int) :
    Calls Try.prog 23 #[.agg #[.int .i64 W, .int .i64 H, v], .agg #[.int .i64 r0, .int .i64 r1, .int .i64 r2, .int .i64 r3], u] w (RetME W H (writeL W H L ⟨r0, r1, r2, r3⟩ B) (writeE W H ⟨r0, r1, r2, r3⟩ B) v w) := by
  have h0 := h
  obtain ⟨g, cap, rfl, hg, k1, k2, hcells⟩ := h.form
  clear hcells h
  obtain ⟨ba, bcap, rfl, hcap, hcell⟩ := hA.ex
  by_cases hin : insideR W H ⟨r0, r1, r2, r3⟩
  · obtain ⟨X0, Y0, X1, Y1, e, hx, hX, hy, hY⟩ := inside_nat hin
    simp only [Pl.R.mk.injEq] at e
    obtain ⟨rfl, rfl, rfl, rfl⟩ := e
    have hev : decide ((⟨X0, Y0, X1, Y1⟩ : Pl.R).empty) = false := by simpa using hin.1
    have hcv : decide (Pl.coversR ⟨0, 0, W, H⟩ ⟨X0, Y0, X1, Y1⟩) = true := by simpa using hin.2
    obtain ⟨A, hA0⟩ : ∃ A, (X1 - X0) * (Y1 - Y0) = A := ⟨_, rfl⟩
    have ha : Pl.areaR ⟨X0, Y0, X1, Y1⟩ = (A : Int) := by rw [area_nat hx hy, hA0]
    have hw2 := h0.m.w2
    have hh2 := h0.m.h2
    have hA1 : A ≤ 65536 := hA0 ▸ area_le hX hY hw2 hh2
    have e4 : IntKind.i64.wrap (4 * (A : Int)) = ((4 * A : Nat) : Int) := by rw [IntWalk.i64_in _ (by omega)]; omega
    have Ha := Lib.hid ha
    have Hin := Lib.hid hin
    clear ha hin
    obtain ⟨hB, hD, hR, hW, hz⟩ := three_boxes w #[.int .i64 W, .int .i64 H, .slice (some ⟨g, 0, none⟩) L.length cap] #[.int .i64 X0, .int .i64 Y0, .int .i64 X1, .int .i64 Y1] #[.int .i64 0, .int .i64 0, .slice none 0 0] 25 32 25
    go_enter Try.func23, Try.ntmps23
    go_wp2_with fail
    generalize hV : ((w.alloc (.cells #[.int .i64 W, .int .i64 H, .slice (some ⟨g, 0, none⟩) L.length cap] 25)).alloc (.cells #[.int .i64 X0, .int .i64 Y0, .int .i64 X1, .int .i64 Y1] 32)).alloc (.cells #[.int .i64 0, .int .i64 0, .slice none 0 0] 25) = V at *
    clear hV
    have hcm := hB.cell
    have hdm := hD.cell
    have hl0 := hB.lt
    have hl1 := hD.lt
    go_region_held3 (fun w' => Below V.heap.size V w' ∧ (∀ b o, b < V.heap.size → w'.cell? ⟨b, o, none⟩ = V.cell? ⟨b, o, none⟩)) ((refine keepS ?_; first | assumption | go_grown))
      ((first | (go_at_call 36; refine (ref04_Box W H _ _).mono ?_; rintro e wz ⟨rfl, hbz⟩; have hWz : Below V.heap.size V wz := below_of (by first | assumption | go_grown) hbz; clear hbz) | (go_at_call 89; refine (ref_Covers_v hcv _).mono ?_; rintro e wz ⟨rfl, hbz⟩; have hWz : Below V.heap.size V wz := below_of (by first | assumption | go_grown) hbz; clear hbz)))
    have hB := hB.below hWz hB.lt
    have hD := hD.below hWz hD.lt
    have hR := hR.below hWz hR.lt
    have hW := below_of hW hWz
    have hz0 := hWz.size
    clear hWz
    go_wp2_with fail
    refine (ref_Empty_v hev _).mono ?_
    rintro e V1 ⟨rfl, hb1⟩
    have hB := Blk.next hb1 hB
    have hD := Blk.next hb1 hD
    have hR := Blk.next hb1 hR
    have hW := below_of hW hb1
    have hz1 := hb1.size
    clear hb1 hcm hdm
    have hcm := hB.cell
    have hdm := hD.cell
    have hfr := hR.free
    have hrm := hR.cell
    go_wp2_with fail
    refine (ref_Area_v Ha.out (.inr ⟨by omega, by omega⟩) (by omega) _).mono ?_
    rintro e V2 ⟨rfl, hb2⟩
    have hB := Blk.next hb2 hB
    have hD := Blk.next hb2 hD
    have hR := Blk.next hb2 hR
    have hW := below_of hW hb2
    have hz2 := hb2.size
    clear hb2 hcm hdm hfr hrm
    have hcm := hB.cell
    have hdm := hD.cell
    have hfr := hR.free
    have hrm := hR.cell
    by_cases hs : B.length < 4 * A
    · have hE := writeE_short (B := B) Hin.out (by rw [Ha.out]; omega)
      have hL : writeL W H L ⟨X0, Y0, X1, Y1⟩ B = L := writeL_ne hE (by decide)
      go_wp2_with fail
      obtain ⟨hR4, hg4⟩ := set3 hR (.int .i64 W) (.int .i64 H) (.slice (some ⟨g, 0, none⟩) L.length cap)
      have hr4 := hR4.cell
      have hM := (h0.below hW).kept hg4 (.inl (by simp [Value.ownBlock]; omega))
      have hW4 := grown_below hW hg4 hW.size (fun k e => by cases e; omega)
      exact bodyPost_ret (v := .tuple #[.agg #[.int .i64 W, .int .i64 H, .slice (some ⟨g, 0, none⟩) L.length cap], .int .i64 3]) (by simp [results, Try.results23, go_sem, hr4]) rfl ⟨_, by rw [hE], by rw [hL]; exact hM, .inl rfl, hW4⟩
    · by_cases hl : 4 * A < B.length
      · have hE := writeE_long (B := B) Hin.out (by rw [Ha.out]; omega)
        have hL : writeL W H L ⟨X0, Y0, X1, Y1⟩ B = L := writeL_ne hE (by decide)
        go_wp2_with fail
        obtain ⟨hR4, hg4⟩ := set3 hR (.int .i64 W) (.int .i64 H) (.slice (some ⟨g, 0, none⟩) L.length cap)
        have hr4 := hR4.cell
        have hM := (h0.below hW).kept hg4 (.inl (by simp [Value.ownBlock]; omega))
        have hW4 := grown_below hW hg4 hW.size (fun k e => by cases e; omega)
        exact bodyPost_ret (v := .tuple #[.agg #[.int .i64 W, .int .i64 H, .slice (some ⟨g, 0, none⟩) L.length cap], .int .i64 2]) (by simp [results, Try.results23, go_sem, hr4]) rfl ⟨_, by rw [hE], by rw [hL]; exact hM, .inl rfl, hW4⟩
      · have hBl : B.length = 4 * A := by omega
        have hs1 := h0.m.small
        have hA2 : 0 < A := by rw [← hA0]; exact Nat.mul_pos (by omega) (by omega)
        obtain ⟨gb, bo, rfl, hgb, hbytes⟩ := hcell (by omega)
        obtain ⟨m, hm⟩ : ∃ m, X1 - X0 = m := ⟨_, rfl⟩
        have ew : IntKind.i64.wrap ((X1 : Int) - X0) = (m : Int) := by rw [IntWalk.i64_in _ (by omega)]; omega
        have eq4 : (4 * (A : Int)).tdiv 4 = A := by rw [Int.mul_tdiv_cancel_left _ (by omega)]
        have eq5 : IntKind.i64.wrap (A : Int) = A := IntWalk.i64_in _ (by omega)
        have HA := Lib.hid hA0
        have h1 := h0.below hW
        have hnews := h1.own.cells (g := g) rfl
        have Hnews := Lib.hid hnews
        have hzV := hW.size
        have hl0 := hB.lt
        have hl1 := hD.lt
        have hl2 := hR.lt
        clear hnews hA0
        go_wp2_with (at_builtin; go_loud (refine wpList_app rfl _ _ 22 30 rfl (.int .u32 0) 1 4 Try.underlying22 colInfo rfl (by decide) (.slice none 0 0) 0 [] rfl (own_nil _ _ _ _) ⟨g, 0, none⟩ L.length cap (colV L) rfl (by simp [colV]) Hnews.out (colV_one L) (by omega) (by omega) ?_; intro v1 w2 hown hgr hlies; simp only [Nat.zero_add, List.nil_append] at hown; obtain ⟨g1, cap1, rfl, _, hg1⟩ := hown.form (by omega); have hB2 := hB.below (grown_none hgr) hl0; have hD2 := hD.below (grown_none hgr) hl1; have hR2 := hR.below (grown_none hgr) hl2; have hgn := hlies.new rfl; have hW2 := below_of hW (grown_none hgr); clear hcm hdm hfr hrm; have hcm := hB2.cell; have hdm := hD2.cell))
        clear hB hD hR h1 hcell
        have hL0 : putL L (writeP W X0 Y0 X1 Y1 m 0) (fun i => wcol B (wIx W X0 Y0 m i)) = L := putL_false (fun i hi => by unfold writeP; rw [decide_eq_false_iff_not]; omega)
        rw [← hL0] at hown
        clear hcm hdm
        go_loopw [12] (fun i wr => ∃ k : Nat, k ≤ A ∧ i = .int .i64 k ∧ okN B k = true ∧ wr.ownsRow 0 30 1 (.slice (some ⟨g1, 0, none⟩) L.length cap1) L.length (colV (putL L (writeP W X0 Y0 X1 Y1 m k) (fun i => wcol B (wIx W X0 Y0 m i)))) ∧
          Blk wr w.heap.size #[.int .i64 W, .int .i64 H, .slice (some ⟨g, 0, none⟩) L.length cap] 25 ∧ Blk wr (w.heap.size + 1) #[.int .i64 X0, .int .i64 Y0, .int .i64 X1, .int .i64 Y1] 32 ∧
          Blk wr (w.heap.size + 2) #[.int .i64 0, .int .i64 0, .slice none 0 0] 25 ∧ Below w.heap.size w wr) (fun i _ => A - (intOf i).toNat)
        case atStart => exact ⟨0, Nat.zero_le _, rfl, rfl, by rw [hL0] at hown ⊢; exact hown, hB2, hD2, hR2, hW2⟩
        case round =>
          clear hB2 hD2 hR2 hW2 hown hW hgr hlies hL0
          obtain ⟨k, hk, rfl, hok, hown, hB, hD, hR, hW⟩ := hrel
          have hcm := hB.cell
          have hdm := hD.cell
          by_cases hlt : k < A
          · have hgbl : gb < wr.heap.size := by have := hW.size; omega
            have hby : ∀ j, j < 4 → wr.cell? ⟨gb, bo + (4 * k + j), none⟩ = some (.int .u8 (gd B (4 * k + j))) ∧ IntKind.i64.wrap (gd B (4 * k + j)) = gd B (4 * k + j) := fun j hj => by
              have hr := hA.byte _ (gd_mem' (show 4 * k + j < B.length by omega))
              exact ⟨(hW.cell (p := ⟨gb, bo + (4 * k + j), none⟩) hgb).trans (hbytes (4 * k + j) (by omega)), IntWalk.i64_in _ (by omega)⟩
            obtain ⟨c0, w0⟩ := hby 0 (by omega)
            obtain ⟨c1, w1⟩ := hby 1 (by omega)
            obtain ⟨c2, w2⟩ := hby 2 (by omega)
            obtain ⟨c3, w3⟩ := hby 3 (by omega)
            clear hby
            have hwc : wcol B k = Pl.mkc (Pl.cl (gd B (4 * k + 0))) (Pl.cl (gd B (4 * k + 1))) (Pl.cl (gd B (4 * k + 2))) (Pl.cl (gd B (4 * k + 3))) := rfl
            have hci := wcol_isC B k
            have Hok := okN_succ B k
            rw [hok, Bool.true_and] at Hok
            generalize gd B (4 * k + 0) = v0 at *
            generalize gd B (4 * k + 1) = v1 at *
            generalize gd B (4 * k + 2) = v2 at *
            generalize gd B (4 * k + 3) = v3 at *
            have hmk : ∀ wq, Calls Try.prog 46 #[.int .i64 v0, .int .i64 v1, .int .i64 v2, .int .i64 v3] wq fun e w' => e = .returned (.int .u32 (wcol B k)) ∧ w' = wq := fun wq => by
              rw [hwc]
              exact (ref_Make v0 v1 v2 v3 wq).mono (fun e w' ⟨he, hw⟩ => ⟨he, hw.symm⟩)
            obtain ⟨q, hq⟩ : ∃ q, 4 * k = q := ⟨_, rfl⟩
            rw [hq] at c0 c1 c2 c3
            have x0 : IntKind.i64.wrap (4 * (k : Int)) = (q : Int) := by rw [IntWalk.i64_in _ (by omega)]; omega
            have x1 : IntKind.i64.wrap ((q : Int) + 1) = ((q + 1 : Nat) : Int) := by rw [IntWalk.i64_in _ (by omega)]; omega
            have x2 : IntKind.i64.wrap ((q : Int) + 2) = ((q + 2 : Nat) : Int) := by rw [IntWalk.i64_in _ (by omega)]; omega
            have x3 : IntKind.i64.wrap ((q : Int) + 3) = ((q + 3 : Nat) : Int) := by rw [IntWalk.i64_in _ (by omega)]; omega
            have hq4 : q + 4 ≤ 4 * A := by omega
            rw [Nat.add_zero] at c0
            go_wp2_with fail
            go_quiet (exact Calls.quiet_of_same (hmk _))
            clear hmk c0 c1 c2 c3 w0 w1 w2 w3 x0 x1 x2 x3 hwc
            have gd1 : wr.grownBy (wr.drewN nq) none := ⟨rfl, rfl, rfl, Nat.le_refl _, fun _ _ _ => rfl⟩
            generalize wr.drewN nq = Wd at *
            clear hcm hdm
            go_wp2_with fail
            generalize hwx : wcol B k = cx at *
            refine (ref_May cx hci _).mono ?_
            rintro e w1 ⟨rfl, hb1⟩
            have gd2 := gd1.trans (grown_of hb1 none)
            have hB := hB.kept gd2 (by simp)
            have hD := hD.kept gd2 (by simp)
            have hR := hR.kept gd2 (by simp)
            have hown := hown.kept gd2 (by simp [Value.ownBlock])
            have hW := below_of hW (grown_none gd2)
            clear gd1 gd2 hb1
            have hcm := hB.cell
            have hdm := hD.cell
            have hfr := hR.free
            have hrm := hR.cell
            by_cases hmy : Pl.mayc cx = true
            · rw [hmy]
              have hm0 : 0 < m := by omega
              have hkA : k < m * (Y1 - Y0) := by rw [← hm, HA.out]; exact hlt
              have htl := wAt_lt (H := H) hm hx hX hkA hY
              rw [← h0.m.len] at htl
              have hkd : k / m < Y1 - Y0 := (Nat.div_lt_iff_lt_mul hm0).2 (by rw [Nat.mul_comm]; exact hkA)
              have hkm := Nat.mod_lt k hm0
              have hst : ∀ i, writeP W X0 Y0 X1 Y1 m (k + 1) i = true ↔ writeP W X0 Y0 X1 Y1 m k i = true ∨ i = wAt W X0 Y0 m k := fun i => writeP_step hm hx hX hkA
              have hval : wcol B (wIx W X0 Y0 m (wAt W X0 Y0 m k)) = cx := by rw [((wAt_iff hm hx hX hkA).2 rfl).2, hwx]
              have hM1 := (hown.stored (wAt W X0 Y0 m k) (.int .u32 cx)).1
              have e9 : (colV (putL L (writeP W X0 Y0 X1 Y1 m k) (fun i => wcol B (wIx W X0 Y0 m i)))).set (wAt W X0 Y0 m k) (.int .u32 cx) = colV (putL L (writeP W X0 Y0 X1 Y1 m (k + 1)) (fun i => wcol B (wIx W X0 Y0 m i))) := by
                rw [← putL_set (P := writeP W X0 Y0 X1 Y1 m k) (Q := writeP W X0 Y0 X1 Y1 m (k + 1)) htl (fun i _ => hst i), hval]
                simp [colV, List.map_set]
              rw [e9] at hM1
              have hM := Lib.hid hM1
              have hp := own_getD hown (by rw [putL_length]) (wAt W X0 Y0 m k) (by rw [putL_length]; exact htl)
              have hfz := hown.frozenAt (wAt W X0 Y0 m k)
              have ht1 : wAt W X0 Y0 m k = (Y0 + k / m) * W + X0 + k % m := rfl
              have y1 : (k : Int).tmod m = ((k % m : Nat) : Int) := by rw [Int.tmod_eq_emod_of_nonneg (by omega)]; rfl
              have y2 : (k : Int).tdiv m = ((k / m : Nat) : Int) := by rw [Int.tdiv_eq_ediv_of_nonneg (by omega)]; rfl
              have y3 : ¬ (m : Int) = 0 := by omega
              have y0 : ¬ m = 0 := by omega
              have y4 : ((m : Int) == 0) = false := by simpa using y3
              clear hst hval e9 hM1 hkA
              generalize wAt W X0 Y0 m k = t at *
              generalize k / m = a at *
              generalize k % m = b at *
              have y5 : IntKind.i64.wrap (a : Int) = a := IntWalk.i64_in _ (by omega)
              obtain ⟨ya, hya⟩ : ∃ ya, Y0 + a = ya := ⟨_, rfl⟩
              have y6 : IntKind.i64.wrap ((Y0 : Int) + a) = (ya : Int) := by rw [IntWalk.i64_in _ (by omega)]; omega
              rw [hya] at ht1
              have hyw : ((ya * W : Nat) : Int) = (ya : Int) * W := by simp
              have hywb : ya * W ≤ 65536 := Nat.le_trans (Nat.mul_le_mul (show ya ≤ 256 by omega) hw2) (by decide)
              generalize ya * W = yw at *
              have y7 : IntKind.i64.wrap ((ya : Int) * W) = (yw : Int) := by rw [← hyw]; exact IntWalk.i64_in _ (by omega)
              obtain ⟨yx, hyx⟩ : ∃ yx, yw + X0 = yx := ⟨_, rfl⟩
              rw [hyx] at ht1
              have y8 : IntKind.i64.wrap ((yw : Int) + X0) = (yx : Int) := by rw [IntWalk.i64_in _ (by omega)]; omega
              have y9 : IntKind.i64.wrap ((yx : Int) + b) = (t : Int) := by rw [IntWalk.i64_in _ (by omega)]; omega
              have n1 : ¬ w.heap.size = g1 := by omega
              have n2 : ¬ w.heap.size + 1 = g1 := by omega
              have hB9 := hB.drew.other (c := g1) (by omega) t (.int .u32 cx)
              have hD9 := hD.drew.other (c := g1) (by omega) t (.int .u32 cx)
              have hR9 := hR.drew.other (c := g1) (by omega) t (.int .u32 cx)
              have hW9 := hW.drew.setCell (p := ⟨g1, t, none⟩) (by show w.heap.size ≤ g1; omega) (.int .u32 cx)
              have HALL := Lib.hid (And.intro hB9 (And.intro hD9 (And.intro hR9 hW9)))
              have hok2 : okN B (k + 1) = true := by rw [Hok, hmy]
              have HO := Lib.hid hok2
              have HT := Lib.hid ht1
              clear hB hD hR hW hB9 hD9 hR9 hW9 hown hfr hrm hbytes Hnews hyw hya hyx hok hok2 Hok hwx hci hmy ht1 hA hBl hs hl hcv hev hz hz0 hz1 hz2 hzV hl0 hl1 hl2 hgb hgbl hs1 hA2 eq4 eq5 e4 hq4 hq hw2 hh2 hywb hkm hm hkd ew
              go_wp2_with fail
              go_still_tail 19, (by kernel_rfl)
              all_goals
                obtain ⟨hB9, hD9, hR9, hW9⟩ := HALL.out
                go_wp2_with fail
                go_roundw
                case rel => exact ⟨k + 1, by omega, by go_num, HO.out, hM.out, hB9, hD9, hR9, hW9⟩
                case measure => simp [intOf]; omega
            · have hmy : Pl.mayc cx = false := by simpa using hmy
              rw [hmy]
              have hE := writeE_arg (B := B) Hin.out Ha.out hBl (okN_no hlt (by rw [hwx]; exact hmy))
              have hL : writeL W H L ⟨X0, Y0, X1, Y1⟩ B = L := writeL_ne hE (by decide)
              go_wp2_with fail
              obtain ⟨hR4, hg4⟩ := set3 hR (.int .i64 W) (.int .i64 H) (.slice (some ⟨g, 0, none⟩) L.length cap)
              have hr4 := hR4.cell
              have hM := (h0.below hW).kept hg4 (.inl (by simp [Value.ownBlock]; omega))
              have hW4 := grown_below hW hg4 hW.size (fun k e => by cases e; omega)
              exact bodyPost_ret (v := .tuple #[.agg #[.int .i64 W, .int .i64 H, .slice (some ⟨g, 0, none⟩) L.length cap], .int .i64 1]) (by simp [results, Try.results23, go_sem, hr4]) rfl ⟨_, by rw [hE], by rw [hL]; exact hM, .inl rfl, hW4⟩
          · obtain rfl : k = A := by omega
            have hE := writeE_ok (B := B) Hin.out Ha.out hBl hok
            have hL := writeL_nat (L := L) (B := B) hm hE
            have hmA : m * (Y1 - Y0) = k := by rw [← hm]; exact HA.out
            rw [hmA] at hL
            have hfm := hB.free
            have hfr := hR.free
            have hrm := hR.cell
            have hn0 : ¬ w.heap.size = w.heap.size + 2 := by omega
            have hn1 : ¬ w.heap.size + 2 = w.heap.size := by omega
            go_wp2_with fail
            have hR5 := hR.other (c := w.heap.size) (by omega) 2 (.slice (some ⟨g1, 0, none⟩) L.length cap1)
            obtain ⟨hR4, hg4⟩ := set3 hR5 (.int .i64 W) (.int .i64 H) (.slice (some ⟨g1, 0, none⟩) L.length cap1)
            have hr4 := hR4.cell
            have hM : RM wr (.slice (some ⟨g1, 0, none⟩) L.length cap1) W H (putL L (writeP W X0 Y0 X1 Y1 m k) (fun i => wcol B (wIx W X0 Y0 m i))) := ⟨by rw [putL_length]; exact hown, h0.m.putL (fun i hi hp => by
              unfold writeP at hp
              have hp := of_decide_eq_true hp
              refine ⟨wcol_isC _ _, ?_⟩
              have := okN_le (k := wIx W X0 Y0 m i + 1) hok (by omega)
              rw [okN_succ, Bool.and_eq_true] at this
              exact this.2)⟩
            have hM := (hM.kept (grown_set (b := w.heap.size) (i := 2) (.slice (some ⟨g1, 0, none⟩) L.length cap1)) (.inl (by simp [Value.ownBlock]; omega))).kept hg4 (.inl (by simp [Value.ownBlock]; omega))
            have hW5 := hW.setCell (p := ⟨w.heap.size, 2, none⟩) (Nat.le_refl _) (.slice (some ⟨g1, 0, none⟩) L.length cap1)
            have hW4 := grown_below hW5 hg4 hW5.size (fun k e => by cases e; omega)
            exact bodyPost_ret (v := .tuple #[.agg #[.int .i64 W, .int .i64 H, .slice (some ⟨g1, 0, none⟩) L.length cap1], .int .i64 0]) (by simp [results, Try.results23, go_sem, hr4]) rfl ⟨_, by rw [hE], by rw [hL]; exact hM, .inr ⟨g1, rfl, by omega⟩, hW4⟩
  · have hE := writeE_out (B := B) hin
    have hL : writeL W H L ⟨r0, r1, r2, r3⟩ B = L := writeL_ne hE (by decide)
    by_cases he : (⟨r0, r1, r2, r3⟩ : Pl.R).empty
    · have hev : decide ((⟨r0, r1, r2, r3⟩ : Pl.R).empty) = true := by simpa using he
      obtain ⟨cv, hcv⟩ : ∃ cv, decide (Pl.coversR ⟨0, 0, W, H⟩ ⟨r0, r1, r2, r3⟩) = cv := ⟨_, rfl⟩
      clear hin he
      obtain ⟨hB, hD, hR, hW, hz⟩ := three_boxes w #[.int .i64 W, .int .i64 H, .slice (some ⟨g, 0, none⟩) L.length cap] #[.int .i64 r0, .int .i64 r1, .int .i64 r2, .int .i64 r3] #[.int .i64 0, .int .i64 0, .slice none 0 0] 25 32 25
      go_enter Try.func23, Try.ntmps23
      go_wp2_with fail
      generalize hV : ((w.alloc (.cells #[.int .i64 W, .int .i64 H, .slice (some ⟨g, 0, none⟩) L.length cap] 25)).alloc (.cells #[.int .i64 r0, .int .i64 r1, .int .i64 r2, .int .i64 r3] 32)).alloc (.cells #[.int .i64 0, .int .i64 0, .slice none 0 0] 25) = V at *
      clear hV
      have hcm := hB.cell
      have hdm := hD.cell
      have hl0 := hB.lt
      have hl1 := hD.lt
      go_region_held3 (fun w' => Below V.heap.size V w' ∧ (∀ b o, b < V.heap.size → w'.cell? ⟨b, o, none⟩ = V.cell? ⟨b, o, none⟩)) ((refine keepS ?_; first | assumption | go_grown))
      ((first | (go_at_call 36; refine (ref04_Box W H _ _).mono ?_; rintro e wz ⟨rfl, hbz⟩; have hWz : Below V.heap.size V wz := below_of (by first | assumption | go_grown) hbz; clear hbz) | (go_at_call 89; refine (ref_Covers_v hcv _).mono ?_; rintro e wz ⟨rfl, hbz⟩; have hWz : Below V.heap.size V wz := below_of (by first | assumption | go_grown) hbz; clear hbz)))
      have hB := hB.below hWz hB.lt
      have hD := hD.below hWz hD.lt
      have hR := hR.below hWz hR.lt
      have hW := below_of hW hWz
      have hz0 := hWz.size
      clear hWz
      go_wp2_with fail
      refine (ref_Empty_v hev _).mono ?_
      rintro e V1 ⟨rfl, hb1⟩
      have hB := Blk.next hb1 hB
      have hD := Blk.next hb1 hD
      have hR := Blk.next hb1 hR
      have hW := below_of hW hb1
      have hz1 := hb1.size
      clear hb1 hcm hdm
      have hcm := hB.cell
      have hdm := hD.cell
      have hfr := hR.free
      have hrm := hR.cell
      go_wp2_with fail
      obtain ⟨hR4, hg4⟩ := set3 hR (.int .i64 W) (.int .i64 H) (.slice (some ⟨g, 0, none⟩) L.length cap)
      have hr4 := hR4.cell
      have hM := (h0.below hW).kept hg4 (.inl (by simp [Value.ownBlock]; omega))
      have hW4 := grown_below hW hg4 hW.size (fun k e => by cases e; omega)
      exact bodyPost_ret (v := .tuple #[.agg #[.int .i64 W, .int .i64 H, .slice (some ⟨g, 0, none⟩) L.length cap], .int .i64 4]) (by simp [results, Try.results23, go_sem, hr4]) rfl ⟨_, by rw [hE], by rw [hL]; exact hM, .inl rfl, hW4⟩
    · have hev : decide ((⟨r0, r1, r2, r3⟩ : Pl.R).empty) = false := by simpa using he
      have hcv : decide (Pl.coversR ⟨0, 0, W, H⟩ ⟨r0, r1, r2, r3⟩) = false := by
        rw [decide_eq_false_iff_not]; exact fun hc => hin ⟨he, hc⟩
      clear hin he
      obtain ⟨hB, hD, hR, hW, hz⟩ := three_boxes w #[.int .i64 W, .int .i64 H, .slice (some ⟨g, 0, none⟩) L.length cap] #[.int .i64 r0, .int .i64 r1, .int .i64 r2, .int .i64 r3] #[.int .i64 0, .int .i64 0, .slice none 0 0] 25 32 25
      go_enter Try.func23, Try.ntmps23
      go_wp2_with fail
      generalize hV : ((w.alloc (.cells #[.int .i64 W, .int .i64 H, .slice (some ⟨g, 0, none⟩) L.length cap] 25)).alloc (.cells #[.int .i64 r0, .int .i64 r1, .int .i64 r2, .int .i64 r3] 32)).alloc (.cells #[.int .i64 0, .int .i64 0, .slice none 0 0] 25) = V at *
      clear hV
      have hcm := hB.cell
      have hdm := hD.cell
      have hl0 := hB.lt
      have hl1 := hD.lt
      go_region_held3 (fun w' => Below V.heap.size V w' ∧ (∀ b o, b < V.heap.size → w'.cell? ⟨b, o, none⟩ = V.cell? ⟨b, o, none⟩)) ((refine keepS ?_; first | assumption | go_grown))
      ((first | (go_at_call 36; refine (ref04_Box W H _ _).mono ?_; rintro e wz ⟨rfl, hbz⟩; have hWz : Below V.heap.size V wz := below_of (by first | assumption | go_grown) hbz; clear hbz) | (go_at_call 89; refine (ref_Covers_v hcv _).mono ?_; rintro e wz ⟨rfl, hbz⟩; have hWz : Below V.heap.size V wz := below_of (by first | assumption | go_grown) hbz; clear hbz)))
      have hB := hB.below hWz hB.lt
      have hD := hD.below hWz hD.lt
      have hR := hR.below hWz hR.lt
      have hW := below_of hW hWz
      have hz0 := hWz.size
      clear hWz
      go_wp2_with fail
      refine (ref_Empty_v hev _).mono ?_
      rintro e V1 ⟨rfl, hb1⟩
      have hB := Blk.next hb1 hB
      have hD := Blk.next hb1 hD
      have hR := Blk.next hb1 hR
      have hW := below_of hW hb1
      have hz1 := hb1.size
      clear hb1 hcm hdm
      have hcm := hB.cell
      have hdm := hD.cell
      have hfr := hR.free
      have hrm := hR.cell
      go_wp2_with fail
      obtain ⟨hR4, hg4⟩ := set3 hR (.int .i64 W) (.int .i64 H) (.slice (some ⟨g, 0, none⟩) L.length cap)
      have hr4 := hR4.cell
      have hM := (h0.below hW).kept hg4 (.inl (by simp [Value.ownBlock]; omega))
      have hW4 := grown_below hW hg4 hW.size (fun k e => by cases e; omega)
      exact bodyPost_ret (v := .tuple #[.agg #[.int .i64 W, .int .i64 H, .slice (some ⟨g, 0, none⟩) L.length cap], .int .i64 4]) (by simp [results, Try.results23, go_sem, hr4]) rfl ⟨_, by rw [hE], by rw [hL]; exact hM, .inl rfl, hW4⟩

end Go.Proofs.Ytfnnhjnhccbglaa
