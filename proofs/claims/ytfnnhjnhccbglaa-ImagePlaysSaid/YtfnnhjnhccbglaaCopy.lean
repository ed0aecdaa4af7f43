/- Walks: images: Copy. -/
import Derived.Test.YtfnnhjnhccbglaaClone
import Derived.Test.YtfnnhjnhccbglaaPCopy
namespace Go.Proofs.Ytfnnhjnhccbglaa
open Go.RowKit

theorem img_putCells {p b W H : Nat} {L : List Int} {f : Nat → Int} (m : Nat) : ∀ {w : World} {P Q : Nat → Bool} (k : Nat), Img w p b W H (putL L P f) → k + m ≤ L.length →
    (∀ j, j < m → Pl.isC (f (k + j)) ∧ Pl.mayc (f (k + j)) = true) → (∀ i, i < L.length → (Q i = true ↔ P i = true ∨ ∃ j, j < m ∧ i = k + j)) →
    Img (w.setCells b k ((List.range' k m).map (fun i => .int .u32 (f i)))) p b W H (putL L Q f) := by
  induction m with
  | zero =>
    intro w P Q k h hk hf hq
    have e : putL L Q f = putL L P f := putL_congr (fun i hi => by rw [Bool.eq_iff_iff, hq i hi]; simp) (fun _ _ _ => rfl)
    rw [e]; exact h
  | succ m ih =>
    intro w P Q k h hk hf hq
    rw [List.range'_succ, List.map_cons, World.setCells]
    have h0 := hf 0 (by omega)
    rw [Nat.add_zero] at h0
    have h1 := h.putL (Q := fun i => P i || decide (i = k)) k (by omega) h0.1 h0.2 (fun i hi => by simp)
    refine ih (k + 1) h1 (by omega) (fun j hj => by have := hf (j + 1) (by omega); rwa [show k + 1 + j = k + (j + 1) by omega]) (fun i hi => ?_)
    rw [hq i hi]
    simp only [Bool.or_eq_true, decide_eq_true_eq]
    constructor
    · rintro (hp | ⟨j, hj, rfl⟩)
      · exact .inl (.inl hp)
      · by_cases e : j = 0
        · subst e; exact .inl (.inr rfl)
        · exact .inr ⟨j - 1, by omega, by omega⟩
    · rintro ((hp | rfl) | ⟨j, hj, rfl⟩)
      · exact .inl hp
      · exact .inr ⟨0, by omega, rfl⟩
      · exact .inr ⟨j + 1, by omega, by omega⟩

set_option maxHeartbeats 1000000 in
theorem copy_far (n : Int) (w : World) :
    Calls Try.prog 87 #[.int .i64 n] w fun e w' => e = .returned (.int .i64 (clampF n)) ∧ w = w' := by
  go_enter Try.func87, Try.ntmps87
  go_wp2
  go_ret
  exact ⟨ret_int (by unfold clampF; rfl), rfl⟩



theorem image_row_m {w : World} {p b W H : Nat} {L : List Int} (h : Img w p b W H L) (y x0 x1 m : Nat) {q : Nat} (hq : y * W + x0 = q) (hy : y < H) (hm : x0 + m = x1) (h0 : 0 < m) (h1 : x1 ≤ W) :
    Calls Try.prog 85 #[.pointer (some ⟨p, 0, none⟩), .int .i64 y, .int .i64 x0, .int .i64 x1] w fun e w' =>
      (∃ c, e = .returned (.slice (some ⟨b, q, none⟩) m c)) ∧ w' = w.drew := by
  subst hq
  have := image_row h y x0 x1 hy (by omega) h1
  rwa [show x1 - x0 = m by omega] at this

theorem wpList_copy_run {P : Program} (w : World) {ops : Array Oper} {rest : List Oper} {o : Oper} {a : Act} {Q : Exit → Act → World → Prop} (hgd : o.guard = none) (d s : Operand) (t t' : TypeId)
    (ho : o.op = .call { callee := .builtin .copy, args := #[d, s], argTypes := #[t, t'] }) (v u : Value) (hd : a.eval d = v) (hs : a.eval s = u) {v' : Value} {w' : World}
    (hr : (Builtin.copy_ #[t, t'] o.type #[v, u]).run P w = .ok v' w') (h : wpList P ops Q rest (a.put o.dst v') w') : wpList P ops Q (o :: rest) a w :=
  wpList_plain hgd fun _ hK => by
    unfold Oper.wp execOp
    simp only [ho, resolve, invoke, builtin, Sem.run_bind, Sem.run_pure, Result.andThen_ok, List.map_toArray, List.map_cons, List.map_nil, hd, hs, hr]
    exact hK _ _ h

/-- A row's copy: as an equation. -/
theorem row_copy {w : World} {p b W H p2 b2 W2 H2 : Nat} {L L2 : List Int} (h : Img w p b W H L) (h2 : Img w p2 b2 W2 H2 L2) (q1 q2 m : Nat) (f : Nat → Int) (h1 : q1 + m ≤ L.length) (h3 : q2 + m ≤ L2.length)
    (hf : ∀ j, j < m → f (q1 + j) = gd L2 (q2 + j)) (c1 c3 : Nat) :
    (Builtin.copy_ #[22, 22] 3 #[.slice (some ⟨b, q1, none⟩) m c1, .slice (some ⟨b2, q2, none⟩) m c3]).run Try.prog w = .ok (goInt m) (w.setCells b q1 ((List.range' q1 m).map (fun i => .int .u32 (f i)))) := by
  have hl : ((List.range' q1 m).map (fun i => Value.int .u32 (f i))).length = m := by simp
  have := run_copy_cells (P := Try.prog) w 22 22 3 30 b q1 m c1 ⟨b2, q2, none⟩ m c3 ((List.range' q1 m).map (fun i => .int .u32 (f i))) Try.underlying22 (by obtain ⟨i, hi, hz, hsize, hby⟩ := info_parts colInfo; rw [hi]; simp [hsize]) (by rw [hl]; exact (Nat.min_self m).symm)
    (fun j v hv => by
      have hj : j < m := by rw [← hl]; exact (List.getElem?_eq_some_iff.1 hv).1
      have ha : (⟨b2, q2, none⟩ : Addr).add j = ⟨b2, q2 + j, none⟩ := by unfold Addr.add; split <;> simp_all
      rw [ha, h2.px (q2 + j) (by omega), ← hf j hj, ← hv]
      simp [List.getElem?_map, hj])
    (fun j hj => by rw [hl] at hj; rw [h.px (q1 + j) (by omega)]; rfl) (fun j _ => h.free _)
    (fun v hv => by obtain ⟨i, _, rfl⟩ := List.mem_map.1 hv; rfl)
  rwa [hl] at this

/-- A cut, its answer known. -/
theorem rect_Cut_is {a b c d p q r s x0 y0 x1 y1 : Int} (h : Pl.cutR ⟨a, b, c, d⟩ ⟨p, q, r, s⟩ = ⟨x0, y0, x1, y1⟩) (w : World) :
    Calls Try.prog 84 #[.agg #[.int .i64 a, .int .i64 b, .int .i64 c, .int .i64 d], .agg #[.int .i64 p, .int .i64 q, .int .i64 r, .int .i64 s]] w fun e w' =>
      e = .returned (.agg #[.int .i64 x0, .int .i64 y0, .int .i64 x1, .int .i64 y1]) ∧ Below w.heap.size w w' := by
  have := rect_Cut a b c d p q r s w
  rw [h] at this
  exact this

set_option maxHeartbeats 4000000 in
theorem image_Copy {w : World} {p b W H p2 b2 W2 H2 : Nat} {L L2 : List Int} (h : Img w p b W H L) (h2 : Img w p2 b2 W2 H2 L2) (r0 r1 r2 r3 dx dy : Int) :
    Calls Try.prog 22 #[.pointer (some ⟨p, 0, none⟩), .pointer (some ⟨p2, 0, none⟩), .agg #[.int .i64 r0, .int .i64 r1, .int .i64 r2, .int .i64 r3], .int .i64 dx, .int .i64 dy] w fun e w' =>
      e = .returned (.int .i64 (copyN W L W2 H2 ⟨r0, r1, r2, r3⟩ dx dy)) ∧ Img w' p b W H (copyL W L W2 H2 L2 ⟨r0, r1, r2, r3⟩ dx dy) ∧ w.grownBy w' (some b) := by
  obtain ⟨X0, Y0, X1, Y1, U, V, eC, hC⟩ := cuts (W := W) (H := H) (W2 := W2) (H2 := H2) ⟨r0, r1, r2, r3⟩ (clampF dx) (clampF dy)
  have hN : copyN W L W2 H2 ⟨r0, r1, r2, r3⟩ dx dy = Pl.areaR ⟨X0, Y0, X1, Y1⟩ := by unfold copyN; rw [copyN_area _ _ _ h.len h.m.w1, eC]
  have hL : copyL W L W2 H2 L2 ⟨r0, r1, r2, r3⟩ dx dy = putL L (copyQ W Y0 X0 X1 U V Y1) (copyF W W2 L2 (clampF dx) (clampF dy)) := by
    unfold copyL copyQ
    exact putL_congr (fun i hi => copyP_nat _ _ _ h.len hi h.m.w1 eC hC) (fun _ _ _ => rfl)
  rw [hN, hL]
  have EC := Lib.hid eC
  have bx := clampF_bd dx
  have bY := clampF_bd dy
  have hB := Blk.new w #[.int .i64 r0, .int .i64 r1, .int .i64 r2, .int .i64 r3] 32
  have hW : Below w.heap.size w (w.alloc (.cells #[.int .i64 r0, .int .i64 r1, .int .i64 r2, .int .i64 r3] 32)) := by go_grown
  have hp := h.ltp
  have hb := h.ltb
  have hp2 := h2.ltp
  have hb2 := h2.ltb
  clear hN hL eC
  go_enter Try.func22, Try.ntmps22
  go_wp2_with fail
  refine (copy_far dx _).mono ?_
  rintro e wz ⟨rfl, rfl⟩
  go_wp2_with fail
  refine (copy_far dy _).mono ?_
  rintro e wz ⟨rfl, rfl⟩
  generalize hdx : clampF dx = ex at *
  generalize hdy : clampF dy = ey at *
  have HX := Lib.hid hdx
  have HY := Lib.hid hdy
  clear hdx hdy
  generalize hV : w.alloc (.cells #[.int .i64 r0, .int .i64 r1, .int .i64 r2, .int .i64 r3] 32) = V1 at *
  clear hV
  have hI := h.below hW hp hb
  obtain ⟨cap, k1, k2, hc0, hc1, hc2⟩ := hI.cells
  have hlm := hB.lt
  have hw1 := h.m.w2
  have hh1 := h.m.h2
  have e1 : IntKind.i64.wrap ((W : Int) - ex) = W - ex := IntWalk.i64_in _ (by omega)
  have e2 : IntKind.i64.wrap ((H : Int) - ey) = H - ey := IntWalk.i64_in _ (by omega)
  have e3 : IntKind.i64.wrap (-ex) = -ex := IntWalk.i64_in _ (by omega)
  have e4 : IntKind.i64.wrap (-ey) = -ey := IntWalk.i64_in _ (by omega)
  go_wp2_with fail
  go_region_held3 (fun w' => w'.cell? ⟨p, 0, none⟩ = some (.int .i64 W) ∧ w'.cell? ⟨p, 1, none⟩ = some (.int .i64 H)) ((first | (exact ⟨‹_›, ‹_›⟩) | (refine ⟨?_, ?_⟩ <;> (refine cell_alloc ?_ _ <;> assumption)) | (simp [*, cell?_setCell_ne]))) (fail)
  have hO := Blk.new V1 #[.int .i64 (-ex), .int .i64 (-ey), .int .i64 (W - ex), .int .i64 (H - ey)] 32
  have hBO := hB.alloc (.cells #[.int .i64 (-ex), .int .i64 (-ey), .int .i64 (W - ex), .int .i64 (H - ey)] 32)
  go_wp2_with fail
  have hW3 : Below w.heap.size w (V1.alloc (.cells #[.int .i64 (-ex), .int .i64 (-ey), .int .i64 (W - ex), .int .i64 (H - ey)] 32)).drew := by have := hW.size; go_grown
  obtain ⟨q0, q1, q2, q3, E1⟩ : ∃ q0 q1 q2 q3, Pl.cutR ⟨r0, r1, r2, r3⟩ ⟨0, 0, W2, H2⟩ = ⟨q0, q1, q2, q3⟩ := ⟨_, _, _, _, rfl⟩
  have E2 : Pl.cutR ⟨q0, q1, q2, q3⟩ ⟨-ex, -ey, W - ex, H - ey⟩ = ⟨X0, Y0, X1, Y1⟩ := by rw [← E1]; exact EC.out
  have HE1 := Lib.hid E1
  have HE2 := Lib.hid E2
  clear E1 E2 hc0 hc1 hc2 hI
  have hO1 := hO.drew.drew
  have hB1 := hBO.drew.drew
  have hco := hO1.cell
  have hcb := hB1.cell
  have hfb := hB1.free
  generalize (V1.alloc (.cells #[.int .i64 (-ex), .int .i64 (-ey), .int .i64 (W - ex), .int .i64 (H - ey)] 32)).drew = V3 at *
  have hW4 := hW3.drew
  have PACK := Lib.hid (And.intro h (And.intro EC (And.intro hC (And.intro bx (And.intro bY (And.intro hw1 (And.intro hh1 (And.intro hp hb))))))))
  clear h EC hC bx bY hO hBO hB hW hlm k1 k2 hw1 hh1 e1 e2 e3 e4 hW3 hp hb
  apply wp_cut (fun w' => Blk w' w.heap.size #[.int .i64 X0, .int .i64 Y0, .int .i64 X1, .int .i64 Y1] 32 ∧ Below w.heap.size w w')
  case h1 =>
    go_region_with ((first
      | (go_at_call 81; refine (image_Box (h2.below (by first | assumption | go_grown) hp2 hb2)).mono ?_; rintro e wz ⟨rfl, hbz⟩; have hWz : Below w.heap.size w wz := below_of (by first | assumption | go_grown) hbz; have hBz : Blk wz w.heap.size #[.int .i64 r0, .int .i64 r1, .int .i64 r2, .int .i64 r3] 32 := Blk.next hbz (by assumption); have hOz : Blk wz V1.heap.size #[.int .i64 (-ex), .int .i64 (-ey), .int .i64 (W - ex), .int .i64 (H - ey)] 32 := Blk.next hbz (by assumption); clear hbz; (try clear hcb hco hfb); (try clear hcz hoz hfz); have hcz := hBz.cell; have hoz := hOz.cell; have hfz := hBz.free)
      | (go_at_call 84; ((first | (with_reducible refine (rect_Cut_is HE1.out _).mono ?_) | (with_reducible refine (rect_Cut_is HE2.out _).mono ?_))); rintro e wz ⟨rfl, hbz⟩; have hWz : Below w.heap.size w wz := below_of (by first | assumption | go_grown) hbz; have hBz : Blk wz w.heap.size #[.int .i64 r0, .int .i64 r1, .int .i64 r2, .int .i64 r3] 32 := Blk.next hbz (by assumption); have hOz : Blk wz V1.heap.size #[.int .i64 (-ex), .int .i64 (-ey), .int .i64 (W - ex), .int .i64 (H - ey)] 32 := Blk.next hbz (by assumption); clear hbz; (try clear hcb hco hfb); (try clear hcz hoz hfz); have hcz := hBz.cell; have hoz := hOz.cell; have hfz := hBz.free)))
    all_goals
      obtain ⟨hR4, hg4⟩ := set4 hBz (.int .i64 X0) (.int .i64 Y0) (.int .i64 X1) (.int .i64 Y1)
      exact ⟨rfl, hR4, grown_below hWz hg4 hWz.size (fun k e => by cases e; exact Nat.le_refl _)⟩
  case h2 =>
    obtain ⟨h, EC, hC, bx, bY, hw1, hh1, hp, hb⟩ := PACK.out
    clear PACK hO1 hB1 hco hcb hfb hW4
    rintro V4 ⟨hB, hW⟩
    have hcm := hB.cell
    go_wp2_with fail
    refine (image_Clone (h2.below hW hp2 hb2)).mono ?_
    rintro e V5 ⟨p5, b5, rfl, hI5, hp5, hb5, hbz⟩
    have hB := Blk.next hbz hB
    have hzV := hW.size
    have hW := below_of hW hbz
    have hbb := hB.lt
    have hcm := hB.cell
    have hne : ¬ w.heap.size = b := by omega
    go_wp2_with fail
    have hI := h.below hW hp hb
    rw [show L = putL L (copyQ W Y0 X0 X1 U V Y0) (copyF W W2 L2 ex ey) from (putL_false (fun i hi => by unfold copyQ; rw [decide_eq_false_iff_not]; omega)).symm] at hI
    have hG := grown_of hW (some b)
    have hs := h.small
    have hs2 := h2.small
    have Hlen := Lib.hid h.len
    have Hlen2 := Lib.hid h2.len
    have hbb5 : ¬ b = b5 := by omega
    have hpb5 : ¬ p5 = b := by omega
    have hneB : ¬ w.heap.size = b := by omega
    have hw1b := h.m.w1
    have hw2b := h2.m.w2
    have hh2b := h2.m.h2
    clear hcm hW
    go_loopw [14] (fun y wr => ∃ yy : Nat, Y0 ≤ yy ∧ (yy ≤ Y1 ∨ yy = Y0) ∧ y = .int .i64 yy ∧ Img wr p b W H (putL L (copyQ W Y0 X0 X1 U V yy) (copyF W W2 L2 ex ey)) ∧ Img wr p5 b5 W2 H2 L2 ∧ Blk wr w.heap.size #[.int .i64 X0, .int .i64 Y0, .int .i64 X1, .int .i64 Y1] 32 ∧ w.grownBy wr (some b)) (fun y _ => Y1 - (intOf y).toNat)
    case atStart => exact ⟨Y0, Nat.le_refl _, .inr rfl, rfl, hI, hI5, hB, hG⟩
    case round =>
      clear hI hI5 hB hG
      obtain ⟨y, hy0, hy1, rfl, hI, hI5, hB, hG⟩ := hrel
      have hcm := hB.cell
      by_cases hlt : y < Y1
      · have hc : Cuts W H W2 H2 ex ey X0 Y0 X1 Y1 U V := by rcases hC with hC | hC; exact hC; omega
        obtain ⟨c1, c2, c3, c4, c5, c6, c7, c8⟩ := hc
        obtain ⟨m, hm⟩ : ∃ m, X1 - X0 = m := ⟨_, rfl⟩
        obtain ⟨v, hv⟩ : ∃ v, V + (y - Y0) = v := ⟨_, rfl⟩
        obtain ⟨u1, hu1⟩ : ∃ u1, U + m = u1 := ⟨_, rfl⟩
        have a1 : IntKind.i64.wrap ((y : Int) + ey) = v := by rw [IntWalk.i64_in _ (by omega)]; omega
        have a2 : IntKind.i64.wrap ((X0 : Int) + ex) = U := by rw [IntWalk.i64_in _ (by omega)]; omega
        have a3 : IntKind.i64.wrap ((X1 : Int) + ex) = u1 := by rw [IntWalk.i64_in _ (by omega)]; omega
        obtain ⟨q1, hq1⟩ : ∃ q1, v * W + U = q1 := ⟨_, rfl⟩
        obtain ⟨q2, hq2⟩ : ∃ q2, y * W2 + X0 = q2 := ⟨_, rfl⟩
        have hvH : v < H := by omega
        have hyb : y + 1 ≤ Y1 ∧ Y1 ≤ 256 := by omega
        have hq1l : q1 + m ≤ L.length := by
          rw [Hlen.out]
          have := Nat.mul_le_mul_right W (show v + 1 ≤ H by omega)
          rw [Nat.add_mul, Nat.one_mul, Nat.mul_comm H W] at this
          omega
        have hq2l : q2 + m ≤ L2.length := by
          rw [Hlen2.out]
          have := Nat.mul_le_mul_right W2 (show y + 1 ≤ H2 by omega)
          rw [Nat.add_mul, Nat.one_mul, Nat.mul_comm H2 W2] at this
          omega
        have hff : ∀ j, j < m → copyF W W2 L2 ex ey (q1 + j) = gd L2 (q2 + j) := fun j hj => by
          have e1 : (q1 + j) / W = v ∧ (q1 + j) % W = U + j := by
            rw [← hq1, Nat.add_assoc]
            exact ⟨(row_dm (by omega)).2, (row_dm (by omega)).1⟩
          unfold copyF px
          rw [e1.1, e1.2, show (((v : Nat) : Int) - ey) = (y : Int) by omega, show (((U + j : Nat) : Int) - ex) = ((X0 + j : Nat) : Int) by omega, ← hq2]
          congr 1
          push_cast
          omega
        have hfc : ∀ j, j < m → Pl.isC (copyF W W2 L2 ex ey (q1 + j)) ∧ Pl.mayc (copyF W W2 L2 ex ey (q1 + j)) = true := fun j hj => by
          rw [hff j hj]; exact h2.m.col _ (gd_mem' (by omega))
        have hcp := row_copy hI.drew.drew.drew hI5.drew.drew.drew q1 q2 m (copyF W W2 L2 ex ey) (by simpa [putL_length] using hq1l) hq2l hff
        have hI2 := img_putCells (Q := copyQ W Y0 X0 X1 U V (y + 1)) m q1 hI.drew.drew.drew hq1l hfc (fun i hi => by rw [copyQ_step (by omega) hy0, hv, hq1, hm])
        have hg2 := grown_setCells (b := b) ((List.range' q1 m).map (fun i => Value.int .u32 (copyF W W2 L2 ex ey i))) q1 wr.drew.drew.drew
        have hI52 := hI5.drew.drew.drew.of_blocks (hg2.block p5 hI5.ltp (by simpa using hpb5)) (hg2.block b5 hI5.ltb (by simpa using fun e => hbb5 e.symm))
        have hB2 := (hB.drew.drew.drew).kept hg2 (by simpa using hneB)
        have hG2 := (((hG.trans (grown_drew _ _)).trans (grown_drew _ _)).trans (grown_drew _ _)).trans hg2
        have hcm2 := hB2.cell
        generalize (List.range' q1 m).map (fun i => Value.int .u32 (copyF W W2 L2 ex ey i)) = cs at *
        clear hff hfc hg2 hv hq1l hq2l
        have HA := Lib.hid (And.intro hI (And.intro hI5 (And.intro hI2 (And.intro hI52 (And.intro hB2 hG2)))))
        have hr1 : ∀ wq, Img wq p b W H (putL L (copyQ W Y0 X0 X1 U V y) (copyF W W2 L2 ex ey)) → Calls Try.prog 85 #[.pointer (some ⟨p, 0, none⟩), .int .i64 v, .int .i64 U, .int .i64 u1] wq fun e w' => (∃ c, e = .returned (.slice (some ⟨b, q1, none⟩) m c)) ∧ w' = wq.drew :=
          fun wq hq => image_row_m hq v U u1 m hq1 hvH hu1 (by omega) (by omega)
        have hr2 : ∀ wq, Img wq p5 b5 W2 H2 L2 → Calls Try.prog 85 #[.pointer (some ⟨p5, 0, none⟩), .int .i64 y, .int .i64 X0, .int .i64 X1] wq fun e w' => (∃ c, e = .returned (.slice (some ⟨b5, q2, none⟩) m c)) ∧ w' = wq.drew :=
          fun wq hq => image_row_m hq y X0 X1 m hq2 (by omega) (by omega) (by omega) (by omega)
        have HR1 := Lib.hid hr1
        have HR2 := Lib.hid hr2
        clear hr1 hr2 hI hI5 hI2 hI52 hB2 hG2 hB hG c1 c2 c3 c4 c5 c6 c7 c8 hm hq1 hq2 hvH hu1 hC
        go_wp2_with fail
        go_region_held3 (fun w' => ∀ i, w'.cell? ⟨w.heap.size, i, none⟩ = (#[.int .i64 X0, .int .i64 Y0, .int .i64 X1, .int .i64 Y1] : Array Value)[i]?) ((first | assumption)) ((first
          | (go_at_call 85; (first | (with_reducible refine (HR1.out _ HA.out.1.drew).mono ?_) | (with_reducible refine (HR1.out _ HA.out.1.drew.drew).mono ?_)); rintro e wz ⟨⟨cpa, rfl⟩, rfl⟩)
          | (go_at_call 85; (first | (with_reducible refine (HR2.out _ HA.out.2.1.drew).mono ?_) | (with_reducible refine (HR2.out _ HA.out.2.1.drew.drew).mono ?_)); rintro e wz ⟨⟨cpb, rfl⟩, rfl⟩)
          | ((with_reducible refine wpList_copy_run (o := ⟨some 74, _, _, _, _, _⟩) _ ?g1 (.tmp 66) (.tmp 73) 22 22 ?g2 (.slice (some ⟨b, q1, none⟩) m cpa) (.slice (some ⟨b5, q2, none⟩) m cpb) ?g3 ?g4 (hcp cpa cpb) ?g5); (case g1 => rfl); (case g2 => rfl); (case g3 => rfl); (case g4 => rfl))))
        all_goals
          obtain ⟨-, -, hI2, hI52, hB2, hG2⟩ := HA.out
          go_wp2_with fail
          go_roundw
          case rel => exact ⟨y + 1, by omega, .inl (by omega), by go_num, hI2, hI52, hB2, hG2⟩
          case measure => simp [intOf]; omega
      · have ey1 : y - Y0 = Y1 - Y0 := by omega
        have hI2 : Img wr p b W H (putL L (copyQ W Y0 X0 X1 U V Y1) (copyF W W2 L2 ex ey)) := by
          have e2 : copyQ W Y0 X0 X1 U V y = copyQ W Y0 X0 X1 U V Y1 := by funext i; unfold copyQ; rw [ey1]
          rw [← e2]; exact hI
        have hXW : X0 ≤ 256 ∧ Y0 ≤ 256 ∧ X1 ≤ 256 ∧ Y1 ≤ 256 := by rcases hC with hC | hC; (unfold Cuts at hC; omega); omega
        go_wp2_with fail
        refine (rect_Area _ _ _ _ (.inr ⟨by omega, by omega⟩) (by omega) _).mono ?_
        rintro e w5 ⟨rfl, hb5⟩
        go_wp2_with fail
        go_ret
        rw [HX.out, HY.out]
        exact ⟨rfl, hI2.below hb5 hI2.ltp hI2.ltb, hG.trans (grown_of hb5 _)⟩

end Go.Proofs.Ytfnnhjnhccbglaa
