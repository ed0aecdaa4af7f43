/- The walk of the law ImagePlays: whatever is set, filled, copied and written, the answers, and all colors, are the document's. -/
import Derived.Test.YtfnnhjnhccbglaaWrite4
import Derived.Test.YtfnnhjnhccbglaaCopy4
import Derived.Test.YtfnnhjnhccbglaaLives
import Derived.Test.YtfnnhjnhccbglaaLike04
import Derived.Test.YtfnnhjnhccbglaaBuild04
import Derived.Test.YtfnnhjnhccbglaaGood04
namespace Go.Proofs.Ytfnnhjnhccbglaa
open Go.RowKit

/-- Something that is done. -/
structure Dd where
  kind : Int
  x : Int
  y : Int
  c : Int
  r0 : Int
  r1 : Int
  r2 : Int
  r3 : Int
  B : List Int

structure DdAt (w : World) (g q : Nat) (d : Dd) (u : Value) : Prop where
  c0 : w.cell? ⟨g, q, none⟩ = some (.int .i64 d.kind)
  c1 : w.cell? ⟨g, q + 1, none⟩ = some (.int .i64 d.x)
  c2 : w.cell? ⟨g, q + 2, none⟩ = some (.int .i64 d.y)
  c3 : w.cell? ⟨g, q + 3, none⟩ = some (.int .u32 d.c)
  c4 : w.cell? ⟨g, q + 4, none⟩ = some (.int .i64 d.r0)
  c5 : w.cell? ⟨g, q + 5, none⟩ = some (.int .i64 d.r1)
  c6 : w.cell? ⟨g, q + 6, none⟩ = some (.int .i64 d.r2)
  c7 : w.cell? ⟨g, q + 7, none⟩ = some (.int .i64 d.r3)
  c8 : w.cell? ⟨g, q + 8, none⟩ = some u
  bytes : ArgB w u d.B
  col : Pl.isC d.c

/-- v is a slice of things to be done that came in. -/
structure ArgD (w : World) (v : Value) (ds : List Dd) : Prop where
  ex : ∃ a cap, v = .slice a ds.length cap ∧ (0 < ds.length → ∃ g o, a = some ⟨g, o, none⟩ ∧ g < w.heap.size ∧ ∀ k d, ds[k]? = some d → ∃ u, DdAt w g (o + k * 9) d u)

theorem DdAt.below {w w' : World} {g q : Nat} {d : Dd} {u : Value} (h : DdAt w g q d u) (hb : Below w.heap.size w w') (hg : g < w.heap.size) : DdAt w' g q d u := by
  have k : ∀ i v, w.cell? ⟨g, i, none⟩ = some v → w'.cell? ⟨g, i, none⟩ = some v := fun i v hv => (hb.cell (p := ⟨g, i, none⟩) hg).trans hv
  exact ⟨k _ _ h.c0, k _ _ h.c1, k _ _ h.c2, k _ _ h.c3, k _ _ h.c4, k _ _ h.c5, k _ _ h.c6, k _ _ h.c7, k _ _ h.c8, h.bytes.below hb, h.col⟩

/-- Between two deeds: the document's image in its box, the program's, and the two others. -/
structure LI (w : World) (X Y pm bm po bo B1 B2 g2 c2 : Nat) (L2 : List Int) (L : List Int) (g c : Nat) (wr : World) : Prop where
  r : RM wr (.slice (some ⟨g, 0, none⟩) L.length c) X Y L
  m : Img wr pm bm X Y L
  bx : Blk wr B1 #[.int .i64 X, .int .i64 Y, .slice (some ⟨g, 0, none⟩) L.length c] 25
  ne : ¬ g = bm
  ne1 : ¬ g = B1
  r2 : RM wr (.slice (some ⟨g2, 0, none⟩) L2.length c2) Y X L2
  o : Img wr po bo Y X L2
  bx2 : Blk wr B2 #[.int .i64 Y, .int .i64 X, .slice (some ⟨g2, 0, none⟩) L2.length c2] 25
  below : Below w.heap.size w wr

theorem LI.kept {w : World} {X Y pm bm po bo B1 B2 g2 c2 : Nat} {L2 L : List Int} {g c : Nat} {wr wr' : World} (h : LI w X Y pm bm po bo B1 B2 g2 c2 L2 L g c wr) (hg : wr.grownBy wr' none) : LI w X Y pm bm po bo B1 B2 g2 c2 L2 L g c wr' :=
  ⟨h.r.kept hg (.inr rfl), h.m.of_blocks (hg.block pm h.m.ltp (by simp)) (hg.block bm h.m.ltb (by simp)), h.bx.kept hg (by simp), h.ne, h.ne1, h.r2.kept hg (.inr rfl), h.o.of_blocks (hg.block po h.o.ltp (by simp)) (hg.block bo h.o.ltb (by simp)), h.bx2.kept hg (by simp), h.below.grown hg h.below.size (fun k e => by cases e)⟩

/-- What lies apart. -/
structure Geo (w : World) (pm bm po bo B1 B2 g2 : Nat) : Prop where
  a1 : ¬ bm = B1
  a2 : ¬ pm = B1
  a3 : ¬ po = B1
  a4 : ¬ bo = B1
  a5 : ¬ po = bm
  a6 : ¬ bo = bm
  a7 : ¬ B2 = B1
  a8 : ¬ B2 = bm
  a9 : ¬ g2 = bm
  a10 : ¬ g2 = B1
  a11 : w.heap.size ≤ B1
  a12 : w.heap.size ≤ bm

/-- Within a deed: the document's image is the new one, the program's the old one. -/
structure LH (w : World) (X Y pm bm po bo B1 B2 g2 c2 : Nat) (L2 L L9 : List Int) (g9 c9 : Nat) (bv : Value) (wr : World) : Prop where
  r : RM wr (.slice (some ⟨g9, 0, none⟩) L9.length c9) X Y L9
  m : Img wr pm bm X Y L
  bx : Blk wr B1 #[.int .i64 X, .int .i64 Y, bv] 25
  ne : ¬ g9 = bm
  ne1 : ¬ g9 = B1
  r2 : RM wr (.slice (some ⟨g2, 0, none⟩) L2.length c2) Y X L2
  o : Img wr po bo Y X L2
  bx2 : Blk wr B2 #[.int .i64 Y, .int .i64 X, .slice (some ⟨g2, 0, none⟩) L2.length c2] 25
  below : Below w.heap.size w wr

theorem LI.half {w : World} {X Y pm bm po bo B1 B2 g2 c2 : Nat} {L2 L L9 : List Int} {g c g9 c9 : Nat} {V9 w6 : World} (h : LI w X Y pm bm po bo B1 B2 g2 c2 L2 L g c V9) (Q : Geo w pm bm po bo B1 B2 g2)
    (hM : RM w6 (.slice (some ⟨g9, 0, none⟩) L9.length c9) X Y L9) (hl : Lies V9 (.slice (some ⟨g, 0, none⟩) L.length c) (.slice (some ⟨g9, 0, none⟩) L9.length c9)) (hb : Below V9.heap.size V9 w6) (O : Obj) :
    LH w X Y pm bm po bo B1 B2 g2 c2 L2 L L9 g9 c9 (.slice (some ⟨g, 0, none⟩) L.length c) (w6.alloc O) := by
  have h6 := (h.kept (grown_of hb none)).kept (World.grownBy_alloc w6 O none)
  have z1 := h.bx.lt
  have z2 := h.m.ltb
  have a1 := h.ne
  have a2 := h.ne1
  have n1 : ¬ g9 = bm ∧ ¬ g9 = B1 := by
    rcases hl with hl | ⟨j, hl, hj⟩
    · simp [Value.ownBlock] at hl; omega
    · simp [Value.ownBlock] at hl; omega
  exact ⟨hM.kept (World.grownBy_alloc w6 O none) (.inr rfl), h6.m, h6.bx, n1.1, n1.2, h6.r2, h6.o, h6.bx2, h6.below⟩

theorem LH.stored {w : World} {X Y pm bm po bo B1 B2 g2 c2 : Nat} {L2 L L9 : List Int} {g9 c9 : Nat} {bv : Value} {wr : World} (h : LH w X Y pm bm po bo B1 B2 g2 c2 L2 L L9 g9 c9 bv wr) (Q : Geo w pm bm po bo B1 B2 g2) :
    LH w X Y pm bm po bo B1 B2 g2 c2 L2 L L9 g9 c9 (.slice (some ⟨g9, 0, none⟩) L9.length c9) (((wr.setCell ⟨B1, 0, none⟩ (.int .i64 X)).setCell ⟨B1, 1, none⟩ (.int .i64 Y)).setCell ⟨B1, 2, none⟩ (.slice (some ⟨g9, 0, none⟩) L9.length c9)) := by
  obtain ⟨a1, a2, a3, a4, a5, a6, a7, a8, a9, a10, a11, a12⟩ := Q
  obtain ⟨hB7, hg7⟩ := set3 h.bx (.int .i64 X) (.int .i64 Y) (.slice (some ⟨g9, 0, none⟩) L9.length c9)
  have := h.ne1
  exact ⟨h.r.kept hg7 (.inl (by simp [Value.ownBlock]; omega)), h.m.of_blocks (hg7.block pm h.m.ltp (by simp; omega)) (hg7.block bm h.m.ltb (by simp; omega)), hB7, h.ne, h.ne1,
    h.r2.kept hg7 (.inl (by simp [Value.ownBlock]; omega)), h.o.of_blocks (hg7.block po h.o.ltp (by simp; omega)) (hg7.block bo h.o.ltb (by simp; omega)), h.bx2.kept hg7 (by simp; omega), grown_below h.below hg7 h.below.size (fun k e => by cases e; omega)⟩

theorem LH.full {w : World} {X Y pm bm po bo B1 B2 g2 c2 : Nat} {L2 L L9 : List Int} {g9 c9 : Nat} {w7 w8 : World} (h : LH w X Y pm bm po bo B1 B2 g2 c2 L2 L L9 g9 c9 (.slice (some ⟨g9, 0, none⟩) L9.length c9) w7) (Q : Geo w pm bm po bo B1 B2 g2)
    (hI : Img w8 pm bm X Y L9) (hg : w7.grownBy w8 (some bm)) : LI w X Y pm bm po bo B1 B2 g2 c2 L2 L9 g9 c9 w8 := by
  obtain ⟨a1, a2, a3, a4, a5, a6, a7, a8, a9, a10, a11, a12⟩ := Q
  have := h.ne
  exact ⟨h.r.kept hg (.inl (by simp [Value.ownBlock]; omega)), hI, h.bx.kept hg (by simp; omega), h.ne, h.ne1, h.r2.kept hg (.inl (by simp [Value.ownBlock]; omega)),
    h.o.of_blocks (hg.block po h.o.ltp (by simp; omega)) (hg.block bo h.o.ltb (by simp; omega)), h.bx2.kept hg (by simp; omega), grown_below h.below hg h.below.size (fun k e => by cases e; omega)⟩

set_option maxRecDepth 100000 in
set_option maxHeartbeats 4000000 in
theorem law04 {w : World} {va vb vd : Value} {la lb : List Int} {ds : List Dd} (x y : Int) (hx : isI64 x) (hy : isI64 y) (hA : ArgC w va la) (hB : ArgC w vb lb) (hD : ArgD w vd ds) :
    Calls Try.prog 3 #[.int .i64 x, .int .i64 y, va, vb, vd] w fun e w' => e = .returned (.bool true) ∧ Below w.heap.size w w' := by
  obtain ⟨ad, cd, rfl, hdeed⟩ := hD.ex
  obtain ⟨aa, ca, rfl, -⟩ := hA.ex
  obtain ⟨ab, cb, rfl, -⟩ := hB.ex
  obtain ⟨X, hX⟩ : ∃ X, side x = X := ⟨_, rfl⟩
  obtain ⟨Y, hY⟩ : ∃ Y, side y = Y := ⟨_, rfl⟩
  obtain ⟨L1, hL1⟩ : ∃ L1, goodL (side x * side y) la = L1 := ⟨_, rfl⟩
  obtain ⟨L2, hL2⟩ : ∃ L2, goodL (side y * side x) lb = L2 := ⟨_, rfl⟩
  have G1 := ref04_Good x y hx hy hA
  rw [hL1, hX, hY] at G1
  have G2 : ∀ w', Below w.heap.size w w' → Calls Try.prog 15 #[.int .i64 y, .int .i64 x, .slice ab lb.length cb] w' (RetM Y X L2 (.slice none 0 0) w') := fun w' hb => by
    have := ref04_Good y x hy hx (hB.below hb)
    rw [hL2, hX, hY] at this
    exact this
  clear hX hY hL1 hL2 hA hB
  go_enter Try.func3, Try.ntmps3
  go_wp2_with fail
  refine G1.mono ?_
  rintro e w1 ⟨v1, rfl, hM1, hl1, hb1⟩
  obtain ⟨g1, c1, rfl, hg1, -⟩ := hM1.form
  go_wp2_with fail
  have hA1 : Below w.heap.size w (w1.alloc (.cells #[.int .i64 X, .int .i64 Y, .slice (some ⟨g1, 0, none⟩) L1.length c1] 25)) := hb1.alloc hb1.size _
  have hM1 := hM1.kept (World.grownBy_alloc w1 (.cells #[.int .i64 X, .int .i64 Y, .slice (some ⟨g1, 0, none⟩) L1.length c1] 25) none) (.inr rfl)
  have hbx1 := Blk.new w1 #[.int .i64 X, .int .i64 Y, .slice (some ⟨g1, 0, none⟩) L1.length c1] 25
  have hn1 := hl1.new rfl
  have hz1 := hb1.size
  generalize hV1 : w1.alloc (.cells #[.int .i64 X, .int .i64 Y, .slice (some ⟨g1, 0, none⟩) L1.length c1] 25) = V1 at *
  have hs1 : V1.heap.size = w1.heap.size + 1 := by rw [← hV1]; simp
  generalize hB1 : w1.heap.size = B1 at *
  clear hV1 hb1
  refine (G2 _ hA1).mono ?_
  rintro e w2 ⟨v2, rfl, hM2, hl2, hb2⟩
  obtain ⟨g2, c2, rfl, hg2, -⟩ := hM2.form
  have hn2 := hl2.new rfl
  have hz2 := hb2.size
  have hA2 : Below w.heap.size w (w2.alloc (.cells #[.int .i64 Y, .int .i64 X, .slice (some ⟨g2, 0, none⟩) L2.length c2] 25)) := (below_of hA1 hb2).alloc (by omega) _
  have hb2a : Below V1.heap.size V1 (w2.alloc (.cells #[.int .i64 Y, .int .i64 X, .slice (some ⟨g2, 0, none⟩) L2.length c2] 25)) := hb2.alloc hb2.size _
  have hM1 := hM1.below hb2a
  have hM2 := hM2.kept (World.grownBy_alloc w2 (.cells #[.int .i64 Y, .int .i64 X, .slice (some ⟨g2, 0, none⟩) L2.length c2] 25) none) (.inr rfl)
  have hbx1 := Blk.next hb2a hbx1
  have hbx2 := Blk.new w2 #[.int .i64 Y, .int .i64 X, .slice (some ⟨g2, 0, none⟩) L2.length c2] 25
  have hs2 : (w2.alloc (.cells #[.int .i64 Y, .int .i64 X, .slice (some ⟨g2, 0, none⟩) L2.length c2] 25)).heap.size = w2.heap.size + 1 := by simp
  have hcx := hbx1.cell
  clear hl1 hl2 hb2a G1 G2
  go_wp2_with fail
  generalize w2.alloc (.cells #[.int .i64 Y, .int .i64 X, .slice (some ⟨g2, 0, none⟩) L2.length c2] 25) = V2 at *
  generalize hB2 : w2.heap.size = B2 at *
  clear hb2
  refine (build04 hM1).mono ?_
  rintro e w3 ⟨pm, bm, rfl, hIm, hpm, hbm, hb3⟩
  have hM1 := hM1.below hb3
  have hM2 := hM2.below hb3
  have hbx1 := Blk.next hb3 hbx1
  have hbx2 := Blk.next hb3 hbx2
  have hA3 := below_of hA2 hb3
  have hz3 := hb3.size
  clear hcx
  have hcx := hbx2.cell
  go_wp2_with fail
  refine (build04 hM2).mono ?_
  rintro e w4 ⟨po, bo, rfl, hIo, hpo, hbo, hb4⟩
  have hpml := hIm.ltp
  have hbml := hIm.ltb
  have hIm := hIm.below hb4 hpml hbml
  have hM1 := hM1.below hb4
  have hM2 := hM2.below hb4
  have hbx1 := Blk.next hb4 hbx1
  have hbx2 := Blk.next hb4 hbx2
  have hA4 := below_of hA3 hb4
  have hz4 := hb4.size
  clear hcx hb3 hb4
  have q1 : ¬ g1 = bm := by omega
  have q2 : ¬ g1 = B1 := by omega
  have q3 : ¬ g2 = bm := by omega
  have q4 : ¬ g2 = B1 := by omega
  have q5 : ¬ bm = B1 := by omega
  have q6 : ¬ pm = B1 := by omega
  have q7 : ¬ po = B1 := by omega
  have q8 : ¬ bo = B1 := by omega
  have q9 : ¬ po = bm := by omega
  have q10 : ¬ bo = bm := by omega
  have q11 : ¬ B2 = B1 := by omega
  have q12 : ¬ B2 = bm := by omega
  have q13 : w.heap.size ≤ B1 := by omega
  have q14 : w.heap.size ≤ bm := by omega
  have q15 : bm < w4.heap.size := by omega
  have q16 : B1 < w4.heap.size := by omega
  have hLI : LI w X Y pm bm po bo B1 B2 g2 c2 L2 L1 g1 c1 w4 := ⟨hM1, hIm, hbx1, q1, q2, hM2, hIo, hbx2, hA4⟩
  have Q : Geo w pm bm po bo B1 B2 g2 := ⟨q5, q6, q7, q8, q9, q10, q11, q12, q3, q4, q13, q14⟩
  clear q3 q4 q5 q6 q7 q8 q9 q10 q11 q12 q13 q14 q15 q16 hM1 hIm hbx1 hM2 hIo hbx2 hA4 hA3 hA2 hA1 hz1 hz2 hz3 hz4 hs1 hs2 hg1 hg2 hn1 hn2 hpm hbm hpo hbo hpml hbml q1 q2 hD hB1 hB2
  go_wp2_with fail
  go_loopw [15] (fun i wr => ∃ (k : Nat) (L : List Int) (g c : Nat), k ≤ ds.length ∧ k ≤ 12 ∧ i = .int .i64 k ∧ LI w X Y pm bm po bo B1 B2 g2 c2 L2 L g c wr) (fun i _ => ds.length - (intOf i).toNat)
  case atStart => exact ⟨0, L1, g1, c1, Nat.zero_le _, by omega, rfl, hLI⟩
  case round =>
    clear hLI
    obtain ⟨k, L, g, c, hk, hk2, rfl, hLI⟩ := hrel
    by_cases hlt : k < ds.length
    · by_cases hl2 : k < 12
      · obtain ⟨gd, o, rfl, hgd, hcd⟩ := hdeed (by omega)
        obtain ⟨u, hd⟩ := hcd k _ (List.getElem?_eq_getElem hlt)
        generalize ds[k] = d at hd
        have hby : ArgB w u d.B := hd.bytes
        have hd := hd.below hLI.below hgd
        clear hcd hdeed
        obtain ⟨kd, dx, dy, dc, r0, r1, r2, r3, B⟩ := d
        obtain ⟨h0, h1, h2, h3, h4, h5, h6, h7, h8, -, hcol⟩ := hd
        dsimp only at h0 h1 h2 h3 h4 h5 h6 h7 h8 hby hcol
        obtain ⟨ua, uc, rfl, -⟩ := hby.ex
        have hLI0 := hLI
        by_cases hk0 : kd = 0
        · subst hk0
          have hcx := (hLI.bx.alloc (.cells #[.int .i64 0, .int .i64 dx, .int .i64 dy, .int .u32 dc, .int .i64 r0, .int .i64 r1, .int .i64 r2, .int .i64 r3, .slice ua B.length uc] 35)).cell
          go_wp2_with fail
          have hLI := hLI.kept (World.grownBy_alloc wr (.cells #[.int .i64 0, .int .i64 dx, .int .i64 dy, .int .u32 dc, .int .i64 r0, .int .i64 r1, .int .i64 r2, .int .i64 r3, .slice ua B.length uc] 35) none)
          have hDb := Blk.new wr #[.int .i64 0, .int .i64 dx, .int .i64 dy, .int .u32 dc, .int .i64 r0, .int .i64 r1, .int .i64 r2, .int .i64 r3, .slice ua B.length uc] 35
          have hsz9 : (wr.alloc (.cells #[.int .i64 0, .int .i64 dx, .int .i64 dy, .int .u32 dc, .int .i64 r0, .int .i64 r1, .int .i64 r2, .int .i64 r3, .slice ua B.length uc] 35)).heap.size = wr.heap.size + 1 := by simp
          generalize hV9 : wr.alloc (.cells #[.int .i64 0, .int .i64 dx, .int .i64 dy, .int .u32 dc, .int .i64 r0, .int .i64 r1, .int .i64 r2, .int .i64 r3, .slice ua B.length uc] 35) = V9 at *
          clear hV9
          have hC := ref04_Set hLI.r dx dy dc hcol
          have hC2 := fun (w' : World) (h : Img w' pm bm X Y L) (ho : Img w' po bo Y X L2) (hW : Below w.heap.size w w') => image_Set h dx dy dc hcol
          generalize setL X Y L dx dy dc = L9 at hC hC2
          generalize setE X Y dx dy dc = E9 at hC hC2
          refine hC.mono ?_
          rintro e w6 ⟨v9, rfl, hM9, hl9, hb6⟩
          obtain ⟨g9, c9, rfl, hg9, -⟩ := hM9.form
          have hH := hLI.half Q hM9 hl9 hb6
          have hD6 := (Blk.next hb6 hDb).alloc (.cells #[.int .i64 X, .int .i64 Y, .slice (some ⟨g9, 0, none⟩) L9.length c9] 25)
          have hcr := (hH (.cells #[.int .i64 X, .int .i64 Y, .slice (some ⟨g9, 0, none⟩) L9.length c9] 25)).bx.cell
          have hfr := (hH (.cells #[.int .i64 X, .int .i64 Y, .slice (some ⟨g9, 0, none⟩) L9.length c9] 25)).bx.free
          have hdm := hD6.cell
          have n3 : ¬ wr.heap.size = B1 := by have := hLI0.bx.lt; omega
          have n5 : ¬ w6.heap.size = B1 := by have := hLI.bx.lt; have := hb6.size; omega
          clear hcx hC h0 h1 h2 h3 h4 h5 h6 h7 h8 hsz9
          go_wp2_with fail
          have hF := (hH (.cells #[.int .i64 X, .int .i64 Y, .slice (some ⟨g9, 0, none⟩) L9.length c9] 25)).stored Q
          refine (hC2 _ hF.m hF.o hF.below).mono ?_
          rintro e w8 ⟨rfl, hI8, hg8⟩
          have hLI8 := hF.full Q hI8 hg8
          clear hF hI8 hg8 hfr hcr hdm hD6 hH
          have hcr := hLI8.bx.cell
          go_wp2_with fail
          refine (like04 hLI8.m hLI8.r).mono ?_
          rintro e w9 ⟨rfl, hb9⟩
          have hLI9 := hLI8.kept (grown_of hb9 none)
          go_wp2_with fail
          go_roundw
          case rel => exact ⟨k + 1, L9, g9, c9, by omega, by omega, by go_num, hLI9⟩
          case measure => simp [intOf]; omega
        · have b0 : (kd == 0) = false := by simpa using hk0
          by_cases hk1 : kd = 1
          · subst hk1
            have hcx := (hLI.bx.alloc (.cells #[.int .i64 1, .int .i64 dx, .int .i64 dy, .int .u32 dc, .int .i64 r0, .int .i64 r1, .int .i64 r2, .int .i64 r3, .slice ua B.length uc] 35)).cell
            go_wp2_with fail
            have hLI := hLI.kept (World.grownBy_alloc wr (.cells #[.int .i64 1, .int .i64 dx, .int .i64 dy, .int .u32 dc, .int .i64 r0, .int .i64 r1, .int .i64 r2, .int .i64 r3, .slice ua B.length uc] 35) none)
            have hDb := Blk.new wr #[.int .i64 1, .int .i64 dx, .int .i64 dy, .int .u32 dc, .int .i64 r0, .int .i64 r1, .int .i64 r2, .int .i64 r3, .slice ua B.length uc] 35
            have hsz9 : (wr.alloc (.cells #[.int .i64 1, .int .i64 dx, .int .i64 dy, .int .u32 dc, .int .i64 r0, .int .i64 r1, .int .i64 r2, .int .i64 r3, .slice ua B.length uc] 35)).heap.size = wr.heap.size + 1 := by simp
            generalize hV9 : wr.alloc (.cells #[.int .i64 1, .int .i64 dx, .int .i64 dy, .int .u32 dc, .int .i64 r0, .int .i64 r1, .int .i64 r2, .int .i64 r3, .slice ua B.length uc] 35) = V9 at *
            clear hV9
            have hC := ref04_Fill hLI.r r0 r1 r2 r3 dc hcol
            have hC2 := fun (w' : World) (h : Img w' pm bm X Y L) (ho : Img w' po bo Y X L2) (hW : Below w.heap.size w w') => image_Fill h r0 r1 r2 r3 dc hcol
            generalize fillL X L ⟨r0, r1, r2, r3⟩ dc = L9 at hC hC2
            generalize fillN X L ⟨r0, r1, r2, r3⟩ dc = E9 at hC hC2
            refine hC.mono ?_
            rintro e w6 ⟨v9, rfl, hM9, hl9, hb6⟩
            obtain ⟨g9, c9, rfl, hg9, -⟩ := hM9.form
            have hH := hLI.half Q hM9 hl9 hb6
            have hD6 := (Blk.next hb6 hDb).alloc (.cells #[.int .i64 X, .int .i64 Y, .slice (some ⟨g9, 0, none⟩) L9.length c9] 25)
            have hcr := (hH (.cells #[.int .i64 X, .int .i64 Y, .slice (some ⟨g9, 0, none⟩) L9.length c9] 25)).bx.cell
            have hfr := (hH (.cells #[.int .i64 X, .int .i64 Y, .slice (some ⟨g9, 0, none⟩) L9.length c9] 25)).bx.free
            have hdm := hD6.cell
            have n3 : ¬ wr.heap.size = B1 := by have := hLI0.bx.lt; omega
            have n5 : ¬ w6.heap.size = B1 := by have := hLI.bx.lt; have := hb6.size; omega
            clear hcx hC h0 h1 h2 h3 h4 h5 h6 h7 h8 hsz9
            go_wp2_with fail
            have hF := (hH (.cells #[.int .i64 X, .int .i64 Y, .slice (some ⟨g9, 0, none⟩) L9.length c9] 25)).stored Q
            refine (hC2 _ hF.m hF.o hF.below).mono ?_
            rintro e w8 ⟨rfl, hI8, hg8⟩
            have hLI8 := hF.full Q hI8 hg8
            clear hF hI8 hg8 hfr hcr hdm hD6 hH
            have hcr := hLI8.bx.cell
            go_wp2_with fail
            refine (like04 hLI8.m hLI8.r).mono ?_
            rintro e w9 ⟨rfl, hb9⟩
            have hLI9 := hLI8.kept (grown_of hb9 none)
            go_wp2_with fail
            go_roundw
            case rel => exact ⟨k + 1, L9, g9, c9, by omega, by omega, by go_num, hLI9⟩
            case measure => simp [intOf]; omega
          · have b1 : (kd == 1) = false := by simpa using hk1
            by_cases hk2 : kd = 2
            · subst hk2
              have hcx := (hLI.bx.alloc (.cells #[.int .i64 2, .int .i64 dx, .int .i64 dy, .int .u32 dc, .int .i64 r0, .int .i64 r1, .int .i64 r2, .int .i64 r3, .slice ua B.length uc] 35)).cell
              go_wp2_with fail
              have hLI := hLI.kept (World.grownBy_alloc wr (.cells #[.int .i64 2, .int .i64 dx, .int .i64 dy, .int .u32 dc, .int .i64 r0, .int .i64 r1, .int .i64 r2, .int .i64 r3, .slice ua B.length uc] 35) none)
              have hDb := Blk.new wr #[.int .i64 2, .int .i64 dx, .int .i64 dy, .int .u32 dc, .int .i64 r0, .int .i64 r1, .int .i64 r2, .int .i64 r3, .slice ua B.length uc] 35
              have hsz9 : (wr.alloc (.cells #[.int .i64 2, .int .i64 dx, .int .i64 dy, .int .u32 dc, .int .i64 r0, .int .i64 r1, .int .i64 r2, .int .i64 r3, .slice ua B.length uc] 35)).heap.size = wr.heap.size + 1 := by simp
              generalize hV9 : wr.alloc (.cells #[.int .i64 2, .int .i64 dx, .int .i64 dy, .int .u32 dc, .int .i64 r0, .int .i64 r1, .int .i64 r2, .int .i64 r3, .slice ua B.length uc] 35) = V9 at *
              clear hV9
              have hC := ref04_Copy hLI.r hLI.r r0 r1 r2 r3 dx dy
              have hC2 := fun (w' : World) (h : Img w' pm bm X Y L) (ho : Img w' po bo Y X L2) (hW : Below w.heap.size w w') => image_Copy h h r0 r1 r2 r3 dx dy
              generalize copyL X L X Y L ⟨r0, r1, r2, r3⟩ dx dy = L9 at hC hC2
              generalize copyN X L X Y ⟨r0, r1, r2, r3⟩ dx dy = E9 at hC hC2
              refine hC.mono ?_
              rintro e w6 ⟨v9, rfl, hM9, hl9, hb6⟩
              obtain ⟨g9, c9, rfl, hg9, -⟩ := hM9.form
              have hH := hLI.half Q hM9 hl9 hb6
              have hD6 := (Blk.next hb6 hDb).alloc (.cells #[.int .i64 X, .int .i64 Y, .slice (some ⟨g9, 0, none⟩) L9.length c9] 25)
              have hcr := (hH (.cells #[.int .i64 X, .int .i64 Y, .slice (some ⟨g9, 0, none⟩) L9.length c9] 25)).bx.cell
              have hfr := (hH (.cells #[.int .i64 X, .int .i64 Y, .slice (some ⟨g9, 0, none⟩) L9.length c9] 25)).bx.free
              have hdm := hD6.cell
              have n3 : ¬ wr.heap.size = B1 := by have := hLI0.bx.lt; omega
              have n5 : ¬ w6.heap.size = B1 := by have := hLI.bx.lt; have := hb6.size; omega
              clear hcx hC h0 h1 h2 h3 h4 h5 h6 h7 h8 hsz9
              go_wp2_with fail
              have hF := (hH (.cells #[.int .i64 X, .int .i64 Y, .slice (some ⟨g9, 0, none⟩) L9.length c9] 25)).stored Q
              refine (hC2 _ hF.m hF.o hF.below).mono ?_
              rintro e w8 ⟨rfl, hI8, hg8⟩
              have hLI8 := hF.full Q hI8 hg8
              clear hF hI8 hg8 hfr hcr hdm hD6 hH
              have hcr := hLI8.bx.cell
              go_wp2_with fail
              refine (like04 hLI8.m hLI8.r).mono ?_
              rintro e w9 ⟨rfl, hb9⟩
              have hLI9 := hLI8.kept (grown_of hb9 none)
              go_wp2_with fail
              go_roundw
              case rel => exact ⟨k + 1, L9, g9, c9, by omega, by omega, by go_num, hLI9⟩
              case measure => simp [intOf]; omega
            · have b2 : (kd == 2) = false := by simpa using hk2
              by_cases hk3 : kd = 3
              · subst hk3
                have hcx := (hLI.bx.alloc (.cells #[.int .i64 3, .int .i64 dx, .int .i64 dy, .int .u32 dc, .int .i64 r0, .int .i64 r1, .int .i64 r2, .int .i64 r3, .slice ua B.length uc] 35)).cell
                have hcy := (hLI.bx2.alloc (.cells #[.int .i64 3, .int .i64 dx, .int .i64 dy, .int .u32 dc, .int .i64 r0, .int .i64 r1, .int .i64 r2, .int .i64 r3, .slice ua B.length uc] 35)).cell
                go_wp2_with fail
                clear hcy
                have hLI := hLI.kept (World.grownBy_alloc wr (.cells #[.int .i64 3, .int .i64 dx, .int .i64 dy, .int .u32 dc, .int .i64 r0, .int .i64 r1, .int .i64 r2, .int .i64 r3, .slice ua B.length uc] 35) none)
                have hDb := Blk.new wr #[.int .i64 3, .int .i64 dx, .int .i64 dy, .int .u32 dc, .int .i64 r0, .int .i64 r1, .int .i64 r2, .int .i64 r3, .slice ua B.length uc] 35
                have hsz9 : (wr.alloc (.cells #[.int .i64 3, .int .i64 dx, .int .i64 dy, .int .u32 dc, .int .i64 r0, .int .i64 r1, .int .i64 r2, .int .i64 r3, .slice ua B.length uc] 35)).heap.size = wr.heap.size + 1 := by simp
                generalize hV9 : wr.alloc (.cells #[.int .i64 3, .int .i64 dx, .int .i64 dy, .int .u32 dc, .int .i64 r0, .int .i64 r1, .int .i64 r2, .int .i64 r3, .slice ua B.length uc] 35) = V9 at *
                clear hV9
                have hC := ref04_Copy hLI.r hLI.r2 r0 r1 r2 r3 dx dy
                have hC2 := fun (w' : World) (h : Img w' pm bm X Y L) (ho : Img w' po bo Y X L2) (hW : Below w.heap.size w w') => image_Copy h ho r0 r1 r2 r3 dx dy
                generalize copyL X L Y X L2 ⟨r0, r1, r2, r3⟩ dx dy = L9 at hC hC2
                generalize copyN X L Y X ⟨r0, r1, r2, r3⟩ dx dy = E9 at hC hC2
                refine hC.mono ?_
                rintro e w6 ⟨v9, rfl, hM9, hl9, hb6⟩
                obtain ⟨g9, c9, rfl, hg9, -⟩ := hM9.form
                have hH := hLI.half Q hM9 hl9 hb6
                have hD6 := (Blk.next hb6 hDb).alloc (.cells #[.int .i64 X, .int .i64 Y, .slice (some ⟨g9, 0, none⟩) L9.length c9] 25)
                have hcr := (hH (.cells #[.int .i64 X, .int .i64 Y, .slice (some ⟨g9, 0, none⟩) L9.length c9] 25)).bx.cell
                have hfr := (hH (.cells #[.int .i64 X, .int .i64 Y, .slice (some ⟨g9, 0, none⟩) L9.length c9] 25)).bx.free
                have hdm := hD6.cell
                have n3 : ¬ wr.heap.size = B1 := by have := hLI0.bx.lt; omega
                have n5 : ¬ w6.heap.size = B1 := by have := hLI.bx.lt; have := hb6.size; omega
                clear hcx hC h0 h1 h2 h3 h4 h5 h6 h7 h8 hsz9
                go_wp2_with fail
                have hF := (hH (.cells #[.int .i64 X, .int .i64 Y, .slice (some ⟨g9, 0, none⟩) L9.length c9] 25)).stored Q
                refine (hC2 _ hF.m hF.o hF.below).mono ?_
                rintro e w8 ⟨rfl, hI8, hg8⟩
                have hLI8 := hF.full Q hI8 hg8
                clear hF hI8 hg8 hfr hcr hdm hD6 hH
                have hcr := hLI8.bx.cell
                go_wp2_with fail
                refine (like04 hLI8.m hLI8.r).mono ?_
                rintro e w9 ⟨rfl, hb9⟩
                have hLI9 := hLI8.kept (grown_of hb9 none)
                go_wp2_with fail
                go_roundw
                case rel => exact ⟨k + 1, L9, g9, c9, by omega, by omega, by go_num, hLI9⟩
                case measure => simp [intOf]; omega
              · have b3 : (kd == 3) = false := by simpa using hk3
                have hcx := (hLI.bx.alloc (.cells #[.int .i64 kd, .int .i64 dx, .int .i64 dy, .int .u32 dc, .int .i64 r0, .int .i64 r1, .int .i64 r2, .int .i64 r3, .slice ua B.length uc] 35)).cell
                go_wp2_with fail
                have hLI := hLI.kept (World.grownBy_alloc wr (.cells #[.int .i64 kd, .int .i64 dx, .int .i64 dy, .int .u32 dc, .int .i64 r0, .int .i64 r1, .int .i64 r2, .int .i64 r3, .slice ua B.length uc] 35) none)
                have hDb := Blk.new wr #[.int .i64 kd, .int .i64 dx, .int .i64 dy, .int .u32 dc, .int .i64 r0, .int .i64 r1, .int .i64 r2, .int .i64 r3, .slice ua B.length uc] 35
                have hsz9 : (wr.alloc (.cells #[.int .i64 kd, .int .i64 dx, .int .i64 dy, .int .u32 dc, .int .i64 r0, .int .i64 r1, .int .i64 r2, .int .i64 r3, .slice ua B.length uc] 35)).heap.size = wr.heap.size + 1 := by simp
                generalize hV9 : wr.alloc (.cells #[.int .i64 kd, .int .i64 dx, .int .i64 dy, .int .u32 dc, .int .i64 r0, .int .i64 r1, .int .i64 r2, .int .i64 r3, .slice ua B.length uc] 35) = V9 at *
                clear hV9
                have hC := ref04_Write hLI.r (hby.below hLI.below) r0 r1 r2 r3
                have hC2 := fun (w' : World) (h : Img w' pm bm X Y L) (ho : Img w' po bo Y X L2) (hW : Below w.heap.size w w') => image_Write h (hby.below hW) r0 r1 r2 r3
                generalize writeL X Y L ⟨r0, r1, r2, r3⟩ B = L9 at hC hC2
                generalize writeE X Y ⟨r0, r1, r2, r3⟩ B = E9 at hC hC2
                refine hC.mono ?_
                rintro e w6 ⟨v9, rfl, hM9, hl9, hb6⟩
                obtain ⟨g9, c9, rfl, hg9, -⟩ := hM9.form
                have hH := hLI.half Q hM9 hl9 hb6
                have hD6 := (Blk.next hb6 hDb).alloc (.cells #[.int .i64 X, .int .i64 Y, .slice (some ⟨g9, 0, none⟩) L9.length c9] 25)
                have hcr := (hH (.cells #[.int .i64 X, .int .i64 Y, .slice (some ⟨g9, 0, none⟩) L9.length c9] 25)).bx.cell
                have hfr := (hH (.cells #[.int .i64 X, .int .i64 Y, .slice (some ⟨g9, 0, none⟩) L9.length c9] 25)).bx.free
                have hdm := hD6.cell
                have n3 : ¬ wr.heap.size = B1 := by have := hLI0.bx.lt; omega
                have n5 : ¬ w6.heap.size = B1 := by have := hLI.bx.lt; have := hb6.size; omega
                clear hcx hC h0 h1 h2 h3 h4 h5 h6 h7 h8 hsz9
                go_wp2_with fail
                have hF := (hH (.cells #[.int .i64 X, .int .i64 Y, .slice (some ⟨g9, 0, none⟩) L9.length c9] 25)).stored Q
                refine (hC2 _ hF.m hF.o hF.below).mono ?_
                rintro e w8 ⟨rfl, hI8, hg8⟩
                have hLI8 := hF.full Q hI8 hg8
                clear hF hI8 hg8 hfr hcr hdm hD6 hH
                have hcr := hLI8.bx.cell
                go_wp2_with fail
                refine (like04 hLI8.m hLI8.r).mono ?_
                rintro e w9 ⟨rfl, hb9⟩
                have hLI9 := hLI8.kept (grown_of hb9 none)
                go_wp2_with fail
                go_roundw
                case rel => exact ⟨k + 1, L9, g9, c9, by omega, by omega, by go_num, hLI9⟩
                case measure => simp [intOf]; omega
      · have hcr := hLI.bx2.cell
        go_wp2_with fail
        refine (like04 hLI.o hLI.r2).mono ?_
        rintro e w5 ⟨rfl, hb5⟩
        go_wp2_with fail
        refine (lives04 _).mono ?_
        rintro e w6 ⟨rfl, hb6⟩
        go_wp2_with fail
        go_ret
        exact ⟨rfl, below_of (below_of hLI.below hb5) hb6⟩
    · have hcr := hLI.bx2.cell
      go_wp2_with fail
      refine (like04 hLI.o hLI.r2).mono ?_
      rintro e w5 ⟨rfl, hb5⟩
      go_wp2_with fail
      refine (lives04 _).mono ?_
      rintro e w6 ⟨rfl, hb6⟩
      go_wp2_with fail
      go_ret
      exact ⟨rfl, below_of (below_of hLI.below hb5) hb6⟩

end Go.Proofs.Ytfnnhjnhccbglaa
