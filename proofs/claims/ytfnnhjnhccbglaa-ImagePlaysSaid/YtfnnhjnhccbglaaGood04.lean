/- Walks: the document's Good: an image of any colors that came in. -/
import Derived.Test.YtfnnhjnhccbglaaRef5
import Derived.Test.YtfnnhjnhccbglaaCol3
import Derived.Test.YtfnnhjnhccbglaaRect4
namespace Go.Proofs.Ytfnnhjnhccbglaa
open Go.RowKit

/-- v is a slice that came in, of the colors L, which is only read. -/
structure ArgC (w : World) (v : Value) (L : List Int) : Prop where
  ex : ∃ a cap, v = .slice a L.length cap ∧ (0 < L.length → ∃ g o, a = some ⟨g, o, none⟩ ∧ g < w.heap.size ∧ ∀ k, k < L.length → w.cell? ⟨g, o + k, none⟩ = some (.int .u32 (gd L k)))
  col : ∀ c, c ∈ L → Pl.isC c
  bd : L.length ≤ 9223372036854775807
theorem ArgC.below {w w' : World} {v : Value} {L : List Int} (h : ArgC w v L) (hb : Below w.heap.size w w') : ArgC w' v L := by
  obtain ⟨a, cap, e, hc⟩ := h.ex
  refine ⟨⟨a, cap, e, fun h0 => ?_⟩, h.col, h.bd⟩
  obtain ⟨g, o, e1, hg, hk⟩ := hc h0
  exact ⟨g, o, e1, Nat.lt_of_lt_of_le hg hb.size, fun k hk' => (hb.cell (p := ⟨g, o + k, none⟩) hg).trans (hk k hk')⟩
theorem gd_mem {L : List Int} {k : Nat} (h : k < L.length) : gd L k ∈ L := by
  unfold gd; rw [List.getD_eq_getElem?_getD, List.getElem?_eq_getElem h]; exact List.getElem_mem h

def goodN (n : Nat) (l : List Int) (k : Nat) : List Int := (l.take k).map Pl.goodc ++ List.replicate (n - k) 0
/-- The colors of an image of n points, made of any. -/
def goodL (n : Nat) (l : List Int) : List Int := goodN n l (min l.length n)
theorem goodN_length {n : Nat} {l : List Int} {k : Nat} (h : k ≤ l.length) (hn : k ≤ n) : (goodN n l k).length = n := by simp [goodN]; omega
theorem goodN_zero (n : Nat) (l : List Int) : goodN n l 0 = List.replicate n 0 := by simp [goodN]
theorem goodN_set (n : Nat) (l : List Int) (k : Nat) (hk : k < l.length) (hn : k < n) : (goodN n l k).set k (Pl.goodc (gd l k)) = goodN n l (k + 1) := by
  apply List.ext_getElem?
  intro i
  simp only [goodN, gd]
  by_cases h : i = k
  · subst h
    rw [List.getElem?_set_self (by simp; omega), List.getElem?_append_left (by simp; omega), List.getElem?_map, List.getElem?_take_of_lt (by omega)]
    simp [List.getD, hk]
  · rw [List.getElem?_set_ne (by omega)]
    by_cases hi : i < k
    · rw [List.getElem?_append_left (by simp; omega), List.getElem?_append_left (by simp; omega), List.getElem?_map, List.getElem?_map, List.getElem?_take_of_lt hi, List.getElem?_take_of_lt (by omega)]
    · rw [List.getElem?_append_right (by simp; omega), List.getElem?_append_right (by simp; omega)]
      simp only [List.length_map, List.length_take, List.getElem?_replicate]
      congr 1
      rw [Nat.min_eq_left (by omega), Nat.min_eq_left (by omega)]
      simp only [eq_iff_iff]
      omega
theorem goodN_isM {W H : Nat} {l : List Int} {k : Nat} (h : k ≤ l.length) (hn : k ≤ W * H) (hl : ∀ c, c ∈ l → Pl.isC c) (w1 : 1 ≤ W) (w2 : W ≤ 256) (h1 : 1 ≤ H) (h2 : H ≤ 256) : IsM W H (goodN (W * H) l k) := by
  refine ⟨goodN_length h hn, w1, w2, h1, h2, fun c hc => ?_⟩
  rcases List.mem_append.1 hc with hc | hc
  · obtain ⟨d, hd, rfl⟩ := List.mem_map.1 hc
    have := hl d (List.mem_of_mem_take hd)
    exact ⟨Pl.goodc_isC this, Pl.goodc_may this⟩
  · obtain ⟨_, rfl⟩ := List.mem_replicate.1 hc
    exact ⟨isC_zero, mayc_zero⟩

/-- A side, made of any number. -/
def side (n : Int) : Nat := (1 + Pl.around n 16).toNat
theorem side_eq (n : Int) : (1 + Pl.around n 16) = (side n : Int) ∧ 1 ≤ side n ∧ side n ≤ 16 := by
  have := Pl.around_bd (n := n) (m := 16) (by omega)
  unfold side; omega

set_option maxHeartbeats 2000000 in
theorem ref04_Good {w : World} {v : Value} {l : List Int} (x y : Int) (hx : isI64 x) (hy : isI64 y) (hA : ArgC w v l) :
    Calls Try.prog 15 #[.int .i64 x, .int .i64 y, v] w (RetM (side x) (side y) (goodL (side x * side y) l) (.slice none 0 0) w) := by
  obtain ⟨a, cap, rfl, hcell⟩ := hA.ex
  obtain ⟨ex, ex1, ex2⟩ := side_eq x
  obtain ⟨ey, ey1, ey2⟩ := side_eq y
  have bx := Pl.around_bd (n := x) (m := 16) (by omega)
  have bY := Pl.around_bd (n := y) (m := 16) (by omega)
  have Ex := Lib.hid ex
  have Ey := Lib.hid ey
  have Hx := Lib.hid hx
  have Hy := Lib.hid hy
  have hR := Blk.new w #[.int .i64 0, .int .i64 0, .slice none 0 0] 25
  have hW : Below w.heap.size w (w.alloc (.cells #[.int .i64 0, .int .i64 0, .slice none 0 0] 25)) := by go_grown
  clear ex ey hx hy hcell
  go_enter Try.func15, Try.ntmps15
  go_wp2_with fail
  refine (ref_Around _ _ (by omega) (by omega) _ Hx.out).mono ?_
  rintro e wz ⟨rfl, rfl⟩
  go_wp2_with fail
  refine (ref_Around _ _ (by omega) (by omega) _ Hy.out).mono ?_
  rintro e wz ⟨rfl, rfl⟩
  go_wp2_with fail
  rw [Ex.out, Ey.out]
  generalize hV : w.alloc (.cells #[.int .i64 0, .int .i64 0, .slice none 0 0] 25) = V at *
  clear hV
  refine (ref04_New (side x) (side y) ex1 (by omega) ey1 (by omega) V).mono ?_
  rintro e w1 ⟨v1, rfl, hM, hl, hb1⟩
  generalize side x = W at *
  generalize side y = H at *
  obtain ⟨g1, c1, rfl, hg1, k1, k2, _⟩ := hM.form
  have hgV := hl.new rfl
  have hzV := hR.lt
  have hR := hR.below hb1 hR.lt
  have hzz := hb1.size
  have hW := below_of hW hb1
  have hO := hM.own
  rw [List.length_replicate] at hO k1 ⊢
  obtain ⟨n, hn⟩ : ∃ n, W * H = n := ⟨_, rfl⟩
  have Hn := Lib.hid hn
  have hn1 : 1 ≤ n ∧ n ≤ 65536 := by have := hM.m.small; rw [List.length_replicate, hn] at this; exact this
  rw [hn] at hO k1 ⊢
  clear hn hb1 hl hM
  go_wp2_with fail
  have hB := Blk.new w1 #[.int .i64 W, .int .i64 H, .slice (some ⟨g1, 0, none⟩) n c1] 25
  have hW := hW.alloc hW.size (.cells #[.int .i64 W, .int .i64 H, .slice (some ⟨g1, 0, none⟩) n c1] 25)
  have hR := hR.alloc (.cells #[.int .i64 W, .int .i64 H, .slice (some ⟨g1, 0, none⟩) n c1] 25)
  have hO := hO.alloc (.cells #[.int .i64 W, .int .i64 H, .slice (some ⟨g1, 0, none⟩) n c1] 25)
  generalize hV2 : w1.alloc (.cells #[.int .i64 W, .int .i64 H, .slice (some ⟨g1, 0, none⟩) n c1] 25) = V2 at *
  clear hV2
  have hne1 : ¬ w1.heap.size = g1 := by omega
  have hne2 : ¬ w.heap.size = g1 := by omega
  have hne3 : ¬ w.heap.size = w1.heap.size := by have := hg1; omega
  have hz1 : w.heap.size ≤ w1.heap.size := by omega
  generalize w1.heap.size = bm at *
  go_loopw [8] (fun i wr => ∃ k : Nat, k ≤ l.length ∧ k ≤ n ∧ i = .int .i64 k ∧ Blk wr bm #[.int .i64 W, .int .i64 H, .slice (some ⟨g1, 0, none⟩) n c1] 25 ∧ Blk wr w.heap.size #[.int .i64 0, .int .i64 0, .slice none 0 0] 25 ∧ wr.ownsRow 0 30 1 (.slice (some ⟨g1, 0, none⟩) n c1) n (colV (goodN n l k)) ∧ Below w.heap.size w wr) (fun i _ => n - (intOf i).toNat)
  case atStart => exact ⟨0, Nat.zero_le _, Nat.zero_le _, rfl, hB, hR, by rw [goodN_zero]; exact hO, hW⟩
  case round =>
    clear hB hR hW hO
    obtain ⟨k, hk, hkn, rfl, hB, hR, hO, hW⟩ := hrel
    have hcm := hB.cell
    have hbd := hA.bd
    by_cases hlt : k < l.length
    · by_cases hltn : k < n
      · obtain ⟨a', cap', e, hc⟩ := (hA.below hW).ex
        obtain ⟨g, o, rfl, hg, hck⟩ := hc (by omega)
        simp only [Value.slice.injEq] at e
        obtain ⟨rfl, _, rfl⟩ := e
        have hg' : g < w.heap.size := by
          obtain ⟨a2, cap2, e2, hc2⟩ := hA.ex
          obtain ⟨g2, o2, rfl, hg2, _⟩ := hc2 (by omega)
          simp only [Value.slice.injEq, Option.some.injEq, Addr.mk.injEq] at e2
          omega
        have hLk := hck k hlt
        have hcol := hA.col _ (gd_mem hlt)
        have hne4 : ¬ g = g1 := by omega
        clear hc hck hA
        go_wp2_with fail
        go_region_held3 (fun w' => (∀ i, w'.cell? ⟨bm, i, none⟩ = (#[.int .i64 W, .int .i64 H, .slice (some ⟨g1, 0, none⟩) n c1] : Array Value)[i]?) ∧ w'.cell? ⟨g, o + k, none⟩ = some (.int .u32 (gd l k))) ((first | (exact ⟨‹_›, ‹_›⟩) | (simp [*, cell?_setCell_ne])))
          ((first | (go_at_call 29; refine (ref_Good _ hcol _).mono ?_; rintro e wz ⟨rfl, hbz⟩; have hBz := (hB.drew).below hbz hB.lt; have hcz := hBz.cell; have hLz := cell_grown (grown_of hbz none) (World.cell?_drew _ _ ▸ hLk) (by simp); have hOz := (hO.drew).kept (grown_of hbz none) (.inr (by simp [Value.ownBlock])); have hcO := hOz.cellAt k (by omega); have hfO := hOz.frozenAt k; have hkO : (colV (goodN n l k))[k]? = some (.int .u32 (gd (goodN n l k) k)) := (by simp [colV, gd, List.getD, goodN_length hk hkn, hltn]); rw [hkO] at hcO; clear hkO)))
        all_goals
          go_wp2_with fail
          have hO2 := (hOz.stored k (.int .u32 (Pl.goodc (gd l k)))).1.drew
          rw [show (colV (goodN n l k)).set k (.int .u32 (Pl.goodc (gd l k))) = colV (goodN n l (k + 1)) by rw [← goodN_set n l k hlt hltn]; simp [colV, List.map_set]] at hO2
          have hB2 := (hBz.other hne1 k (.int .u32 (Pl.goodc (gd l k)))).drew
          have hR2 := (((hR.drew).below hbz hR.lt).other hne2 k (.int .u32 (Pl.goodc (gd l k)))).drew
          have hW2 := ((below_of hW.drew hbz).setCell (p := ⟨g1, k, none⟩) (by show w.heap.size ≤ g1; omega) (.int .u32 (Pl.goodc (gd l k))))
          go_roundw
          case rel => exact ⟨k + 1, by omega, by omega, by go_num, hB2, hR2, hO2, hW2⟩
          case measure => simp [intOf]; omega
      · have hrm := hR.cell
        have hfr := hR.free
        have e : goodL (W * H) l = goodN n l k := by rw [Hn.out, goodL]; congr 1; omega
        go_wp2_with fail
        obtain ⟨hR4, hg4⟩ := set3 hR (.int .i64 W) (.int .i64 H) (.slice (some ⟨g1, 0, none⟩) n c1)
        have hr4 := hR4.cell
        have hm : IsM W H (goodN n l k) := by rw [← Hn.out]; exact goodN_isM hk (by rw [Hn.out]; exact hkn) hA.col ex1 (by omega) ey1 (by omega)
        have hM : RM wr (.slice (some ⟨g1, 0, none⟩) n c1) W H (goodN n l k) := ⟨by rw [goodN_length hk hkn]; exact hO, hm⟩
        have hM := hM.kept hg4 (.inl (by simp [Value.ownBlock]; omega))
        have hW4 := grown_below hW hg4 (by have := hR.lt; omega) (fun k e => by cases e; omega)
        exact bodyPost_ret (v := .agg #[.int .i64 W, .int .i64 H, .slice (some ⟨g1, 0, none⟩) n c1]) (by simp [results, Try.results15, go_sem, hr4]) rfl ⟨_, rfl, by rw [e]; exact hM, .inr ⟨g1, rfl, by omega⟩, hW4⟩
    · have hrm := hR.cell
      have hfr := hR.free
      have e : goodL (W * H) l = goodN n l k := by rw [Hn.out, goodL]; congr 1; omega
      go_wp2_with fail
      obtain ⟨hR4, hg4⟩ := set3 hR (.int .i64 W) (.int .i64 H) (.slice (some ⟨g1, 0, none⟩) n c1)
      have hr4 := hR4.cell
      have hm : IsM W H (goodN n l k) := by rw [← Hn.out]; exact goodN_isM hk (by rw [Hn.out]; exact hkn) hA.col ex1 (by omega) ey1 (by omega)
      have hM : RM wr (.slice (some ⟨g1, 0, none⟩) n c1) W H (goodN n l k) := ⟨by rw [goodN_length hk hkn]; exact hO, hm⟩
      have hM := hM.kept hg4 (.inl (by simp [Value.ownBlock]; omega))
      have hW4 := grown_below hW hg4 (by have := hR.lt; omega) (fun k e => by cases e; omega)
      exact bodyPost_ret (v := .agg #[.int .i64 W, .int .i64 H, .slice (some ⟨g1, 0, none⟩) n c1]) (by simp [results, Try.results15, go_sem, hr4]) rfl ⟨_, rfl, by rw [e]; exact hM, .inr ⟨g1, rfl, by omega⟩, hW4⟩

end Go.Proofs.Ytfnnhjnhccbglaa
