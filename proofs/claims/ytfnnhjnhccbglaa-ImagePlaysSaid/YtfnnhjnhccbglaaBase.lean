/- The words that the walks of this seat share: what a call leaves of old memory. -/
import Derived.Test.YtfnnhjnhccbglaaProg
import Derived.WalkKit
import Derived.WalkSpells
import Derived.WalkLawsBesides
import Derived.Handy
import Derived.Deep.RegionHeld3
import Derived.Deep.QuietTactic
import Derived.BigQuiet
import Derived.Deep.LoopGhost
import Derived.Lib.Hide
import Derived.Deep.OwnRows
namespace Go.Proofs.Ytfnnhjnhccbglaa
open Go.RowKit

/-- All old cells and marks read as before: the two rules that the walk uses by itself. -/
theorem bcell {W w1 : World} (hb : Below W.heap.size W w1) : (∀ b o, b < W.heap.size → w1.cell? ⟨b, o, none⟩ = W.cell? ⟨b, o, none⟩) ∧ (∀ b o, b < W.heap.size → w1.frozen? ⟨b, o, none⟩ = W.frozen? ⟨b, o, none⟩) :=
  ⟨fun b o h => hb.cell (p := ⟨b, o, none⟩) h, fun b o h => hb.frozen (p := ⟨b, o, none⟩) h⟩

theorem below_of {w W w1 : World} (h : Below w.heap.size w W) (hb : Below W.heap.size W w1) : Below w.heap.size w w1 := h.trans (hb.mono h.size)

/-- What a region that draws keeps: all that was there. -/
theorem keepS {W w' : World} (h : Below W.heap.size W w') : Below W.heap.size W w' ∧ (∀ b o, b < W.heap.size → w'.cell? ⟨b, o, none⟩ = W.cell? ⟨b, o, none⟩) := ⟨h, (bcell h).1⟩

/-! ### A block known whole -/
/-- Block b holds the cells cs, none of them frozen. -/
def Blk (w : World) (b : Nat) (cs : Array Value) (T : TypeId) : Prop := w.heap[b]? = some (.cells cs T (0, 0))
theorem Blk.lt {w : World} {b : Nat} {cs : Array Value} {T : TypeId} (h : Blk w b cs T) : b < w.heap.size := (Array.getElem?_eq_some_iff.1 h).1
theorem Blk.below {w w' : World} {B b : Nat} {cs : Array Value} {T : TypeId} (h : Blk w b cs T) (hb : Below B w w') (hB : b < B) : Blk w' b cs T := (hb.block b hB).trans h
theorem Blk.next {w w' : World} {b : Nat} {cs : Array Value} {T : TypeId} (hb : Below w.heap.size w w') (h : Blk w b cs T) : Blk w' b cs T := h.below hb h.lt
theorem Blk.new (w : World) (cs : Array Value) (T : TypeId) : Blk (w.alloc (.cells cs T)) w.heap.size cs T := by
  show (w.heap.push _)[w.heap.size]? = _
  simp
theorem Blk.alloc {w : World} {b : Nat} {cs : Array Value} {T : TypeId} (h : Blk w b cs T) (o : Obj) : Blk (w.alloc o) b cs T := (Below.heap_alloc w o b h.lt).trans h
theorem Blk.drew {w : World} {b : Nat} {cs : Array Value} {T : TypeId} (h : Blk w b cs T) : Blk w.drew b cs T := h
theorem Blk.set {w : World} {b : Nat} {cs : Array Value} {T : TypeId} (h : Blk w b cs T) (i : Nat) (v : Value) : Blk (w.setCell ⟨b, i, none⟩ v) b (cs.setIfInBounds i v) T := by
  unfold Blk at *
  simp [World.setCell, Array.getElem?_modify, h]
theorem Blk.other {w : World} {b : Nat} {cs : Array Value} {T : TypeId} (h : Blk w b cs T) {c : Nat} (hc : b ≠ c) (i : Nat) (v : Value) : Blk (w.setCell ⟨c, i, none⟩ v) b cs T :=
  (Below.heap_setCell w ⟨c, i, none⟩ v b hc).trans h
theorem Blk.cell {w : World} {b : Nat} {cs : Array Value} {T : TypeId} (h : Blk w b cs T) : ∀ i, w.cell? ⟨b, i, none⟩ = cs[i]? := fun i => by
  unfold Blk at h
  simp [World.cell?, h]
theorem Blk.free {w : World} {b : Nat} {cs : Array Value} {T : TypeId} (h : Blk w b cs T) : ∀ i, w.frozen? ⟨b, i, none⟩ = false := fun i => by
  unfold Blk at h
  simp [World.frozen?, h]

theorem cell?_setCell_ne {w : World} {b i c j : Nat} {v : Value} (h : ¬ b = c) : (w.setCell ⟨c, j, none⟩ v).cell? ⟨b, i, none⟩ = w.cell? ⟨b, i, none⟩ :=
  World.cell?_of_block (w := w) (Below.heap_setCell w ⟨c, j, none⟩ v b h)
theorem frozen?_setCell_ne {w : World} {b i c j : Nat} {v : Value} (h : ¬ b = c) : (w.setCell ⟨c, j, none⟩ v).frozen? ⟨b, i, none⟩ = w.frozen? ⟨b, i, none⟩ :=
  World.frozen?_of_block (w := w) (Below.heap_setCell w ⟨c, j, none⟩ v b h)

theorem ret_int {k : IntKind} {a b : Int} (h : a = b) : Ending.returned (.int k a) = .returned (.int k b) := by rw [h]
theorem ret_bool {a b : Bool} (h : a = b) : Ending.returned (.bool a) = .returned (.bool b) := by rw [h]

theorem bool_decide {b : Bool} {p : Prop} [Decidable p] (h : b = true ↔ p) : b = decide p := by rw [Bool.eq_iff_iff, h, decide_eq_true_iff]

/-! ### A cut: the ways through a region meet again -/
def CutAt (afin : Act) (Inv : World → Prop) (a : Act) (w : World) : Prop := a = afin ∧ Inv w
theorem wp_cut {P : Program} {c : Code} {K : Act → World → Prop} {Q : Exit → Act → World → Prop} {a : Act} {w : World} (Inv : World → Prop) (afin : Act)
    (h1 : c.wp P (Exit.then (CutAt afin Inv) Q) a w) (h2 : ∀ w', Inv w' → K afin w') : c.wp P (Exit.then K Q) a w :=
  wp_mono h1 fun e a' w' h => by
    cases e with
    | normal => obtain ⟨rfl, hi⟩ := (h : CutAt afin Inv a' w'); exact h2 w' hi
    | _ => exact h

/-! ### max, min: one value, no ways -/
theorem max2_int (k k' : IntKind) (x y : Int) : Builtin.max2 (.int k x) (.int k' y) = pure (.int k (max x y)) := by
  have : (if y > x then y else x) = max x y := by omega
  simp only [Builtin.max2, this]
theorem min2_int (k k' : IntKind) (x y : Int) : Builtin.min2 (.int k x) (.int k' y) = pure (.int k (min x y)) := by
  have : (if y < x then y else x) = min x y := by omega
  simp only [Builtin.min2, this]
section
variable {P : Program} (w : World) (ts : Array TypeId) (t : TypeId)
@[go_sem high] theorem run_max2 (k k' : IntKind) (x y : Int) : (Builtin.max_ ts t #[.int k x, .int k' y]).run P w = .ok (.int k (max x y)) w := by
  simp [Builtin.max_, max2_int]
@[go_sem high] theorem run_min2 (k k' : IntKind) (x y : Int) : (Builtin.min_ ts t #[.int k x, .int k' y]).run P w = .ok (.int k (min x y)) w := by
  simp [Builtin.min_, min2_int]
@[go_sem high] theorem run_max3 (k k' k'' : IntKind) (x y z : Int) : (Builtin.max_ ts t #[.int k x, .int k' y, .int k'' z]).run P w = .ok (.int k (max (max x y) z)) w := by
  simp [Builtin.max_, max2_int]
@[go_sem high] theorem run_min3 (k k' k'' : IntKind) (x y z : Int) : (Builtin.min_ ts t #[.int k x, .int k' y, .int k'' z]).run P w = .ok (.int k (min (min x y) z)) w := by
  simp [Builtin.min_, min2_int]
@[go_sem high] theorem run_max4 (k k' k'' k3 : IntKind) (x y z u : Int) : (Builtin.max_ ts t #[.int k x, .int k' y, .int k'' z, .int k3 u]).run P w = .ok (.int k (max (max (max x y) z) u)) w := by
  simp [Builtin.max_, max2_int]
@[go_sem high] theorem run_min4 (k k' k'' k3 : IntKind) (x y z u : Int) : (Builtin.min_ ts t #[.int k x, .int k' y, .int k'' z, .int k3 u]).run P w = .ok (.int k (min (min (min x y) z) u)) w := by
  simp [Builtin.min_, min2_int]
end

end Go.Proofs.Ytfnnhjnhccbglaa
