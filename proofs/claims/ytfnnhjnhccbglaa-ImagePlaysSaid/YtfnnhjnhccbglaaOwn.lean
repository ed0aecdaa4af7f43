/- Laws of the walk for slices that the call itself makes: append of one element, append of many; whatever the element's size. -/
import Derived.Test.YtfnnhjnhccbglaaBase
import Derived.Maps.AppendAt
import Derived.Deep.AppendLies
import Derived.ArgAppend
import Derived.Laws.IdiomCopy
namespace Go.Proofs.Ytfnnhjnhccbglaa
open Go.RowKit

theorem own_nil (W : World) (base : Nat) (e : TypeId) (size : Nat) : W.ownsRow base e size (.slice none 0 0) 0 [] := ⟨by simp, .inl ⟨rfl, rfl⟩⟩
theorem grown_of {w w1 : World} (h : Below w.heap.size w w1) (row : Option Nat) : w.grownBy w1 row := ⟨h.os, h.tape, h.output, h.size, fun i hi _ => h.block i hi⟩
theorem grown_none {w w1 : World} (h : w.grownBy w1 none) : Below w.heap.size w w1 := ⟨h.os, h.tape, h.output, h.size, fun i hi => h.block i hi (by simp)⟩
theorem grown_set {w : World} {b i : Nat} (v : Value) : w.grownBy (w.setCell ⟨b, i, none⟩ v) (some b) :=
  ⟨rfl, rfl, rfl, by simp [World.setCell], fun k hk hne => Below.heap_setCell w ⟨b, i, none⟩ v k (fun e => hne (by rw [e]))⟩
theorem grown_drew (w : World) (row : Option Nat) : w.grownBy w.drew row := ⟨rfl, rfl, rfl, Nat.le_refl _, fun _ _ _ => rfl⟩
/-- Where the value lies: where it lay, or in a block that is new. -/
def Lies (W : World) (v v' : Value) : Prop := v'.ownBlock = v.ownBlock ∨ ∃ g, v'.ownBlock = some g ∧ W.heap.size ≤ g
theorem Lies.new {W : World} {g o : Nat} {s : Option Nat} {n c : Nat} {v : Value} (h : Lies W v (.slice (some ⟨g, o, s⟩) n c)) (hv : v.ownBlock = none) : W.heap.size ≤ g := by
  rcases h with h | ⟨g', h, hle⟩
  · rw [hv] at h; simp [Value.ownBlock] at h
  · simp [Value.ownBlock] at h; omega
theorem own_below {w w1 : World} {base : Nat} {e : TypeId} {size n : Nat} {v : Value} {xs : List Value} (h : w.ownsRow base e size v n xs) (hb : Below w.heap.size w w1) : w1.ownsRow base e size v n xs :=
  h.kept (grown_of hb none) (by cases v.ownBlock <;> simp)
/-- What the call has made itself. -/
theorem Lies.ge {V : World} {v : Value} (h : Lies V (.slice none 0 0) v) : ∀ k, v.ownBlock = some k → V.heap.size ≤ k := by
  intro k hk
  rcases h with h | ⟨g, h, hle⟩
  · rw [h] at hk; simp [Value.ownBlock] at hk
  · rw [h] at hk; cases hk; exact hle
theorem Lies.ne {V : World} {v : Value} (h : Lies V (.slice none 0 0) v) {b : Nat} (hb : b < V.heap.size) : some b ≠ v.ownBlock := fun e => by
  have := h.ge b e.symm; omega
theorem Lies.step {V W : World} {v0 v1 v2 : Value} (h : Lies V v0 v1) (k : Lies W v1 v2) (hz : V.heap.size ≤ W.heap.size) : Lies V v0 v2 := by
  rcases k with k | ⟨g, k, hle⟩
  · rcases h with h | ⟨g, h, hle⟩
    · exact .inl (k.trans h)
    · exact .inr ⟨g, k.trans h, hle⟩
  · exact .inr ⟨g, k, by omega⟩
theorem grown_below {B : Nat} {w w1 w2 : World} {row : Option Nat} (h : Below B w w1) (hg : w1.grownBy w2 row) (hB : B ≤ w1.heap.size) (hr : ∀ k, row = some k → B ≤ k) : Below B w w2 := h.grown hg hB hr

/-! ### A result's box, filled cell by cell -/
theorem set3 {w : World} {r : Nat} {a0 a1 a2 : Value} {T : TypeId} (h : Blk w r #[a0, a1, a2] T) (x0 x1 x2 : Value) :
    Blk (((w.setCell ⟨r, 0, none⟩ x0).setCell ⟨r, 1, none⟩ x1).setCell ⟨r, 2, none⟩ x2) r #[x0, x1, x2] T ∧ w.grownBy (((w.setCell ⟨r, 0, none⟩ x0).setCell ⟨r, 1, none⟩ x1).setCell ⟨r, 2, none⟩ x2) (some r) :=
  ⟨by simpa using ((h.set 0 x0).set 1 x1).set 2 x2, ((grown_set _).trans (grown_set _)).trans (grown_set _)⟩
theorem set4 {w : World} {r : Nat} {a0 a1 a2 a3 : Value} {T : TypeId} (h : Blk w r #[a0, a1, a2, a3] T) (x0 x1 x2 x3 : Value) :
    Blk ((((w.setCell ⟨r, 0, none⟩ x0).setCell ⟨r, 1, none⟩ x1).setCell ⟨r, 2, none⟩ x2).setCell ⟨r, 3, none⟩ x3) r #[x0, x1, x2, x3] T ∧ w.grownBy ((((w.setCell ⟨r, 0, none⟩ x0).setCell ⟨r, 1, none⟩ x1).setCell ⟨r, 2, none⟩ x2).setCell ⟨r, 3, none⟩ x3) (some r) :=
  ⟨by simpa using (((h.set 0 x0).set 1 x1).set 2 x2).set 3 x3, (((grown_set _).trans (grown_set _)).trans (grown_set _)).trans (grown_set _)⟩
theorem Blk.kept {w w' : World} {b : Nat} {cs : Array Value} {T : TypeId} (h : Blk w b cs T) {row : Option Nat} (hg : w.grownBy w' row) (hne : some b ≠ row) : Blk w' b cs T := (hg.block b h.lt hne).trans h

theorem cell_alloc {w : World} {b i : Nat} {v : Value} (h : w.cell? ⟨b, i, none⟩ = some v) (o : Obj) : (w.alloc o).cell? ⟨b, i, none⟩ = some v :=
  (World.cell?_of_block (w := w) (Below.heap_alloc w o b (World.block_lt_of_cell? w _ h))).trans h
theorem cell_grown {w w' : World} {row : Option Nat} (hg : w.grownBy w' row) {b i : Nat} {v : Value} (h : w.cell? ⟨b, i, none⟩ = some v) (hne : some b ≠ row) : w'.cell? ⟨b, i, none⟩ = some v :=
  (World.cell?_of_block (w := w) (hg.block b (World.block_lt_of_cell? w _ h) hne)).trans h

theorem grown_setCells {b : Nat} : ∀ (vs : List Value) (o : Nat) (w : World), w.grownBy (w.setCells b o vs) (some b)
  | [], _, w => ⟨rfl, rfl, rfl, Nat.le_refl _, fun _ _ _ => rfl⟩
  | v :: r, o, w => (grown_set (i := o) v).trans (grown_setCells r (o + 1) _)

section
variable {P : Program} {ops : Array Oper} {rest : List Oper} {o : Oper} {a : Act} {Q : Exit → Act → World → Prop}

/-- append(v, x...): x lies at ad. -/
theorem wpList_app {w : World} (hgd : o.guard = none) (s x : Operand) (t e : TypeId) (ho : o.op = .call { callee := .builtin .append, args := #[s, x], argTypes := #[t, t] })
    (z : Value) (size bytes : Nat) (ht : P.underlying t = some (.slice e)) (hinfo : (P.info? e).map (fun i => (i.zero, i.size, i.bytes)) = some (some z, size, bytes)) (hzs : z.cells.size = size) (hsz : 0 < size)
    (v : Value) (n : Nat) (xs : List Value) (hs : a.eval s = v) (hown : w.ownsRow 0 e size v n xs)
    (ad : Addr) (m c : Nat) (news : List Value) (hx : a.eval x = .slice (some ad) m c) (hl : news.length = m * size) (hnews : ∀ j u, news[j]? = some u → w.cell? (ad.add j) = some u) (h1 : ∀ u ∈ news, u.oneCell' = true)
    (h63 : n + m ≤ 9223372036854775807) (hbytes : (n + m) * bytes ≤ 140737488355328)
    (h : ∀ v' w', w'.ownsRow 0 e size v' (n + m) (xs ++ news) → w.grownBy w' v.ownBlock → Lies w v v' → wpList P ops Q rest (a.put o.dst v') w') :
    wpList P ops Q (o :: rest) a w := by
  obtain ⟨i, hi, hz, hsize, hby⟩ := info_parts hinfo
  refine wpList_append_own_at w hgd s x t ho 0 e i z size bytes ht hi hz hsize hby hzs hsz v n xs hs hown ad m c news hx hl hnews h1 (by simpa [maxLen] using h63) hbytes (Nat.zero_le _) fun v' w' h2 h3 _ h5 => h v' w' h2 h3 ?_
  rcases h5 with h5 | h5
  · exact .inl h5
  · exact .inr ⟨_, h5, Nat.le_refl _⟩

/-- append(v, x): one element, of the cells cs, in a block of its own. -/
theorem wpList_app1 {W : World} (hgd : o.guard = none) (s x : Operand) (t e : TypeId) (ho : o.op = .call { callee := .builtin .append, args := #[s, x], argTypes := #[t, t] })
    (z : Value) (size bytes : Nat) (ht : P.underlying t = some (.slice e)) (hinfo : (P.info? e).map (fun i => (i.zero, i.size, i.bytes)) = some (some z, size, bytes)) (hzs : z.cells.size = size) (hsz : 0 < size)
    (v : Value) (n : Nat) (xs : List Value) (hs : a.eval s = v) (hown : W.ownsRow 0 e size v n xs)
    (cs : Array Value) (hcs : cs.size = size) (h1 : ∀ u ∈ cs.toList, u.oneCell' = true) (hx : a.eval x = .slice (some ⟨W.heap.size, 0, none⟩) 1 1)
    (hbytes : (n + 1) * bytes ≤ 140737488355328) (hb0 : 0 < bytes)
    (h : ∀ v' w', w'.ownsRow 0 e size v' (n + 1) (xs ++ cs.toList) → W.grownBy w' v.ownBlock → Lies W v v' → wpList P ops Q rest (a.put o.dst v') w') :
    wpList P ops Q (o :: rest) a (W.alloc (.cells cs e)) := by
  have hn : n + 1 ≤ 140737488355328 := Nat.le_trans (Nat.le_mul_of_pos_right _ hb0) hbytes
  refine wpList_app hgd s x t e ho z size bytes ht hinfo hzs hsz v n xs hs (hown.alloc _) ⟨W.heap.size, 0, none⟩ 1 1 cs.toList hx (by simp [hcs]) (fun j u hu => ?_) h1 (by omega) hbytes fun v' w' h2 h3 h4 => h v' w' h2 (World.grownBy.trans (World.grownBy_alloc W _ _) h3) ?_
  · have hB := Blk.new W cs e
    have ha : (⟨W.heap.size, 0, none⟩ : Addr).add j = ⟨W.heap.size, j, none⟩ := by unfold Addr.add; split <;> simp_all
    rw [ha, hB.cell, ← hu, Array.getElem?_toList]
  · rcases h4 with h4 | ⟨g, h4, h5⟩
    · exact .inl h4
    · exact .inr ⟨g, h4, by simp at h5; omega⟩
end

end Go.Proofs.Ytfnnhjnhccbglaa
