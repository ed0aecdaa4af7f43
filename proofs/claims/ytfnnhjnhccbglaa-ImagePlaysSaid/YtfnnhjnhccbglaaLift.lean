/- What came in, read cell by cell: integers, slices of integers, slices of structs. -/
import Derived.Test.YtfnnhjnhccbglaaProg
import Derived.WalkKit
import Derived.ProofKit
import Derived.OpenShut
import Derived.ShutString
import Derived.ChangeOld
import Derived.Below
import Derived.Deep.Slices
namespace Go.Proofs.Ytfnnhjnhccbglaa
open Go.ChangeShapes Go.WideShapes Go.ChangeAt Go.RowKit Go.Deep

theorem list_of_forall {α : Type} {p : Nat → α → Prop} : ∀ (n : Nat), (∀ k, k < n → ∃ x, p k x) → ∃ l : List α, l.length = n ∧ ∀ k x, l[k]? = some x → p k x
  | 0, _ => ⟨[], rfl, fun k x h => by simp at h⟩
  | n + 1, h => by
    obtain ⟨l, hl, hp⟩ := list_of_forall n (fun k hk => h k (by omega))
    obtain ⟨x, hx⟩ := h n (by omega)
    refine ⟨l ++ [x], by simp [hl], fun k y hy => ?_⟩
    by_cases hk : k < n
    · rw [List.getElem?_append_left (by omega)] at hy
      exact hp k y hy
    · have hk2 : k < n + 1 := by have := (List.getElem?_eq_some_iff.1 hy).1; simp [hl] at this; omega
      obtain rfl : k = n := by omega
      rw [List.getElem?_append_right (by omega), hl, Nat.sub_self] at hy
      simp at hy
      subst hy; exact hx

theorem take1 {α : Type} {cs : List α} {o : Nat} {v : α} (h : (cs.drop o).take 1 = [v]) : cs[o]? = some v := by
  have : ((cs.drop o).take 1)[0]? = some v := by rw [h]; rfl
  simpa [List.getElem?_take, List.getElem?_drop] using this
theorem sub_at {α : Type} {cs : List α} {o s j : Nat} (hj : j < s) : ((cs.drop o).take s)[j]? = cs[o + j]? := by
  simp [List.getElem?_take, List.getElem?_drop, hj]

section
variable {H : Type} {enc : TypeId × Value → H} {P : Program} {w : World} {base : Nat} {spare : Nat → Bool} {held : Bool}

/-- A struct's field. -/
theorem at_field {t : TypeId} {fs : Array Field} {n : Nat} {cs : List Value} {y : DataW H × List MemPlace} (ht : P.underlying t = some (.struct fs)) (h : DataW.trod enc P w base spare held n t cs = some y) (i : Nat) {f : Field} (hf : fs[i]? = some f) {s o : Nat} {u : TypeId} (ho : f.offset = o) (hu : f.type = u) (hs : P.cellsOf f.type = s) :
    ∃ m y', DataW.trod enc P w base spare held m u ((cs.drop o).take s) = some y' := by
  obtain ⟨xs, m, _, _, _, hl, hx⟩ := DataW.trod_struct ht h
  have h1 := hx i f hf
  have hi : i < xs.length := by rw [hl]; exact (Array.getElem?_eq_some_iff.1 hf).1
  rw [List.getElem?_eq_getElem hi, hs, ho, hu] at h1
  exact ⟨m, _, h1⟩

theorem at_int {t : TypeId} {k : IntKind} {n : Nat} {cs : List Value} {o : Nat} {y : DataW H × List MemPlace} (ht : P.underlying t = some (.int k)) (h : DataW.trod enc P w base spare held n t ((cs.drop o).take 1) = some y) :
    ∃ v, cs[o]? = some (.int k v) ∧ (Lit.int k v).wf = true := by
  obtain ⟨v, e, _, hw⟩ := DataW.trod_int ht h
  exact ⟨v, take1 e, hw⟩

/-- A slice's elements, cell by cell. -/
theorem at_rows {t e : TypeId} {n C : Nat} {cs : List Value} {y : DataW H × List MemPlace} (ht : P.underlying t = some (.slice e)) (hC : P.cellsOf e = C) (h0 : 0 < C) (h : DataW.trod enc P w base spare held n t cs = some y) :
    ∃ a len cap, cs = [.slice a len cap] ∧ len ≤ cap ∧ cap ≤ maxLen ∧ (0 < len → ∃ g o, a = some ⟨g, o, none⟩ ∧ g < w.heap.size ∧
      ∀ k, k < len → ∃ cs' m y', cs'.length = C ∧ DataW.trod enc P w base spare held m e cs' = some y' ∧ ∀ j, j < C → w.cell? ⟨g, o + k * C + j, none⟩ = cs'[j]?) := by
  rcases open_slice ht h with ⟨rfl, _⟩ | ⟨a, len, cap, m, n', D, Pl, rfl, hb, hl, hm, hmm, hx, hi⟩
  · exact ⟨none, 0, 0, rfl, Nat.le_refl _, Nat.zero_le _, fun h => absurd h (by omega)⟩
  · refine ⟨some a, len, cap, rfl, hl, hm, fun hp => ?_⟩
    have hlm : len ≤ m := by rw [hmm]; split <;> omega
    have key : ∀ k, k < len → ∃ cs', cs'.length = C ∧ DataW.trod enc P w base spare held n' e cs' = some (D k, Pl k) ∧ ∀ j, j < C → w.cell? ((a.add (k * C)).add j) = cs'[j]? := by
      intro k hk
      obtain ⟨cs', hc, ht'⟩ := hi k (by omega)
      rw [hC] at hc
      obtain ⟨_, hcl, hat⟩ := World.cells?_some hc
      exact ⟨cs', hcl, ht', hat⟩
    obtain ⟨b, off, spot⟩ := a
    have hspot : spot = none := by
      obtain ⟨cs', hcl, _, hat⟩ := key 0 hp
      have h1 := hat 0 h0
      rw [List.getElem?_eq_getElem (by omega)] at h1
      simpa [Addr.add] using World.cell?_spot h1
    subst hspot
    have hk : ∀ k, k < len → ∃ cs', cs'.length = C ∧ DataW.trod enc P w base spare held n' e cs' = some (D k, Pl k) ∧ ∀ j, j < C → w.cell? ⟨b, off + k * C + j, none⟩ = cs'[j]? := by
      intro k hk
      obtain ⟨cs', hcl, ht', hat⟩ := key k hk
      exact ⟨cs', hcl, ht', fun j hj => by rw [← hat j hj, Go.WideShapes.add_plain, Go.WideShapes.add_plain]⟩
    refine ⟨b, off, rfl, ?_, fun k hk' => ?_⟩
    · obtain ⟨cs', hcl, _, hat⟩ := hk 0 hp
      have h1 := hat 0 h0
      rw [List.getElem?_eq_getElem (by omega)] at h1
      exact World.block_lt_of_cell? w _ h1
    · obtain ⟨cs', hcl, ht', hat⟩ := hk k hk'
      exact ⟨cs', n', _, hcl, ht', hat⟩

/-- A slice of integers. -/
theorem at_ints {t e : TypeId} {k : IntKind} {n : Nat} {cs : List Value} {y : DataW H × List MemPlace} (ht : P.underlying t = some (.slice e)) (he : P.underlying e = some (.int k)) (hC : P.cellsOf e = 1) (h : DataW.trod enc P w base spare held n t cs = some y) :
    ∃ a cap, ∃ zs : List Int, cs = [.slice a zs.length cap] ∧ zs.length ≤ cap ∧ cap ≤ maxLen ∧ (∀ z, z ∈ zs → (Lit.int k z).wf = true) ∧ (0 < zs.length → ∃ g o, a = some ⟨g, o, none⟩ ∧ g < w.heap.size ∧
      ∀ j, j < zs.length → w.cell? ⟨g, o + j, none⟩ = some (.int k (zs.getD j 0))) := by
  obtain ⟨a, len, cap, rfl, hl, hm, hr⟩ := at_rows ht hC (by omega) h
  by_cases hp : 0 < len
  · obtain ⟨g, o, rfl, hg, hk⟩ := hr hp
    obtain ⟨zs, hz, hzs⟩ := list_of_forall (p := fun j z => w.cell? ⟨g, o + j, none⟩ = some (.int k z) ∧ (Lit.int k z).wf = true) len (fun j hj => by
      obtain ⟨cs', m, y', hcl, ht', hat⟩ := hk j hj
      obtain ⟨z, e, _, hw⟩ := DataW.trod_int he ht'
      refine ⟨z, ?_, hw⟩
      have := hat 0 (by omega)
      rw [e, Nat.mul_one, Nat.add_zero] at this
      simpa using this)
    subst hz
    refine ⟨_, cap, zs, rfl, hl, hm, fun z hz => ?_, fun _ => ⟨g, o, rfl, hg, fun j hj => ?_⟩⟩
    · obtain ⟨j, hj, rfl⟩ := List.getElem_of_mem hz
      exact (hzs j _ (List.getElem?_eq_getElem hj)).2
    · rw [(hzs j _ (List.getElem?_eq_getElem hj)).1]
      simp [List.getD, List.getElem?_eq_getElem hj]
  · obtain rfl : len = 0 := by omega
    exact ⟨a, cap, [], rfl, hl, hm, fun z hz => by simp at hz, fun h => by simp at h⟩
end

theorem wf_u32 {z : Int} (h : (Lit.int .u32 z).wf = true) : 0 ≤ z ∧ z < 4294967296 := by
  have e1 : IntKind.u32.min = 0 := by decide
  have e2 : IntKind.u32.max = 4294967295 := by decide
  simp only [Lit.wf, e1, e2, Bool.and_eq_true, decide_eq_true_iff] at h; omega
theorem wf_u8 {z : Int} (h : (Lit.int .u8 z).wf = true) : 0 ≤ z ∧ z < 256 := by
  have e1 : IntKind.u8.min = 0 := by decide
  have e2 : IntKind.u8.max = 255 := by decide
  simp only [Lit.wf, e1, e2, Bool.and_eq_true, decide_eq_true_iff] at h; omega
theorem wf_i64 {z : Int} (h : (Lit.int .i64 z).wf = true) : -9223372036854775808 ≤ z ∧ z ≤ 9223372036854775807 := by
  have e1 : IntKind.i64.min = -9223372036854775808 := by decide
  have e2 : IntKind.i64.max = 9223372036854775807 := by decide
  simp only [Lit.wf, e1, e2, Bool.and_eq_true, decide_eq_true_iff] at h; omega

end Go.Proofs.Ytfnnhjnhccbglaa
