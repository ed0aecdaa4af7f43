/- A region that draws its order, within a round of a range over a function: what holds of it in a plain walk holds there too. -/
import Derived.Test.YtfnnhjnhccbglaaOwn
import Derived.RangeFuncNested
import Derived.RangeFuncCalls
import Derived.RangeFuncFrom
import Derived.RangeFuncLeaves
import Derived.OrdersIn
import Derived.Shelf.Abstract
import Derived.OwnWalkIn
import Derived.TacticsInMore
import Derived.LoopNIn
import Derived.LoopIn
namespace Go.Proofs.Ytfnnhjnhccbglaa
open Go.RowKit

section
variable {P : Program} {ops : Array Oper} {C : World → Prop} {Q : Exit → Act → World → Prop} {md : Region.Mode} {l n : Nat}

theorem oper_round {o : Oper} {a : Act} {w : World} {K : Act → World → Prop} (hnd : ∀ c, o.op ≠ .defer c) (h : Oper.wp P o a w K Q) : Oper.wpIn (Fence.wide.inRound l) n P o a w K Q := by
  refine ⟨fun _ _ => trivial, ?_⟩
  rw [Oper.semAt_eq _ _ _ hnd]
  unfold Oper.wp at h
  generalize (execOp a.eval o).run P w = r at *
  cases r with
  | ok x w' =>
    cases x with
    | value v => exact h
    | skip => exact h
    | defer d => exact h
    | enter f args =>
      rw [Oper.uponIn_enter]
      rw [Oper.upon_enter] at h
      exact ⟨fun hd => (by cases hd), CallsIn.mono (CallsIn.inRound l (callsIn_wide.2 h)) (fun e w'' he => by cases e <;> exact he)⟩
    | row row args =>
      rw [Oper.uponIn_row]
      exact ⟨fun hd => (by cases hd), fun c cs _ => (by
        obtain ⟨v, w', r, s⟩ := (h : Rows P row args w' _) c cs
        exact ⟨v, w', r, stepsIn_wide.2 s⟩)⟩
    | _ => exact h.elim
  | halt x w' => cases x <;> exact h

theorem wpOpIn_of_qOp {i : Nat} {a : Act} {K : Act → Prop} {K' : Act → World → Prop} {w : World} (hnd : ∀ o, o ∈ ops.toList → ∀ c, o.op ≠ .defer c) (hC : C w) (h : ∀ a w', C w' → K a → K' a w') (hh : qOp P ops C i K a) : wpOpIn (Fence.wide.inRound l) n P ops Q i K' a w := by
  unfold qOp at hh
  unfold wpOpIn
  cases ho : ops[i]? with
  | none => simp only [ho] at hh; exact h _ _ hC hh
  | some o =>
    simp only [ho] at hh
    have hm : o ∈ ops.toList := by
      obtain ⟨hi, e⟩ := Array.getElem?_eq_some_iff.1 ho
      rw [← e]; exact Array.getElem_mem_toList hi
    dsimp only
    split
    · rename_i hw; simp only [hw, if_true] at hh; exact oper_round (hnd o hm) (Oper.wp_of_quiet hC h hh)
    · rename_i hw; simp only [hw] at hh; exact ⟨fun _ _ => trivial, h _ _ hC hh⟩

theorem wpAnyIn_of_quiet {R : Act → Prop} (hnd : ∀ o, o ∈ ops.toList → ∀ c, o.op ≠ .defer c) (hQ : ∀ a w, C w → R a → Q .normal a w) : ∀ (fuel : Nat) (listed : Array Bool) (a : Act) (w : World), C w → wpAnyQ P md ops C R fuel listed a → wpAnyIn (Fence.wide.inRound l) n P md ops Q fuel listed a w
  | 0, _, _, _, hw, h => ⟨h.1, hQ _ _ hw h.2⟩
  | fuel + 1, _, _, _, hw, h => ⟨fun h0 => hQ _ _ hw (h.1 h0), fun i hi => wpOpIn_of_qOp hnd hw (fun a' w' hw' => wpAnyIn_of_quiet hnd hQ fuel _ a' w' hw') (h.2 i hi)⟩

/-- One walk of the lexical order, each operation quiet in the class C: within a round. -/
theorem region_round {id : Nat} {a : Act} {w : World} (hm : P.follows .mixedOrders = true) (hB : Region.lexB .any ops = true) (hnd : ops.toList.all (fun o => match o.op with | .defer _ => false | _ => true) = true) (hC : C w.drew)
    (h : wpQuiet P ops C (fun a' => ∀ w', C w' → Q .normal a' w') ops.toList a) : (Code.region id ops true).wpIn (Fence.wide.inRound l) n P Q a w := by
  simp only [Region.lexB, Bool.and_eq_true] at hB
  refine wpIn_region_any hm (wpAnyIn_of_quiet (R := fun a' => ∀ w', C w' → Q .normal a' w') (fun o ho c hc => ?_) (fun _ w' hw' h => h w' hw') _ _ _ _ hC ?_)
  · have := List.all_eq_true.1 hnd o ho
    rw [hc] at this
    cases this
  · have := wpAnyQ_lex (C := C) (md := .any) hB.1 ops.toList 0 (Array.replicate ops.size false) a (by simp) (by simpa using hB.2) h
    simpa using this

theorem region_round_lit {id : Nat} {a : Act} {w : World} {os : List Oper} (hm : P.follows .mixedOrders = true) (hB : Region.lexB .any os.toArray = true) (hnd : os.all (fun o => match o.op with | .defer _ => false | _ => true) = true)
    (h : wpQuiet P os.toArray (fun w' => ∃ n, w' = w.drewN n) (fun a' => ∀ w', (∃ n, w' = w.drewN n) → Q .normal a' w') os a) : (Code.region id os.toArray true).wpIn (Fence.wide.inRound l) n P Q a w :=
  region_round (C := fun w' => ∃ n, w' = w.drewN n) hm hB (by simpa using hnd) ⟨1, rfl⟩ (by simpa using h)
end

end Go.Proofs.Ytfnnhjnhccbglaa
