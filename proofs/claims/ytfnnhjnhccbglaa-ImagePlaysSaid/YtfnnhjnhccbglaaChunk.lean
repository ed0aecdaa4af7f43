/- Walks: slices.Chunk of bytes, in fours: what its iterator yields. -/
import Derived.Test.YtfnnhjnhccbglaaRound
namespace Go.Proofs.Ytfnnhjnhccbglaa
open Go.RowKit Go.Shelf

attribute [local go_sem] Oper.semAt_some

/-- What has come when k rounds are over. -/
def come (N k : Nat) : List (Fin N) := (List.finRange N).take k
theorem come_succ {N k : Nat} (h : k < N) : come N (k + 1) = come N k ++ [⟨k, h⟩] := by
  unfold come
  rw [List.take_succ_eq_append_getElem (by simpa using h)]
  simp
theorem come_length {N k : Nat} (h : k ≤ N) : (come N k).length = k := by simp [come, h]
theorem come_all (N : Nat) : come N N = List.finRange N := by unfold come; exact List.take_of_length_le (by simp)

theorem chunk (a : Option Addr) (len cap : Nat) (w : World) :
    Calls Try.prog 93 #[.slice a len cap, .int .i64 4] w fun e w' =>
      e = .returned (.func (.func 129) #[] #[.pointer (some ⟨w.heap.size, 0, none⟩), .pointer (some ⟨w.heap.size + 1, 0, none⟩)]) ∧ w' = (w.alloc (.cells #[.slice a len cap] 33)).alloc (.cells #[.int .i64 4] 3) := by
  go_enter Try.func93, Try.ntmps93
  go_wp2
  go_ret
  exact ⟨rfl, rfl⟩

theorem keepN (W : World) (n₀ : Nat) : Below n₀ W W.drew := ⟨rfl, rfl, rfl, Nat.le_refl _, fun _ _ => rfl⟩

/-- The two cells that the iterator reads are kept. -/
def KpC (Bs Bn : Nat) (W W' : World) : Prop := W'.cell? ⟨Bs, 0, none⟩ = W.cell? ⟨Bs, 0, none⟩ ∧ W'.cell? ⟨Bn, 0, none⟩ = W.cell? ⟨Bn, 0, none⟩
theorem KpC.trans {Bs Bn : Nat} {A B C : World} (h : KpC Bs Bn A B) (k : KpC Bs Bn B C) : KpC Bs Bn A C := ⟨k.1.trans h.1, k.2.trans h.2⟩
theorem KpC.refl (Bs Bn : Nat) (W : World) : KpC Bs Bn W W := ⟨rfl, rfl⟩

set_option maxRecDepth 100000 in
set_option maxHeartbeats 2000000 in
theorem chunk1_in (n : Nat) (hn : 1 ≤ n) (l Bs Bn b off N cap : Nat) (hreach : 4 * N ≤ cap) (hcap : 4 * N ≤ 140737488351232) (J Jx : List (Fin N) → World → Prop)
    (hY : ∀ pre x W, J pre W → pre.length < N → YieldAt Fence.wide (n - 1) Try.prog l #[.slice (some ⟨b, off + 4 * x.val, none⟩) 4 4] W fun e W' =>
      (e = .returned (.bool true) ∧ J (pre ++ [x]) W' ∧ KpC Bs Bn W W') ∨ (e = .returned (.bool false) ∧ Jx (pre ++ [x]) W'))
    (hdr : ∀ s W W' row, J s W → W.grownBy W' row → (∀ r, row = some r → False) → J s W')
    (W : World) (hcs : W.cell? ⟨Bs, 0, none⟩ = some (.slice (some ⟨b, off, none⟩) (4 * N) cap)) (hcn : W.cell? ⟨Bn, 0, none⟩ = some (.int .i64 4)) (h0 : J [] W) :
    CallsIn Fence.wide n Try.prog 129 #[.func (.yield l) #[] #[], .pointer (some ⟨Bs, 0, none⟩), .pointer (some ⟨Bn, 0, none⟩)] W fun e W' => (∃ v, e = .returned v) ∧
      ((∃ ys, ys = come N N ∧ J ys W') ∨ (∃ pre, (∃ k, k ≤ N ∧ pre = come N k) ∧ Jx pre W')) := by
  refine callsIn_of_wp Try.func129 rfl trivial ?_ rfl
  simp only [Try.ntmps129, List.size_toArray, List.length_cons, List.length_nil, Nat.reduceAdd, Nat.reduceSub, Array.replicate_succ, Array.replicate_zero, List.push_toArray, List.append_toArray, List.nil_append, List.cons_append]
  obtain ⟨M, hM⟩ : ∃ M, 4 * N = M := ⟨_, rfl⟩
  rw [hM] at hcs hreach hcap
  gi_wp2
  gi_loopw [4] (fun i wr => ∃ k q : Nat, k ≤ N ∧ 4 * k = q ∧ i = .int .i64 q ∧ J (come N k) wr ∧ KpC Bs Bn W wr)
    (fun i _ => M - (intOf i).toNat)
  case atStart => exact ⟨0, 0, Nat.zero_le _, rfl, rfl, h0, KpC.refl _ _ _⟩
  case round =>
    obtain ⟨k, q, hk, hq, rfl, hJs, hnx⟩ := hrel
    have c1 := hnx.1.trans hcs
    have c2 := hnx.2.trans hcn
    by_cases hlt : k < N
    · obtain ⟨fn, tmps, assign, body, hy, hR⟩ := hY _ ⟨k, hlt⟩ wr.drew (hdr _ _ _ _ hJs (grown_drew wr none) (by simp)) (by rw [come_length (by omega)]; exact hlt)
      dsimp only at hy
      rw [hq] at hy
      have hqM : q + 4 ≤ M := by omega
      have e3 : IntKind.i64.wrap ((q : Int) + 4) = ((q + 4 : Nat) : Int) := by rw [IntWalk.i64_in _ (by omega)]; simp
      obtain ⟨hi, hhi⟩ : ∃ hi, q + 4 = hi := ⟨_, rfl⟩
      have e4 : hi - q = 4 := by omega
      rw [hhi] at e3
      have hqc : q < cap := by omega
      have hmin : min (4 : Int) ((M - q : Nat) : Int) = 4 := by omega
      have hmin' : min (4 : Int) ((M : Int) - q) = 4 := by omega
      have hqle : (q : Int) ≤ M := by omega
      gi_wp2
      gi_region
      gi_wp2
      refine hR.mono ?_
      rintro e W3 (⟨rfl, hJ3, hk3⟩ | ⟨rfl, hJx3⟩)
      · have hn3 := hnx.trans (KpC.trans (B := wr.drew) ⟨rfl, rfl⟩ hk3)
        have c4 := hn3.2.trans hcn
        have e5 : IntKind.i64.wrap ((q : Int) + 4) = ((q + 4 : Nat) : Int) := by rw [IntWalk.i64_in _ (by omega)]; simp
        gi_wp2
        go_roundw
        case rel => exact ⟨k + 1, q + 4, by omega, by omega, by go_num, by rw [come_succ hlt]; exact hJ3, hn3⟩
        case measure => simp [intOf]; omega
      · gi_wp2
        refine bodyPost_ret (results_none rfl _ _ _) rfl ?_
        exact ⟨⟨_, rfl⟩, .inr ⟨_, ⟨k + 1, by omega, (come_succ hlt).symm⟩, hJx3⟩⟩
    · obtain rfl : k = N := by omega
      obtain rfl : q = M := by omega
      gi_wp2
      go_end0
      exact ⟨⟨_, rfl⟩, .inl ⟨_, rfl, hJs⟩⟩

theorem chunk_stops (n : Nat) (hn : 1 ≤ n) (Bs Bn b off N cap : Nat) (hreach : 4 * N ≤ cap) (hcap : 4 * N ≤ 140737488351232) (w : World) (hBs : Bs < w.heap.size) (hBn : Bn < w.heap.size)
    (hcs : w.cell? ⟨Bs, 0, none⟩ = some (.slice (some ⟨b, off, none⟩) (4 * N) cap)) (hcn : w.cell? ⟨Bn, 0, none⟩ = some (.int .i64 4)) :
    SeqStopsK Fence.wide n Try.prog 129 #[.pointer (some ⟨Bs, 0, none⟩), .pointer (some ⟨Bn, 0, none⟩)] (fun x : Fin N => #[.slice (some ⟨b, off + 4 * x.val, none⟩) 4 4]) (KpC Bs Bn) (fun ys => ys = List.finRange N) (fun pre => pre <+: List.finRange N) N w := fun l J Jx W hW hJ _ hY h0 => by
  refine (chunk1_in n hn l Bs Bn b off N cap hreach hcap J Jx hY (fun s A B row hs hg hr => hJ s A B row hs hg (fun r e => (hr r e).elim)) W ((hW.cell (p := ⟨Bs, 0, none⟩) hBs).trans hcs) ((hW.cell (p := ⟨Bn, 0, none⟩) hBn).trans hcn) h0).mono ?_
  rintro e W' ⟨he, ⟨ys, rfl, hj⟩ | ⟨pre, ⟨k, hk, rfl⟩, hj⟩⟩
  · exact ⟨he, .inl ⟨_, come_all N, hj⟩⟩
  · exact ⟨he, .inr ⟨_, List.take_prefix _ _, hj⟩⟩

end Go.Proofs.Ytfnnhjnhccbglaa
