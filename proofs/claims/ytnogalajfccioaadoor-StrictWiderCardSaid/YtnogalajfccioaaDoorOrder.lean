/- Layer 7 (order): all of two places; what is behind what. -/
import Derived.Test.YtnogalajfccioaaDoorTable3
import Derived.RangeFuncNested
import Derived.RangeFuncBound
import Derived.RangeFuncCalls
import Derived.RangeFuncLeaves
import Derived.Shelf.Abstract
import Derived.OwnWalkIn
import Derived.TacticsInMore
import Derived.LoopNIn
import Derived.LoopIn
namespace Go.Proofs.YtnogalajfccioaaDoor
open Go.RowKit Go.Shelf Go.Proofs.YtnogalajfccioaaDoorW.PrintWords
attribute [local go_sem] Oper.semAt_some
/-- The first t of M places. -/
def up (M t : Nat) : List (Fin M) := (List.finRange M).take t
theorem up_succ {M t : Nat} (h : t < M) : up M (t + 1) = up M t ++ [⟨t, h⟩] := by
  unfold up
  rw [List.take_succ_eq_append_getElem (by simpa using h)]
  simp
theorem up_len {M t : Nat} (h : t ≤ M) : (up M t).length = t := by simp [up]; omega
theorem up_all (M : Nat) : up M M = List.finRange M := by unfold up; rw [List.take_of_length_le (by simp)]
/-- A cell that lies as it lay. -/
def SameAt (b : Nat) (W W' : World) : Prop := W'.cell? ⟨b, 0, none⟩ = W.cell? ⟨b, 0, none⟩
theorem SameAt.tr {b : Nat} {A B C : World} (h : SameAt b A B) (k : SameAt b B C) : SameAt b A C := Eq.trans k h
theorem SameAt.put {b : Nat} {w : World} (hb : b < w.heap.size) (W : World) (l : Nat) (o o' : Obj) (hl : w.heap.size ≤ l) (_ : W.heap[l]? = some o) (_ : o.isCells = false) (_ : o.isWalk = false) : SameAt b W (W.putObj l o') := by
  unfold SameAt World.cell?
  rw [World.putObj_heap_other (show b ≠ l by omega)]
def encPair (N : Nat) (x : Fin (N * N)) : Array Value := #[.int .i64 ((x.1 / N : Nat) : Int), .int .i64 ((x.1 % N : Nat) : Int)]
set_option maxRecDepth 100000 in
set_option maxHeartbeats 1000000 in
theorem pairs1_c (m : Nat) (hm : 1 ≤ m) (l Bn N : Nat) (hN : N ≤ 1000) (J Jx : List (Fin (N * N)) → World → Prop)
    (hY : ∀ pre x W, J pre W → pre.length < N * N → YieldAt Fence.wide (m - 1) Tryd.prog l (encPair N x) W fun e W' =>
      (e = .returned (.bool true) ∧ J (pre ++ [x]) W' ∧ SameAt Bn W W') ∨ (e = .returned (.bool false) ∧ Jx (pre ++ [x]) W'))
    (W : World) (hBn : W.cell? ⟨Bn, 0, none⟩ = some (.int .i64 N)) (h0 : J [] W) :
    CallsIn Fence.wide m Tryd.prog 100 #[.func (.yield l) #[] #[], .pointer (some ⟨Bn, 0, none⟩)] W fun e W' => (∃ v, e = .returned v) ∧
      ((∃ xs, xs = List.finRange (N * N) ∧ J xs W') ∨ (∃ pre, True ∧ Jx pre W')) := by
  refine callsIn_of_wp Tryd.func100 rfl trivial ?_ rfl
  simp only [Tryd.ntmps100, List.size_toArray, List.length_cons, List.length_nil, Nat.reduceAdd, Nat.reduceSub, Array.replicate_succ, Array.replicate_zero, List.push_toArray, List.append_toArray, List.nil_append, List.cons_append]
  gi_wp2
  gi_loopw [3, 4, 6, 10] (fun _ _ i _ wr => ∃ a : Nat, a ≤ N ∧ i = .int .i64 a ∧ J (up (N * N) (a * N)) wr ∧ wr.cell? ⟨Bn, 0, none⟩ = some (.int .i64 N))
    (fun _ _ i _ _ => N - (intOf i).toNat)
  case atStart => exact ⟨0, Nat.zero_le _, rfl, by simpa [up] using h0, hBn⟩
  case round =>
    obtain ⟨a, ha, rfl, hJ, hc⟩ := hrel
    by_cases hl : a < N
    · gi_wp2
      gi_loopw [4, 10] (fun _ i wr => ∃ b : Nat, b ≤ N ∧ i = .int .i64 b ∧ Aside0 (J (up (N * N) (a * N + b)) wr) ∧ wr.cell? ⟨Bn, 0, none⟩ = some (.int .i64 N)) (fun _ i _ => N - (intOf i).toNat)
      case atStart => exact ⟨0, Nat.zero_le _, rfl, ⟨hJ⟩, hc⟩
      case round =>
        obtain ⟨b, hb, rfl, hJ, hc⟩ := hrel
        by_cases hlb : b < N
        · have hlt2 : a * N + b < N * N := by have := Nat.mul_le_mul_right N (Nat.succ_le_of_lt hl); rw [Nat.succ_mul] at this; omega
          obtain ⟨fn, tmps, assign, body, hy, hR⟩ := hY _ ⟨a * N + b, hlt2⟩ wr hJ.out (by rw [up_len (Nat.le_of_lt hlt2)]; exact hlt2)
          have e1 : (a * N + b) / N = a := by rw [Nat.mul_comm, Nat.mul_add_div (by omega), Nat.div_eq_of_lt hlb]; rfl
          have e2 : (a * N + b) % N = b := by rw [Nat.mul_comm, Nat.mul_add_mod]; exact Nat.mod_eq_of_lt hlb
          simp only [encPair, e1, e2] at hy
          rw [← up_succ hlt2] at hR
          clear e1 e2 hJ
          gi_wp2
          refine hR.mono ?_
          rintro e W3 (⟨rfl, hJ3, hk3⟩ | ⟨rfl, hJx3⟩)
          · have hc3 : W3.cell? ⟨Bn, 0, none⟩ = some (.int .i64 N) := Eq.trans hk3 hc
            gi_wp2
            go_roundw
            case rel => exact ⟨b + 1, by omega, by go_num, ⟨hJ3⟩, hc3⟩
            case measure => simp [intOf]; omega
          · gi_wp2
            refine bodyPost_ret (results_none rfl _ _ _) rfl ?_
            exact ⟨⟨_, rfl⟩, .inr ⟨_, trivial, hJx3⟩⟩
        · obtain rfl : b = N := by omega
          gi_wp2
          go_roundw
          case rel => exact ⟨a + 1, by omega, by go_num, by rw [Nat.succ_mul]; exact hJ.out, hc⟩
          case measure => simp [intOf]; omega
    · obtain rfl : a = N := by omega
      gi_wp2
      go_end0
      exact ⟨⟨_, rfl⟩, .inl ⟨_, up_all _, hJ⟩⟩
/-- 'return order.pairs(n)': a closure over n. -/
theorem pairs_c (n : Int) (w : World) : Calls Tryd.prog 78 #[.int .i64 n] w fun e w' => e = .returned (.func (.func 100) #[] #[.pointer (some ⟨w.heap.size, 0, none⟩)]) ∧ w' = w.alloc (.cells #[.int .i64 n] 3) := by
  go_enter Tryd.func78, Tryd.ntmps78
  go_wp2
  go_ret
  exact ⟨rfl, rfl⟩
theorem pairs_stops (m Bn N : Nat) (hm : 1 ≤ m) (hN : N ≤ 1000) (w : World) (hlt : Bn < w.heap.size) (hBn : w.cell? ⟨Bn, 0, none⟩ = some (.int .i64 N)) :
    SeqStopsK Fence.wide m Tryd.prog 100 #[.pointer (some ⟨Bn, 0, none⟩)] (encPair N) (SameAt Bn) (fun xs => xs = List.finRange (N * N)) (fun _ => True) (N * N) w :=
  fun l J Jx W hW _ _ hY h0 => pairs1_c m hm l Bn N hN J Jx hY W ((hW.cell (p := ⟨Bn, 0, none⟩) hlt).trans hBn) h0
end Go.Proofs.YtnogalajfccioaaDoor
