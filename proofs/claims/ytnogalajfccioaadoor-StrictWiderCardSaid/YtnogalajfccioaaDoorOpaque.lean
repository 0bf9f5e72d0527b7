/- Layer 13 (opaque): prefixes. -/
import Derived.Test.YtnogalajfccioaaDoorSerial5
import Derived.Test.YtnogalajfccioaaDoorOrder
namespace Go.Proofs.YtnogalajfccioaaDoor
open Go.RowKit Go.Shelf Go.Proofs.YtnogalajfccioaaDoorW.PrintWords
attribute [local go_sem] Oper.semAt_some
/-- A prefix, as it comes: its length, and itself. -/
def encPre (A : Option Addr) (c M : Nat) (x : Fin M) : Array Value := #[.int .i64 ((x.1 : Nat) : Int), .slice A x.1 c]
set_option maxRecDepth 100000 in
set_option maxHeartbeats 1000000 in
theorem prefixes1_c (m : Nat) (hm : 1 ≤ m) (l Bn n c : Nat) (A : Option Addr) (hn : n ≤ 1000) (hnc : n ≤ c) (J Jx : List (Fin (n + 1)) → World → Prop)
    (hY : ∀ pre x W, J pre W → pre.length < n + 1 → YieldAt Fence.wide (m - 1) Tryd.prog l (encPre A c (n + 1) x) W fun e W' =>
      (e = .returned (.bool true) ∧ J (pre ++ [x]) W' ∧ SameAt Bn W W') ∨ (e = .returned (.bool false) ∧ Jx (pre ++ [x]) W'))
    (W : World) (hBn : W.cell? ⟨Bn, 0, none⟩ = some (.slice A n c)) (h0 : J [] W) :
    CallsIn Fence.wide m Tryd.prog 71 #[.func (.yield l) #[] #[], .pointer (some ⟨Bn, 0, none⟩)] W fun e W' => (∃ v, e = .returned v) ∧
      ((∃ xs, xs = List.finRange (n + 1) ∧ J xs W') ∨ (∃ pre, (∃ t, t < n + 1 ∧ pre = up (n + 1) (t + 1)) ∧ Jx pre W')) := by
  refine callsIn_of_wp Tryd.func71 rfl trivial ?_ rfl
  simp only [Tryd.ntmps71, List.size_toArray, List.length_cons, List.length_nil, Nat.reduceAdd, Nat.reduceSub, Array.replicate_succ, Array.replicate_zero, List.push_toArray, List.append_toArray, List.nil_append, List.cons_append]
  gi_wp2
  gi_loopw [3, 7] (fun _ i wr => ∃ a : Nat, a ≤ n + 1 ∧ i = .int .i64 a ∧ Aside0 (J (up (n + 1) a) wr) ∧ wr.cell? ⟨Bn, 0, none⟩ = some (.slice A n c)) (fun _ i _ => n + 1 - (intOf i).toNat)
  case atStart => exact ⟨0, Nat.zero_le _, rfl, ⟨by simpa [up] using h0⟩, hBn⟩
  case round =>
    obtain ⟨a, ha, rfl, hJ, hc⟩ := hrel
    by_cases hl : a < n + 1
    · obtain ⟨fn, tmps, assign, body, hy, hR⟩ := hY _ ⟨a, hl⟩ wr hJ.out (by rw [up_len (Nat.le_of_lt hl)]; exact hl)
      simp only [encPre] at hy
      rw [← up_succ hl] at hR
      clear hJ
      have hac : a ≤ c := by omega
      gi_wp2
      refine hR.mono ?_
      rintro e W3 (⟨rfl, hJ3, hk3⟩ | ⟨rfl, hJx3⟩)
      · have hc3 : W3.cell? ⟨Bn, 0, none⟩ = some (.slice A n c) := Eq.trans hk3 hc
        gi_wp2
        go_roundw
        case rel => exact ⟨a + 1, by omega, by go_num, ⟨hJ3⟩, hc3⟩
        case measure => simp [intOf]; omega
      · gi_wp2
        refine bodyPost_ret (results_none rfl _ _ _) rfl ?_
        exact ⟨⟨_, rfl⟩, .inr ⟨_, ⟨a, hl, rfl⟩, hJx3⟩⟩
    · obtain rfl : a = n + 1 := by omega
      gi_wp2
      go_end0
      exact ⟨⟨_, rfl⟩, .inl ⟨_, up_all _, hJ.out⟩⟩
theorem prefixes_c (A : Option Addr) (n c : Nat) (w : World) : Calls Tryd.prog 44 #[.slice A n c] w fun e w' => e = .returned (.func (.func 71) #[] #[.pointer (some ⟨w.heap.size, 0, none⟩)]) ∧ w' = w.alloc (.cells #[.slice A n c] 22) := by
  go_enter Tryd.func44, Tryd.ntmps44
  go_wp2
  go_ret
  exact ⟨rfl, rfl⟩
theorem prefixes_stops (m Bn n c : Nat) (A : Option Addr) (hm : 1 ≤ m) (hn : n ≤ 1000) (hnc : n ≤ c) (w : World) (hlt : Bn < w.heap.size) (hBn : w.cell? ⟨Bn, 0, none⟩ = some (.slice A n c)) :
    SeqStopsK Fence.wide m Tryd.prog 71 #[.pointer (some ⟨Bn, 0, none⟩)] (encPre A c (n + 1)) (SameAt Bn) (fun xs => xs = List.finRange (n + 1)) (fun pre => ∃ t, t < n + 1 ∧ pre = up (n + 1) (t + 1)) (n + 1) w :=
  fun l J Jx W hW _ _ hY h0 => prefixes1_c m hm l Bn n c A hn hnc J Jx hY W ((hW.cell (p := ⟨Bn, 0, none⟩) hlt).trans hBn) h0
end Go.Proofs.YtnogalajfccioaaDoor
