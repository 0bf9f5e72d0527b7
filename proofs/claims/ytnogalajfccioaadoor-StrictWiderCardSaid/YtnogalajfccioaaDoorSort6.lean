/- slices.Sort of what rises already: nothing turns. -/
import Derived.Test.YtnogalajfccioaaDoorSort4
import Derived.Test.YtnogalajfccioaaDoorSort5
namespace Go.Proofs.YtnogalajfccioaaDoor
open Go.RowKit Go.Proofs.YtnogalajfccioaaDoorW.PrintWords
set_option maxRecDepth 100000 in
set_option maxHeartbeats 4000000 in
theorem pdq_c (xs : List Nat) (hr : Rises xs) (v : Value) (lim : Nat) (w : World) (hv : In kU32 w v xs) (hm : xs.length ≤ 64) (hl : 1 ≤ xs.length → 1 ≤ lim) :
    Calls Tryd.prog 98 #[v, .int .i64 0, .int .i64 xs.length, .int .i64 lim] w fun e w' => (∃ u, e = .returned u) ∧ Below w.heap.size w w' := by
  have hi := Aside0.mk (insertion_c xs hr v w hv hm)
  by_cases h12 : xs.length ≤ 12
  · clear hr hv
    go_enter Tryd.func98, Tryd.ntmps98
    go_wp2
    go_loopw [1, 2, 3, 8, 9, 10, 11, 12] (fun a b _ _ _ _ _ _ wr => a = .int .i64 0 ∧ b = .int .i64 xs.length ∧ wr = w) (fun _ _ _ _ _ _ _ _ _ => 0)
    case atStart => exact ⟨rfl, rfl, rfl⟩
    case round =>
      obtain ⟨rfl, rfl, rfl⟩ := hrel
      go_wp2_with (go_at_call 116; refine hi.out.mono ?_; clear hi; rintro e w1 ⟨⟨u, rfl⟩, hb⟩)
      first | go_end0 | refine bodyPost_ret (results_none rfl _ _ _) rfl ?_
      exact ⟨⟨_, rfl⟩, hb⟩
  · have hp := Aside0.mk (pivot_c xs hr v w hv (by omega) hm)
    have hq := Aside0.mk (fun W hb => partial_c xs hr v W (hv.below (w1 := W) hb) (by omega) hm)
    have hl1 := hl (by omega)
    clear hr hv hi hl
    go_enter Tryd.func98, Tryd.ntmps98
    go_wp2
    go_loopw [1, 2, 3, 8, 9, 10, 11, 12] (fun a b l x y _ _ _ wr => a = .int .i64 0 ∧ b = .int .i64 xs.length ∧ l = .int .i64 lim ∧ x = .bool true ∧ y = .bool true ∧ wr = w) (fun _ _ _ _ _ _ _ _ _ => 0)
    case atStart => exact ⟨rfl, rfl, rfl, rfl, rfl, rfl⟩
    case round =>
      obtain ⟨rfl, rfl, rfl, rfl, rfl, rfl⟩ := hrel
      go_wp2_with first
        | (go_at_call 119; refine hp.out.mono ?_; clear hp; rintro e w1 ⟨⟨b, hbl, rfl⟩, hb1⟩; replace hb1 := Aside0.mk hb1)
        | (go_at_call 121; refine (hq.out _ hb1.out).mono ?_; clear hq; rintro e w2 ⟨rfl, hb2⟩; replace hb2 := Aside0.mk hb2)
      first | go_end0 | refine bodyPost_ret (results_none rfl _ _ _) rfl ?_
      exact ⟨⟨_, rfl⟩, below_step hb1.out hb2.out⟩
set_option maxRecDepth 100000 in
set_option maxHeartbeats 1000000 in
theorem sort_c (xs : List Nat) (hr : Rises xs) (v : Value) (w : World) (hv : In kU32 w v xs) (hm : xs.length ≤ 64) :
    Calls Tryd.prog 77 #[v] w fun e w' => (∃ u, e = .returned u) ∧ Below w.heap.size w w' := by
  have hp := Aside0.mk (pdq_c xs hr v (Lib.bitLen xs.length) w hv hm (fun h => bitLen_pos h))
  have hl := Aside0.mk (fun W => len_c xs.length W (by omega) (by omega))
  rw [Int.toNat_natCast] at hl
  obtain ⟨A, c, rfl, hc, hC0⟩ := hv
  have hmax : xs.length ≤ 9223372036854775807 := hC0.2.1
  clear hr hC0
  go_enter Tryd.func77, Tryd.ntmps77
  go_wp2_with first
    | (go_at_call 99; refine (hl.out _).mono ?_; clear hl; rintro e w1 ⟨rfl, rfl⟩)
    | (go_at_call 98; refine hp.out.mono ?_; clear hp; rintro e w2 ⟨⟨u, rfl⟩, hb⟩)
  first | go_end0 | refine bodyPost_ret (results_none rfl _ _ _) rfl ?_
  exact ⟨⟨_, rfl⟩, hb⟩
end Go.Proofs.YtnogalajfccioaaDoor
