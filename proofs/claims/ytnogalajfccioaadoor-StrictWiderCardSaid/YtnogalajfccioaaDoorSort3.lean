/- slices.Sort: insertion sort of what rises. -/
import Derived.Test.YtnogalajfccioaaDoorSort2
namespace Go.Proofs.YtnogalajfccioaaDoor
open Go.RowKit Go.Proofs.YtnogalajfccioaaDoorW.PrintWords
set_option maxRecDepth 100000 in
set_option maxHeartbeats 1000000 in
theorem insertion_c (xs : List Nat) (hr : Rises xs) (v : Value) (w : World) (hv : In kU32 w v xs) (hm : xs.length ≤ 64) :
    Calls Tryd.prog 116 #[v, .int .i64 0, .int .i64 xs.length] w fun e w' => (∃ u, e = .returned u) ∧ Below w.heap.size w w' := by
  obtain ⟨A, c, rfl, hc, hC0⟩ := hv
  replace hr := Aside0.mk hr
  have hC := Aside0.mk hC0
  clear hC0
  go_enter Tryd.func116, Tryd.ntmps116
  go_wp2
  go_loopw [6, 7] (fun i _ wr => ∃ j : Nat, 1 ≤ j ∧ i = .int .i64 j ∧ Below w.heap.size w wr) (fun i _ _ => xs.length - (intOf i).toNat)
  case atStart => exact ⟨1, Nat.le_refl _, rfl, Below.refl _ _⟩
  case round =>
    obtain ⟨j, hj, rfl, hb⟩ := hrel
    by_cases hlt : j < xs.length
    · obtain ⟨a, ha⟩ : ∃ a, j = a + 1 := ⟨j - 1, by omega⟩
      have hj1 : (j : Int) - 1 = (a : Nat) := by omega
      have hal : a < xs.length := by omega
      obtain ⟨ad, x, rfl, hx, c0⟩ := get_u32 (Kd.C_below hC.out hb) a (by omega)
      obtain ⟨ad2, y, e, hy, c1⟩ := get_u32 (Kd.C_below hC.out hb) j hlt
      cases e
      have hxy : x < y := hr.out a x y hx.out (ha ▸ hy.out)
      have hless := Aside0.mk (fun W => less_c y x W)
      rw [decide_eq_false (show ¬ ((y : Int) < x) by omega)] at hless
      replace hxy := Aside0.mk hxy
      replace ha := Aside0.mk ha
      go_wp2
      go_loopw [7] (fun k w2 => k = .int .i64 j ∧ w2 = wr) (fun _ _ => 0)
      case atStart => exact ⟨rfl, rfl⟩
      case round =>
        obtain ⟨rfl, rfl⟩ := hrel
        have hpos : 0 < j := by omega
        have hd := Aside0.mk (decide_eq_true hpos)
        go_wp2
        go_quiet ((go_at_call 122; exact Calls.quiet_of_same (hless.out _)))
        go_wp2
        go_roundw
        case rel => exact ⟨j + 1, by omega, by go_num, pw_below_drewN hb _⟩
        case measure => simp [intOf]; omega
    · go_wp2
      go_end0
      exact ⟨⟨_, rfl⟩, hb⟩
end Go.Proofs.YtnogalajfccioaaDoor
