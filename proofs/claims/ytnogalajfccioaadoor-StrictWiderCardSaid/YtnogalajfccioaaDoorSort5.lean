/- slices.Sort: a list that rises passes the partial insertion sort. -/
import Derived.Test.YtnogalajfccioaaDoorSort3
namespace Go.Proofs.YtnogalajfccioaaDoor
open Go.RowKit Go.Proofs.YtnogalajfccioaaDoorW.PrintWords
set_option maxRecDepth 100000 in
set_option maxHeartbeats 1000000 in
theorem partial_c (xs : List Nat) (hr : Rises xs) (v : Value) (w : World) (hv : In kU32 w v xs) (hn : 1 ≤ xs.length) (hm : xs.length ≤ 64) :
    Calls Tryd.prog 121 #[v, .int .i64 0, .int .i64 xs.length] w fun e w' => e = .returned (.bool true) ∧ Below w.heap.size w w' := by
  obtain ⟨A, c, rfl, hc, hC0⟩ := hv
  replace hr := Aside0.mk hr
  have hC := Aside0.mk hC0
  clear hC0
  go_enter Tryd.func121, Tryd.ntmps121
  go_wp2
  go_loopw [6, 7, 8, 9, 10] (fun b i n _ _ wr => b = .bool false ∧ i = .int .i64 1 ∧ n = .int .i64 0 ∧ Below w.heap.size w wr) (fun _ _ _ _ _ _ => 0)
  case atStart => exact ⟨rfl, rfl, rfl, Below.refl _ _⟩
  case round =>
    obtain ⟨rfl, rfl, rfl, hb⟩ := hrel
    obtain ⟨wo, rfl⟩ : ∃ wo : World, wo = wr := ⟨_, rfl⟩
    go_wp2
    go_loopw [7] (fun i wr => ∃ j : Nat, 1 ≤ j ∧ j ≤ xs.length ∧ i = .int .i64 j ∧ Below w.heap.size w wr) (fun i _ => xs.length - (intOf i).toNat)
    case atStart => exact ⟨1, Nat.le_refl _, hn, rfl, hb⟩
    case round =>
      obtain ⟨j, hj, hjl, rfl, hb⟩ := hrel
      by_cases hlt : j < xs.length
      · obtain ⟨a, ha⟩ : ∃ a, j = a + 1 := ⟨j - 1, by omega⟩
        have hj1 : (j : Int) - 1 = (a : Nat) := by omega
        have hal : a < xs.length := by omega
        obtain ⟨ad, x, rfl, hx, c0⟩ := get_u32 (Kd.C_below hC.out hb) a (by omega)
        obtain ⟨ad2, y, e, hy, c1⟩ := get_u32 (Kd.C_below hC.out hb) j hlt
        cases e
        have hxy : x < y := hr.out a x y hx.out (ha ▸ hy.out)
        have hless := Aside0.mk (fun W => less_c y x W)
        rw [decide_eq_false (show ¬ ((y : Int) < x) by omega)] at hless
        have hd := Aside0.mk (show decide (j < xs.length) = true from decide_eq_true hlt)
        replace hxy := Aside0.mk hxy
        replace ha := Aside0.mk ha
        go_wp2
        go_quiet ((go_at_call 122; exact Calls.quiet_of_same (hless.out _)))
        go_wp2
        go_roundw
        case rel => exact ⟨j + 1, by omega, by omega, by go_num, pw_below_drewN hb _⟩
        case measure => simp [intOf]; omega
      · obtain rfl : j = xs.length := by omega
        go_wp2
        go_quiet ((go_at_call 122; exact Calls.quiet_of_same (less_c _ _ _)))
        go_wp2
        go_ret
        exact ⟨rfl, pw_below_drewN hb _⟩
end Go.Proofs.YtnogalajfccioaaDoor
