/- slices.Sort of uint32s that rise already: nothing turns. -/
import Derived.Test.YtnogalajfccioaaDoorComplete2
import Derived.Deep.QuietTactic
namespace Go.Proofs.YtnogalajfccioaaDoor
open Go.RowKit Go.Proofs.YtnogalajfccioaaDoorW.PrintWords
theorem isNaN_c (a : Int) (w : World) : Calls Tryd.prog 142 #[.int .u32 a] w fun e w' => e = .returned (.bool false) ∧ w' = w := by
  go_enter Tryd.func142, Tryd.ntmps142
  go_wp2
  go_ret
  exact ⟨by simp, rfl⟩
theorem less_c (a b : Int) (w : World) : Calls Tryd.prog 122 #[.int .u32 a, .int .u32 b] w fun e w' => e = .returned (.bool (decide (a < b))) ∧ w' = w := by
  go_enter Tryd.func122, Tryd.ntmps122
  go_wp2_with (go_at_call 142; refine (isNaN_c _ _).mono ?_; rintro e w' ⟨rfl, rfl⟩)
  go_ret
  exact ⟨by simp, rfl⟩
/-- A list that rises. -/
def Rises (xs : List Nat) : Prop := ∀ i x y, xs[i]? = some x → xs[i + 1]? = some y → x < y
theorem Rises.get {xs : List Nat} (h : Rises xs) : ∀ {i j : Nat} {x y : Nat}, i < j → xs[i]? = some x → xs[j]? = some y → x < y := by
  intro i j x y hij hx hy
  induction j generalizing y with
  | zero => omega
  | succ j ih =>
    have hj : j < xs.length := by have := (List.getElem?_eq_some_iff.1 hy).1; omega
    have h1 := h j xs[j] y (List.getElem?_eq_getElem hj) hy
    rcases Nat.lt_succ_iff_lt_or_eq.1 hij with h2 | rfl
    · exact Nat.lt_trans (ih h2 (List.getElem?_eq_getElem hj)) h1
    · rw [List.getElem?_eq_getElem hj] at hx
      cases hx
      exact h1
set_option maxRecDepth 100000 in
set_option maxHeartbeats 1000000 in
theorem order2_c (xs : List Nat) (hr : Rises xs) (v p : Value) (a b : Nat) (w : World) (hv : In kU32 w v xs) (hab : a < b) (hb : b < xs.length) :
    Calls Tryd.prog 144 #[v, .int .i64 a, .int .i64 b, p] w fun e w' => e = .returned (.tuple #[.int .i64 a, .int .i64 b]) ∧ ∃ m, w' = w.drewN m := by
  obtain ⟨A, c, rfl, hc, hC0⟩ := hv
  have hmax : xs.length ≤ 9223372036854775807 := hC0.2.1
  obtain ⟨ad, x, rfl, hx, c0⟩ := get_u32 hC0 a (by omega)
  obtain ⟨ad2, y, e, hy, c1⟩ := get_u32 hC0 b hb
  cases e
  have hlt : x < y := hr.get hab hx.out hy.out
  have hno : ¬ ((y : Int) < x) := by omega
  have hless := Aside0.mk (fun W => less_c y x W)
  rw [decide_eq_false hno] at hless
  replace hlt := Aside0.mk hlt
  clear hC0 hr hno
  go_enter Tryd.func144, Tryd.ntmps144
  go_wp2
  go_quiet ((go_at_call 122; exact Calls.quiet_of_same (hless.out _)))
  go_wp2
  go_ret2
  exact ⟨rfl, _, rfl⟩
set_option maxRecDepth 100000 in
set_option maxHeartbeats 1000000 in
theorem median_c (xs : List Nat) (hr : Rises xs) (v p : Value) (a b c : Nat) (w : World) (hv : In kU32 w v xs) (hab : a < b) (hbc : b < c) (hc : c < xs.length) :
    Calls Tryd.prog 141 #[v, .int .i64 a, .int .i64 b, .int .i64 c, p] w fun e w' => e = .returned (.int .i64 b) ∧ ∃ m, w' = w.drewN m := by
  have hv2 := Aside0.mk (fun m => hv.below (pw_below_drewN (Below.refl _ _) m) : ∀ m, In kU32 (w.drewN m) v xs)
  have k1 := Aside0.mk (order2_c xs hr v p a b w hv hab (by omega))
  have k2 := Aside0.mk (fun m => order2_c xs hr v p b c (w.drewN m) (hv2.out m) hbc hc)
  have k3 := Aside0.mk (fun m => order2_c xs hr v p a b (w.drewN m) (hv2.out m) hab (by omega))
  clear hr hv
  go_enter Tryd.func141, Tryd.ntmps141
  go_wp2_with first
    | (go_at_call 144; refine k1.out.mono ?_; clear k1; rintro e w1 ⟨rfl, m1, rfl⟩)
    | (go_at_call 144; refine (k2.out m1).mono ?_; clear k2; rintro e w1 ⟨rfl, m2, rfl⟩; rw [World.drewN_drewN])
    | (go_at_call 144; refine (k3.out (m1 + m2)).mono ?_; clear k3; rintro e w1 ⟨rfl, m3, rfl⟩; rw [World.drewN_drewN])
  go_ret
  exact ⟨rfl, _, rfl⟩
set_option maxRecDepth 100000 in
set_option maxHeartbeats 1000000 in
theorem medianAdj_c (xs : List Nat) (hr : Rises xs) (v p : Value) (b : Nat) (w : World) (hv : In kU32 w v xs) (hb : 1 ≤ b) (hc : b + 1 < xs.length) (hm : xs.length ≤ 1000) :
    Calls Tryd.prog 140 #[v, .int .i64 b, p] w fun e w' => e = .returned (.int .i64 b) ∧ ∃ m, w' = w.drewN m := by
  obtain ⟨a, rfl⟩ : ∃ a, b = a + 1 := ⟨b - 1, by omega⟩
  have k := Aside0.mk (median_c xs hr v p a (a + 1) (a + 2) w hv (by omega) (by omega) (by omega))
  clear hr hv
  go_enter Tryd.func140, Tryd.ntmps140
  go_wp2_with (go_at_call 141; have e1 : ((a + 1 : Nat) : Int) - 1 = (a : Nat) := (by omega); have e2 : ((a + 1 : Nat) : Int) + 1 = (a + 2 : Nat) := (by omega); first | (refine k.out.mono ?_; rintro e w1 ⟨rfl, m1, rfl⟩) | exact ())
  go_ret
  exact ⟨rfl, _, rfl⟩
end Go.Proofs.YtnogalajfccioaaDoor
