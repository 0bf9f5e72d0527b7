/- slices.Sort, the pivot. -/
import Derived.Test.YtnogalajfccioaaDoorSort
namespace Go.Proofs.YtnogalajfccioaaDoor
open Go.RowKit Go.Proofs.YtnogalajfccioaaDoorW.PrintWords
set_option maxRecDepth 100000 in
set_option maxHeartbeats 1000000 in
theorem pivot_c (xs : List Nat) (hr : Rises xs) (v : Value) (w : World) (hv : In kU32 w v xs) (hn : 8 ≤ xs.length) (hm : xs.length ≤ 64) :
    Calls Tryd.prog 119 #[v, .int .i64 0, .int .i64 xs.length] w fun e w' => (∃ b : Nat, b < xs.length ∧ e = .returned (.tuple #[.int .i64 b, .int .i64 1])) ∧ Below w.heap.size w w' := by
  obtain ⟨q, hq⟩ : ∃ q : Nat, xs.length / 4 = q := ⟨_, rfl⟩
  have e1 : ((xs.length : Int)) / 4 = (q : Nat) := by omega
  have hI := Aside0.mk (hv.below (below_alloc (Below.refl _ _) (.cells #[.int .i64 0] 3)))
  have e2 : ((q * 2 : Nat) : Int) = (q : Int) * 2 := by omega
  have e3 : ((q * 3 : Nat) : Int) = (q : Int) * 3 := by omega
  have kq := fun W p hW => medianAdj_c xs hr v p q W hW (by omega) (by omega) (by omega)
  have kq2 := fun W p hW => medianAdj_c xs hr v p (q * 2) W hW (by omega) (by omega) (by omega)
  have kq3 := fun W p hW => medianAdj_c xs hr v p (q * 3) W hW (by omega) (by omega) (by omega)
  have km := fun W p hW => median_c xs hr v p q (q * 2) (q * 3) W hW (by omega) (by omega) (by omega)
  rw [e2] at kq2
  rw [e3] at kq3
  rw [e2, e3] at km
  have hres := Aside0.mk (show ∃ b : Nat, b < xs.length ∧ Ending.returned (.tuple #[.int .i64 ((q : Int) * 2), .int .i64 1]) = .returned (.tuple #[.int .i64 b, .int .i64 1]) from ⟨q * 2, by omega, by rw [e2]⟩)
  replace kq := Aside0.mk kq
  replace kq2 := Aside0.mk kq2
  replace kq3 := Aside0.mk kq3
  replace km := Aside0.mk km
  clear hr hv e2 e3
  by_cases h50 : 50 ≤ xs.length
  · go_enter Tryd.func119, Tryd.ntmps119
    go_wp2_with first
      | (go_at_call 140; (first | with_reducible refine (kq.out _ _ hI.out).mono ?_ | with_reducible refine (kq2.out _ _ hI.out).mono ?_ | with_reducible refine (kq3.out _ _ hI.out).mono ?_); rintro e w1 ⟨rfl, mm, rfl⟩; replace hI := Aside0.mk (hI.out.below (pw_below_drewN (Below.refl _ _) mm)); (try rw [World.drewN_drewN] at hI))
      | (go_at_call 141; refine (km.out _ _ hI.out).mono ?_; rintro e w1 ⟨rfl, m4, rfl⟩)
    go_ret2
    refine ⟨hres.out, ?_⟩
    repeat (with_reducible refine pw_below_drewN ?_ _)
    exact below_alloc (Below.refl _ _) _
  · go_enter Tryd.func119, Tryd.ntmps119
    go_wp2_with (go_at_call 141; refine (km.out _ _ hI.out).mono ?_; clear km; rintro e w1 ⟨rfl, m4, rfl⟩; replace hI := Aside0.mk (hI.out.below (pw_below_drewN (Below.refl _ _) m4)))
    go_ret2
    refine ⟨hres.out, ?_⟩
    repeat (with_reducible refine pw_below_drewN ?_ _)
    exact below_alloc (Below.refl _ _) _
end Go.Proofs.YtnogalajfccioaaDoor
