/- Layer 9 (completions): bits. -/
import Derived.Test.YtnogalajfccioaaDoorAfter3
namespace Go.Proofs.YtnogalajfccioaaDoor
open Go.RowKit Go.Proofs.YtnogalajfccioaaDoorW.PrintWords
theorem mask_lt32 {n : Nat} (p : Nat → Bool) (h : n ≤ 32) : mask n p < 2 ^ 32 := Nat.lt_of_lt_of_le (mask_lt _ _) (Nat.pow_le_pow_right (by decide) h)
theorem u32_shl1m {k : Nat} (h : k < 32) : (2 : Int) ^ k % 4294967296 = ((2 ^ k : Nat) : Int) := by
  have := u32_shl1 h
  rwa [IntKind.wrap_u32] at this
set_option maxRecDepth 100000 in
set_option maxHeartbeats 1000000 in
theorem bits_c (l : List Txn) (s : Int) (v : Value) (w : World) (hv : In kTxn w v l) (hl : l.length ≤ 32) :
    Calls Tryd.prog 75 #[v, .int .i64 s] w fun e w' => e = .returned (.int .u32 (bits l s : Nat)) ∧ Below w.heap.size w w' := by
  obtain ⟨A, c, rfl, hc, hC⟩ := hv
  replace hC := Aside0.mk hC
  go_enter Tryd.func75, Tryd.ntmps75
  go_wp2
  go_loopw [5, 6, 7, 10] (fun o _ _ i wr => ∃ j m : Nat, j ≤ l.length ∧ i = .int .i64 j ∧ o = .int .u32 m ∧ Aside0 (m = mask j (fun i => (at_ l i).state == s)) ∧ Below w.heap.size w wr) (fun _ _ _ i _ => l.length - (intOf i).toNat)
  case atStart => exact ⟨0, 0, Nat.zero_le _, rfl, rfl, ⟨rfl⟩, Below.refl _ _⟩
  case round =>
    obtain ⟨j, m, hj, rfl, rfl, hm, hb⟩ := hrel
    by_cases hlt : j < l.length
    · obtain ⟨ad, x, Ai, ci, rfl, hx, a0, a1, a2, a3, a4, a5⟩ := get_Txn (Kd.C_below hC.out hb) j hlt
      have hs := Aside0.mk (show mask (j + 1) (fun i => (at_ l i).state == s) = m ||| (if x.state == s then 2 ^ j else 0) by
        have h1 := hx.out
        have h2 := hm.out
        rw [h2, mask, at_, List.getD_eq_getElem?_getD, h1]
        rfl)
      have hml := Aside0.mk (show m < 2 ^ 32 by have := hm.out; rw [this]; exact mask_lt32 _ (by omega))
      replace a5 := Aside0.mk a5
      cases hst : (x.state == s) with
      | true =>
        have hst2 : x.state = s := by simpa using hst
        rw [hst] at hs
        go_wp2
        rw [u32_shl1m (show j < 32 by omega), u32_or hml.out (u32_pow (show j < 32 by omega))]
        go_roundw
        case rel => exact ⟨j + 1, _, by omega, by go_num, rfl, ⟨hs.out.symm⟩, below_alloc hb _⟩
        case measure => simp [intOf]; omega
      | false =>
        have hst2 : ¬ x.state = s := by simpa using hst
        rw [hst] at hs
        go_wp2
        go_roundw
        case rel => exact ⟨j + 1, m, by omega, by go_num, rfl, ⟨by rw [hs.out]; simp⟩, below_alloc hb _⟩
        case measure => simp [intOf]; omega
    · obtain rfl : j = l.length := by omega
      go_wp2
      go_ret
      exact ⟨by rw [hm.out]; rfl, hb⟩
end Go.Proofs.YtnogalajfccioaaDoor
