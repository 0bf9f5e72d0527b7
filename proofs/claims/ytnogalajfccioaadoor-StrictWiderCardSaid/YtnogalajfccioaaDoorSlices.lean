/- Contracts of the library's slices.IndexFunc, ContainsFunc, Index and Contains, at the element types that the program uses. Written by genslices.py. -/
import Derived.Test.YtnogalajfccioaaDoorKinds
namespace Go.Proofs.YtnogalajfccioaaDoor
open Go.RowKit Go.Proofs.YtnogalajfccioaaDoorW.PrintWords
/-- The place of the first that is so, or -1. -/
def idx {α : Type} (p : α → Bool) (xs : List α) : Int := match xs.findIdx? p with | some i => (i : Int) | none => -1
theorem idx_none {α : Type} {p : α → Bool} {xs : List α} (h : ∀ i x, i < xs.length → xs[i]? = some x → p x = false) : idx p xs = -1 := by
  unfold idx
  have : xs.findIdx? p = none := by
    rw [List.findIdx?_eq_none_iff]
    intro x hx
    obtain ⟨i, hi, rfl⟩ := List.mem_iff_getElem.1 hx
    exact h i _ hi (List.getElem?_eq_getElem hi)
  rw [this]
theorem idx_some {α : Type} {p : α → Bool} {xs : List α} {j : Nat} {y : α} (h : ∀ i x, i < j → xs[i]? = some x → p x = false) (hj : xs[j]? = some y) (hp : p y = true) : idx p xs = j := by
  unfold idx
  obtain ⟨hl, he⟩ := List.getElem?_eq_some_iff.1 hj
  have : xs.findIdx? p = some j := by
    rw [List.findIdx?_eq_some_iff_getElem]
    refine ⟨hl, by rw [he]; exact hp, fun i hi => ?_⟩
    simp [h i _ hi (List.getElem?_eq_getElem (by omega))]
  rw [this]
theorem idx_any {α : Type} (p : α → Bool) (xs : List α) : decide (0 ≤ idx p xs) = xs.any p := by
  unfold idx
  cases h : xs.findIdx? p with
  | none =>
    rw [List.findIdx?_eq_none_iff] at h
    have : xs.any p = false := by
      rw [List.any_eq_false]; intro x hx; simp [h x hx]
    rw [this]; rfl
  | some i =>
    rw [List.findIdx?_eq_some_iff_getElem] at h
    obtain ⟨hl, hp, _⟩ := h
    have : xs.any p = true := List.any_eq_true.2 ⟨_, List.getElem_mem hl, hp⟩
    rw [this]
    simp
theorem seen_step {α : Type} {p : α → Bool} {xs : List α} {j : Nat} {x : α} (h : ∀ i y, i < j → xs[i]? = some y → p y = false) (hx : xs[j]? = some x) (hp : p x = false) : ∀ i y, i < j + 1 → xs[i]? = some y → p y = false := by
  intro i y hi hy
  rcases Nat.lt_or_ge i j with h' | h'
  · exact h i y h' hy
  · obtain rfl : i = j := by omega
    rw [hx] at hy; cases hy; exact hp

set_option maxRecDepth 20000 in
set_option maxHeartbeats 400000 in
theorem indexFunc_Ev (k : FuncId) (caps : Array Value) (p : Ev → Bool) (xs : List (Ev)) (v : Value) (w : World) (hv : In kEv w v xs) (hk : ∀ args W, (callFunc k args).run Tryd.prog W = .ok (.enter k args) W)
    (hf0 : ∀ x ∈ xs, ∀ W, Below w.heap.size w W → Calls Tryd.prog k (#[.agg #[.int .i64 x.kind, .int .i64 x.tx, .int .i64 x.var, .int .i64 x.val]] ++ caps) W fun e W' => e = .returned (.bool (p x)) ∧ Below W.heap.size W W') :
    Calls Tryd.prog 52 #[v, .func (.func k) #[] caps] w fun e w' => e = .returned (.int .i64 (idx p xs)) ∧ Below w.heap.size w w' := by
  obtain ⟨A, c, rfl, hc, hC0⟩ := hv
  have hm : xs.length ≤ 9223372036854775807 := hC0.2.1
  have hC := Aside0.mk hC0
  have hf := Aside0.mk hf0
  clear hC0 hf0
  go_enter Tryd.func52, Tryd.ntmps52
  go_wp2
  go_loopw [5, 8] (fun _ i wr => ∃ j : Nat, j ≤ xs.length ∧ i = .int .i64 j ∧ Below w.heap.size w wr ∧ Aside0 (∀ i x, i < j → xs[i]? = some x → p x = false)) (fun _ i _ => xs.length - (intOf i).toNat)
  case atStart => exact ⟨0, Nat.zero_le _, rfl, Below.refl _ _, ⟨fun i x hi => absurd hi (by omega)⟩⟩
  case round =>
    obtain ⟨j, hj, rfl, hb, hp⟩ := hrel
    by_cases hlt : j < xs.length
    · obtain ⟨ad, x, rfl, hx, h0, h1, h2, h3⟩ := get_Ev (Kd.C_below hC.out hb) j hlt
      go_wp2_with fail
      refine (hf.out x (List.mem_of_getElem? hx.out) _ hb).mono ?_
      rintro e W' ⟨rfl, hb2⟩
      cases hpx : p x with
      | true =>
        go_wp2
        go_ret
        exact ⟨by rw [idx_some hp.out hx.out hpx]; rfl, below_step hb hb2⟩
      | false =>
        go_wp2
        go_roundw
        case rel => exact ⟨j + 1, by omega, by go_num, below_step hb hb2, ⟨seen_step hp.out hx.out hpx⟩⟩
        case measure => simp [intOf]; omega
    · go_wp2
      go_ret
      exact ⟨by rw [idx_none (fun i x hi hx => hp.out i x (by omega) hx)]; rfl, hb⟩
theorem containsFunc_Ev (k : FuncId) (caps : Array Value) (p : Ev → Bool) (xs : List (Ev)) (v : Value) (w : World) (hv : In kEv w v xs) (hk : ∀ args W, (callFunc k args).run Tryd.prog W = .ok (.enter k args) W)
    (hf0 : ∀ x ∈ xs, ∀ W, Below w.heap.size w W → Calls Tryd.prog k (#[.agg #[.int .i64 x.kind, .int .i64 x.tx, .int .i64 x.var, .int .i64 x.val]] ++ caps) W fun e W' => e = .returned (.bool (p x)) ∧ Below W.heap.size W W') :
    Calls Tryd.prog 92 #[v, .func (.func k) #[] caps] w fun e w' => e = .returned (.bool (xs.any p)) ∧ Below w.heap.size w w' := by
  have hf := Aside0.mk hf0
  replace hv := Aside0.mk hv
  replace hk := Aside0.mk hk
  clear hf0
  go_enter Tryd.func92, Tryd.ntmps92
  go_wp2_with (go_at_call 52; refine (indexFunc_Ev _ _ _ _ _ _ hv.out hk.out hf.out).mono ?_; rintro e w' ⟨rfl, hb⟩)
  go_ret
  exact ⟨by rw [← idx_any]; rfl, hb⟩

set_option maxRecDepth 20000 in
set_option maxHeartbeats 400000 in
theorem indexFunc_Txn (k : FuncId) (caps : Array Value) (p : Txn → Bool) (xs : List (Txn)) (v : Value) (w : World) (hv : In kTxn w v xs) (hk : ∀ args W, (callFunc k args).run Tryd.prog W = .ok (.enter k args) W)
    (hf0 : ∀ x ∈ xs, ∀ W, Below w.heap.size w W → ∀ A4 c4, Sl kOp W A4 c4 x.ops → Calls Tryd.prog k (#[.agg #[.int .i64 x.name, .int .i64 x.first, .int .i64 x.last, .int .i64 x.state, .slice A4 x.ops.length c4]] ++ caps) W fun e W' => e = .returned (.bool (p x)) ∧ Below W.heap.size W W') :
    Calls Tryd.prog 50 #[v, .func (.func k) #[] caps] w fun e w' => e = .returned (.int .i64 (idx p xs)) ∧ Below w.heap.size w w' := by
  obtain ⟨A, c, rfl, hc, hC0⟩ := hv
  have hm : xs.length ≤ 9223372036854775807 := hC0.2.1
  have hC := Aside0.mk hC0
  have hf := Aside0.mk hf0
  clear hC0 hf0
  go_enter Tryd.func50, Tryd.ntmps50
  go_wp2
  go_loopw [5, 8] (fun _ i wr => ∃ j : Nat, j ≤ xs.length ∧ i = .int .i64 j ∧ Below w.heap.size w wr ∧ Aside0 (∀ i x, i < j → xs[i]? = some x → p x = false)) (fun _ i _ => xs.length - (intOf i).toNat)
  case atStart => exact ⟨0, Nat.zero_le _, rfl, Below.refl _ _, ⟨fun i x hi => absurd hi (by omega)⟩⟩
  case round =>
    obtain ⟨j, hj, rfl, hb, hp⟩ := hrel
    by_cases hlt : j < xs.length
    · obtain ⟨ad, x, A4, c4, rfl, hx, h0, h1, h2, h3, h4, s4⟩ := get_Txn (Kd.C_below hC.out hb) j hlt
      go_wp2_with fail
      refine (hf.out x (List.mem_of_getElem? hx.out) _ hb _ _ s4.out).mono ?_
      rintro e W' ⟨rfl, hb2⟩
      cases hpx : p x with
      | true =>
        go_wp2
        go_ret
        exact ⟨by rw [idx_some hp.out hx.out hpx]; rfl, below_step hb hb2⟩
      | false =>
        go_wp2
        go_roundw
        case rel => exact ⟨j + 1, by omega, by go_num, below_step hb hb2, ⟨seen_step hp.out hx.out hpx⟩⟩
        case measure => simp [intOf]; omega
    · go_wp2
      go_ret
      exact ⟨by rw [idx_none (fun i x hi hx => hp.out i x (by omega) hx)]; rfl, hb⟩
theorem containsFunc_Txn (k : FuncId) (caps : Array Value) (p : Txn → Bool) (xs : List (Txn)) (v : Value) (w : World) (hv : In kTxn w v xs) (hk : ∀ args W, (callFunc k args).run Tryd.prog W = .ok (.enter k args) W)
    (hf0 : ∀ x ∈ xs, ∀ W, Below w.heap.size w W → ∀ A4 c4, Sl kOp W A4 c4 x.ops → Calls Tryd.prog k (#[.agg #[.int .i64 x.name, .int .i64 x.first, .int .i64 x.last, .int .i64 x.state, .slice A4 x.ops.length c4]] ++ caps) W fun e W' => e = .returned (.bool (p x)) ∧ Below W.heap.size W W') :
    Calls Tryd.prog 37 #[v, .func (.func k) #[] caps] w fun e w' => e = .returned (.bool (xs.any p)) ∧ Below w.heap.size w w' := by
  have hf := Aside0.mk hf0
  replace hv := Aside0.mk hv
  replace hk := Aside0.mk hk
  clear hf0
  go_enter Tryd.func37, Tryd.ntmps37
  go_wp2_with (go_at_call 50; refine (indexFunc_Txn _ _ _ _ _ _ hv.out hk.out hf.out).mono ?_; rintro e w' ⟨rfl, hb⟩)
  go_ret
  exact ⟨by rw [← idx_any]; rfl, hb⟩


set_option maxRecDepth 20000 in
set_option maxHeartbeats 400000 in
theorem indexFunc_int (k : FuncId) (caps : Array Value) (p : Int → Bool) (xs : List (Int)) (v : Value) (w : World) (hv : In (Kd.int .i64) w v xs) (hk : ∀ args W, (callFunc k args).run Tryd.prog W = .ok (.enter k args) W)
    (hf0 : ∀ x ∈ xs, ∀ W, Below w.heap.size w W → Calls Tryd.prog k (#[.int .i64 x] ++ caps) W fun e W' => e = .returned (.bool (p x)) ∧ Below W.heap.size W W') :
    Calls Tryd.prog 74 #[v, .func (.func k) #[] caps] w fun e w' => e = .returned (.int .i64 (idx p xs)) ∧ Below w.heap.size w w' := by
  obtain ⟨A, c, rfl, hc, hC0⟩ := hv
  have hm : xs.length ≤ 9223372036854775807 := hC0.2.1
  have hC := Aside0.mk hC0
  have hf := Aside0.mk hf0
  clear hC0 hf0
  go_enter Tryd.func74, Tryd.ntmps74
  go_wp2
  go_loopw [5, 8] (fun _ i wr => ∃ j : Nat, j ≤ xs.length ∧ i = .int .i64 j ∧ Below w.heap.size w wr ∧ Aside0 (∀ i x, i < j → xs[i]? = some x → p x = false)) (fun _ i _ => xs.length - (intOf i).toNat)
  case atStart => exact ⟨0, Nat.zero_le _, rfl, Below.refl _ _, ⟨fun i x hi => absurd hi (by omega)⟩⟩
  case round =>
    obtain ⟨j, hj, rfl, hb, hp⟩ := hrel
    by_cases hlt : j < xs.length
    · obtain ⟨ad, x, rfl, hx, h0⟩ := get_int (Kd.C_below hC.out hb) j hlt
      go_wp2_with fail
      refine (hf.out x (List.mem_of_getElem? hx.out) _ hb).mono ?_
      rintro e W' ⟨rfl, hb2⟩
      cases hpx : p x with
      | true =>
        go_wp2
        go_ret
        exact ⟨by rw [idx_some hp.out hx.out hpx]; rfl, below_step hb hb2⟩
      | false =>
        go_wp2
        go_roundw
        case rel => exact ⟨j + 1, by omega, by go_num, below_step hb hb2, ⟨seen_step hp.out hx.out hpx⟩⟩
        case measure => simp [intOf]; omega
    · go_wp2
      go_ret
      exact ⟨by rw [idx_none (fun i x hi hx => hp.out i x (by omega) hx)]; rfl, hb⟩
theorem containsFunc_int (k : FuncId) (caps : Array Value) (p : Int → Bool) (xs : List (Int)) (v : Value) (w : World) (hv : In (Kd.int .i64) w v xs) (hk : ∀ args W, (callFunc k args).run Tryd.prog W = .ok (.enter k args) W)
    (hf0 : ∀ x ∈ xs, ∀ W, Below w.heap.size w W → Calls Tryd.prog k (#[.int .i64 x] ++ caps) W fun e W' => e = .returned (.bool (p x)) ∧ Below W.heap.size W W') :
    Calls Tryd.prog 47 #[v, .func (.func k) #[] caps] w fun e w' => e = .returned (.bool (xs.any p)) ∧ Below w.heap.size w w' := by
  have hf := Aside0.mk hf0
  replace hv := Aside0.mk hv
  replace hk := Aside0.mk hk
  clear hf0
  go_enter Tryd.func47, Tryd.ntmps47
  go_wp2_with (go_at_call 74; refine (indexFunc_int _ _ _ _ _ _ hv.out hk.out hf.out).mono ?_; rintro e w' ⟨rfl, hb⟩)
  go_ret
  exact ⟨by rw [← idx_any]; rfl, hb⟩

set_option maxRecDepth 20000 in
set_option maxHeartbeats 400000 in
theorem indexFunc_u32 (k : FuncId) (caps : Array Value) (p : Nat → Bool) (xs : List (Nat)) (v : Value) (w : World) (hv : In kU32 w v xs) (hk : ∀ args W, (callFunc k args).run Tryd.prog W = .ok (.enter k args) W)
    (hf0 : ∀ x ∈ xs, ∀ W, Below w.heap.size w W → Calls Tryd.prog k (#[.int .u32 (x : Int)] ++ caps) W fun e W' => e = .returned (.bool (p x)) ∧ Below W.heap.size W W') :
    Calls Tryd.prog 127 #[v, .func (.func k) #[] caps] w fun e w' => e = .returned (.int .i64 (idx p xs)) ∧ Below w.heap.size w w' := by
  obtain ⟨A, c, rfl, hc, hC0⟩ := hv
  have hm : xs.length ≤ 9223372036854775807 := hC0.2.1
  have hC := Aside0.mk hC0
  have hf := Aside0.mk hf0
  clear hC0 hf0
  go_enter Tryd.func127, Tryd.ntmps127
  go_wp2
  go_loopw [5, 8] (fun _ i wr => ∃ j : Nat, j ≤ xs.length ∧ i = .int .i64 j ∧ Below w.heap.size w wr ∧ Aside0 (∀ i x, i < j → xs[i]? = some x → p x = false)) (fun _ i _ => xs.length - (intOf i).toNat)
  case atStart => exact ⟨0, Nat.zero_le _, rfl, Below.refl _ _, ⟨fun i x hi => absurd hi (by omega)⟩⟩
  case round =>
    obtain ⟨j, hj, rfl, hb, hp⟩ := hrel
    by_cases hlt : j < xs.length
    · obtain ⟨ad, x, rfl, hx, h0⟩ := get_u32 (Kd.C_below hC.out hb) j hlt
      go_wp2_with fail
      refine (hf.out x (List.mem_of_getElem? hx.out) _ hb).mono ?_
      rintro e W' ⟨rfl, hb2⟩
      cases hpx : p x with
      | true =>
        go_wp2
        go_ret
        exact ⟨by rw [idx_some hp.out hx.out hpx]; rfl, below_step hb hb2⟩
      | false =>
        go_wp2
        go_roundw
        case rel => exact ⟨j + 1, by omega, by go_num, below_step hb hb2, ⟨seen_step hp.out hx.out hpx⟩⟩
        case measure => simp [intOf]; omega
    · go_wp2
      go_ret
      exact ⟨by rw [idx_none (fun i x hi hx => hp.out i x (by omega) hx)]; rfl, hb⟩
theorem containsFunc_u32 (k : FuncId) (caps : Array Value) (p : Nat → Bool) (xs : List (Nat)) (v : Value) (w : World) (hv : In kU32 w v xs) (hk : ∀ args W, (callFunc k args).run Tryd.prog W = .ok (.enter k args) W)
    (hf0 : ∀ x ∈ xs, ∀ W, Below w.heap.size w W → Calls Tryd.prog k (#[.int .u32 (x : Int)] ++ caps) W fun e W' => e = .returned (.bool (p x)) ∧ Below W.heap.size W W') :
    Calls Tryd.prog 102 #[v, .func (.func k) #[] caps] w fun e w' => e = .returned (.bool (xs.any p)) ∧ Below w.heap.size w w' := by
  have hf := Aside0.mk hf0
  replace hv := Aside0.mk hv
  replace hk := Aside0.mk hk
  clear hf0
  go_enter Tryd.func102, Tryd.ntmps102
  go_wp2_with (go_at_call 127; refine (indexFunc_u32 _ _ _ _ _ _ hv.out hk.out hf.out).mono ?_; rintro e w' ⟨rfl, hb⟩)
  go_ret
  exact ⟨by rw [← idx_any]; rfl, hb⟩

set_option maxHeartbeats 400000 in
theorem index_int (xs : List (Int)) (y : Int) (v : Value) (w : World) (hv : In (Kd.int .i64) w v xs) :
    Calls Tryd.prog 49 #[v, .int .i64 y] w fun e w' => e = .returned (.int .i64 (idx (· == y) xs)) ∧ w = w' := by
  obtain ⟨A, c, rfl, hc, hC0⟩ := hv
  have hm : xs.length ≤ 9223372036854775807 := hC0.2.1
  have hC := Aside0.mk hC0
  clear hC0
  go_enter Tryd.func49, Tryd.ntmps49
  go_wp2
  go_loop [5, 8] (fun _ i => ∃ j : Nat, j ≤ xs.length ∧ i = .int .i64 j ∧ Aside0 (∀ i x, i < j → xs[i]? = some x → (x == y) = false)) (fun _ i => xs.length - (intOf i).toNat)
  case atStart => exact ⟨0, Nat.zero_le _, rfl, ⟨fun i x hi => absurd hi (by omega)⟩⟩
  case round =>
    obtain ⟨j, hj, rfl, hp⟩ := hrel
    by_cases hlt : j < xs.length
    · obtain ⟨ad, x, rfl, hx, h0⟩ := get_int hC.out j hlt
      cases hpx : x == y with
      | true =>
        have hpy : (y == x) = true := by rw [beq_iff_eq] at *; exact hpx.symm
        have hpz := Aside0.mk hpx
        obtain rfl : y = x := beq_iff_eq.1 hpy
        clear hpy hpx
        go_wp2
        go_ret
        exact ⟨by rw [idx_some hp.out hx.out hpz.out]; rfl, rfl⟩
      | false =>
        have hpy : ((y : Int) == (x : Int)) = false := by rw [beq_eq_false_iff_ne] at *; exact fun h => hpx h.symm
        have hpz := Aside0.mk hpx
        clear hpx
        go_wp2
        go_round
        case rel => exact ⟨j + 1, by omega, by go_num, ⟨seen_step hp.out hx.out hpz.out⟩⟩
        case measure => simp [intOf]; omega
    · go_wp2
      go_ret
      exact ⟨by rw [idx_none (fun i x hi hx => hp.out i x (by omega) hx)]; rfl, rfl⟩
theorem contains_int (xs : List (Int)) (y : Int) (v : Value) (w : World) (hv : In (Kd.int .i64) w v xs) :
    Calls Tryd.prog 18 #[v, .int .i64 y] w fun e w' => e = .returned (.bool (xs.contains y)) ∧ w = w' := by
  replace hv := Aside0.mk hv
  go_enter Tryd.func18, Tryd.ntmps18
  go_wp2_with (go_at_call 49; refine (index_int _ _ _ _ hv.out).mono ?_; rintro e w' ⟨rfl, rfl⟩)
  go_ret
  refine ⟨?_, rfl⟩
  have : xs.contains y = xs.any (· == y) := by rw [← List.any_beq']
  rw [this, ← idx_any]; rfl

set_option maxHeartbeats 400000 in
theorem index_u32 (xs : List (Nat)) (y : Nat) (v : Value) (w : World) (hv : In kU32 w v xs) :
    Calls Tryd.prog 56 #[v, .int .u32 (y : Int)] w fun e w' => e = .returned (.int .i64 (idx (· == y) xs)) ∧ w = w' := by
  obtain ⟨A, c, rfl, hc, hC0⟩ := hv
  have hm : xs.length ≤ 9223372036854775807 := hC0.2.1
  have hC := Aside0.mk hC0
  clear hC0
  go_enter Tryd.func56, Tryd.ntmps56
  go_wp2
  go_loop [5, 8] (fun _ i => ∃ j : Nat, j ≤ xs.length ∧ i = .int .i64 j ∧ Aside0 (∀ i x, i < j → xs[i]? = some x → (x == y) = false)) (fun _ i => xs.length - (intOf i).toNat)
  case atStart => exact ⟨0, Nat.zero_le _, rfl, ⟨fun i x hi => absurd hi (by omega)⟩⟩
  case round =>
    obtain ⟨j, hj, rfl, hp⟩ := hrel
    by_cases hlt : j < xs.length
    · obtain ⟨ad, x, rfl, hx, h0⟩ := get_u32 hC.out j hlt
      cases hpx : x == y with
      | true =>
        have hpy : (y == x) = true := by rw [beq_iff_eq] at *; exact hpx.symm
        have hpz := Aside0.mk hpx
        obtain rfl : y = x := beq_iff_eq.1 hpy
        clear hpy hpx
        go_wp2
        go_ret
        exact ⟨by rw [idx_some hp.out hx.out hpz.out]; rfl, rfl⟩
      | false =>
        have hpy : ((y : Int) == (x : Int)) = false := by rw [beq_eq_false_iff_ne] at *; intro h; omega
        have hpz := Aside0.mk hpx
        clear hpx
        go_wp2
        go_round
        case rel => exact ⟨j + 1, by omega, by go_num, ⟨seen_step hp.out hx.out hpz.out⟩⟩
        case measure => simp [intOf]; omega
    · go_wp2
      go_ret
      exact ⟨by rw [idx_none (fun i x hi hx => hp.out i x (by omega) hx)]; rfl, rfl⟩
theorem contains_u32 (xs : List (Nat)) (y : Nat) (v : Value) (w : World) (hv : In kU32 w v xs) :
    Calls Tryd.prog 27 #[v, .int .u32 (y : Int)] w fun e w' => e = .returned (.bool (xs.contains y)) ∧ w = w' := by
  replace hv := Aside0.mk hv
  go_enter Tryd.func27, Tryd.ntmps27
  go_wp2_with (go_at_call 56; refine (index_u32 _ _ _ _ hv.out).mono ?_; rintro e w' ⟨rfl, rfl⟩)
  go_ret
  refine ⟨?_, rfl⟩
  have : xs.contains y = xs.any (· == y) := by rw [← List.any_beq']
  rw [this, ← idx_any]; rfl

end Go.Proofs.YtnogalajfccioaaDoor
