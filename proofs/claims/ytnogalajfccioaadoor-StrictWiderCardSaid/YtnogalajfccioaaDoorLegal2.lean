/- Layer 10 (legal): may. -/
import Derived.Test.YtnogalajfccioaaDoorLegal
namespace Go.Proofs.YtnogalajfccioaaDoor
open Go.RowKit Go.Proofs.YtnogalajfccioaaDoorW.PrintWords
theorem Sl.take {α : Type} {d : Kd α} {w : World} {A : Option Addr} {c : Nat} {xs : List α} (h : Sl d w A c xs) {m : Nat} (hm : m ≤ xs.length) : In d w (.slice A m c) (xs.take m) := by
  have hl : (xs.take m).length = m := by simp; omega
  exact ⟨A, c, by rw [hl], by rw [hl]; exact Nat.le_trans hm h.1, Kd.C_take h.2 hm⟩
/-- A row's places beyond a table. -/
def odd (n : Nat) (i : Int) : Bool := decide (i < 0) || decide ((n : Int) ≤ i)
def dup (row : List Int) : Bool := (List.range row.length).any fun i => (row.take i).contains (row.getD i 0)
def mayWhy (h : List Ev) (row : List Int) : Int := if why h ≠ 0 then why h else if row.any (odd (tableOf h).length) then 7 else if dup row then 1 else 0
def mayT (h : List Ev) (row : List Int) : List Txn := if mayWhy h row = 0 then tableOf h else []
set_option maxRecDepth 100000 in
theorem may1_c (n : Nat) (A : Option Addr) (c : Nat) (b : Nat) (i : Int) (w : World) (hb : w.cell? ⟨b, 0, none⟩ = some (.slice A n c)) :
    Calls Tryd.prog 70 #[.int .i64 i, .pointer (some ⟨b, 0, none⟩)] w fun e w' => e = .returned (.bool (odd n i)) ∧ Below w.heap.size w w' := by
  cases hi : decide (i < 0) with
  | true =>
    have h1 : i < 0 := by simpa using hi
    have ho := Aside0.mk (show odd n i = true by simp [odd, h1])
    go_enter Tryd.func70, Tryd.ntmps70
    go_wp2
    go_ret
    exact ⟨by rw [ho.out]; rfl, Below.refl _ _⟩
  | false =>
    have h1 : ¬ i < 0 := by simpa using hi
    have ho := Aside0.mk (show odd n i = decide ((n : Int) ≤ i) by simp [odd, h1])
    go_enter Tryd.func70, Tryd.ntmps70
    go_wp2
    go_ret
    exact ⟨by rw [ho.out]; rfl, Below.refl _ _⟩
theorem odd_cell {w W : World} {b : Nat} {v : Value} {t : TypeId} (h : w.heap[b]? = some (.cells #[v] t (0, 0))) (hb : Below w.heap.size w W) : W.cell? ⟨b, 0, none⟩ = some v := blk_cell (blk_below h hb) 0
theorem dup_false {row : List Int} (h : ∀ i x, row[i]? = some x → (row.take i).contains x = false) : dup row = false := by
  unfold dup
  rw [List.any_eq_false]
  intro i hi
  have hl : i < row.length := by simpa using hi
  rw [List.getD_eq_getElem?_getD, List.getElem?_eq_getElem hl]
  have := h i row[i] (List.getElem?_eq_getElem hl)
  simpa using this
theorem dup_step {row : List Int} {j : Nat} {y : Int} (h : ∀ i x, i < j → row[i]? = some x → (row.take i).contains x = false) (hy : row[j]? = some y) (hd : (row.take j).contains y = false) : ∀ i x, i < j + 1 → row[i]? = some x → (row.take i).contains x = false := by
  intro i x hi hx
  rcases Nat.lt_succ_iff_lt_or_eq.1 hi with h1 | rfl
  · exact h i x h1 hx
  · rw [hy] at hx; cases hx; exact hd
theorem dup_true {row : List Int} {i : Nat} {x : Int} (hx : row[i]? = some x) (h : (row.take i).contains x = true) : dup row = true := by
  unfold dup
  rw [List.any_eq_true]
  obtain ⟨hl, he⟩ := List.getElem?_eq_some_iff.1 hx
  refine ⟨i, by simpa using hl, ?_⟩
  rw [List.getD_eq_getElem?_getD, hx]
  exact h
set_option maxRecDepth 100000 in
set_option maxHeartbeats 2000000 in
theorem mayL_c (h : List Ev) (row : List Int) (v r : Value) (w : World) (hv : In kEv w v h) (hr : In (Kd.int .i64) w r row) (hk : Kinds w) :
    Calls Tryd.prog 40 #[v, r] w fun e w' => RetE kTxn 34 w w' (mayT h row) (mayWhy h row) e ∧ Below w.heap.size w w' := by
  have ht := Aside0.mk (Table_c h v w hv hk)
  have hr0 := Aside0.mk hr
  obtain ⟨rA, rc, rfl, hrc, hR0⟩ := hr
  have hmax : row.length ≤ 9223372036854775807 := hR0.2.1
  have hR := Aside0.mk hR0
  clear hR0
  replace hv := Aside0.mk hv
  replace hk := Aside0.mk hk
  have hcall := Aside0.mk (show ∀ args W, (callFunc 70 args).run Tryd.prog W = .ok (.enter 70 args) W from fun _ _ => by kernel_rfl)
  go_enter Tryd.func40, Tryd.ntmps40
  cases hw : (why h == 0) with
  | false =>
    have hw1 : why h ≠ 0 := by simpa using hw
    have hx := Aside0.mk (show mayWhy h row = why h by simp [mayWhy, hw1])
    have hx2 := Aside0.mk (show mayT h row = [] by simp [mayT, hx.out, hw1])
    replace hw1 : (why h != 0) = true := by simpa using hw1
    go_wp2_with (go_at_call 11; refine ht.out.mono ?_; rintro e w1 ⟨⟨u, rfl, hO⟩, hb⟩; obtain ⟨uA, uc, rfl⟩ := Kd.R_slice hO)
    go_ret2
    exact ⟨⟨_, by rw [hx.out]; rfl, by rw [hx2.out]; exact Own.nil _ _ _ _⟩, below_alloc hb _⟩
  | true =>
    have hw0 : why h = 0 := by simpa using hw
    rw [hw0] at ht
    clear hw
    cases hany : row.any (odd (tableOf h).length) with
    | true =>
      have hx := Aside0.mk (show mayWhy h row = 7 by simp [mayWhy, hw0, hany])
      have hx2 := Aside0.mk (show mayT h row = [] by simp [mayT, hx.out])
      replace hw0 := Aside0.mk hw0
      replace hany := Aside0.mk hany
      go_wp2_with first
        | (go_at_call 11; refine ht.out.mono ?_; clear ht; rintro e w1 ⟨⟨u, rfl, hO⟩, hb⟩; obtain ⟨uA, uc, rfl⟩ := Kd.R_slice hO; replace hb := Aside0.mk (below_alloc hb (.cells #[.slice uA (tableOf h).length uc] 27)); have hbk := Aside0.mk (blk_new w1 (.cells #[.slice uA (tableOf h).length uc] 27)); have hcf := Aside0.mk (containsFunc_int 70 #[.pointer (some ⟨w1.heap.size, 0, none⟩)] (odd (tableOf h).length) row (.slice rA row.length rc) (w1.alloc (.cells #[.slice uA (tableOf h).length uc] 27)) (hr0.out.below hb.out) hcall.out (fun x _ W hb2 => may1_c (tableOf h).length uA uc w1.heap.size x W (odd_cell hbk.out hb2))))
        | (go_at_call 47; refine hcf.out.mono ?_; rintro e w2 ⟨rfl, hb2⟩; rw [hany.out]; replace hb2 := Aside0.mk hb2)
      go_ret2
      exact ⟨⟨_, by rw [hx.out]; rfl, by rw [hx2.out]; exact Own.nil _ _ _ _⟩, below_step hb.out hb2.out⟩
    | false =>
      replace hw0 := Aside0.mk hw0
      replace hany := Aside0.mk hany
      go_wp2_with first
        | (go_at_call 11; refine ht.out.mono ?_; clear ht; rintro e w1 ⟨⟨u, rfl, hO⟩, hb⟩; obtain ⟨uA, uc, rfl⟩ := Kd.R_slice hO; replace hO := Aside0.mk hO; replace hb := Aside0.mk (below_alloc hb (.cells #[.slice uA (tableOf h).length uc] 27)); have hbk := Aside0.mk (blk_new w1 (.cells #[.slice uA (tableOf h).length uc] 27)); have hcf := Aside0.mk (containsFunc_int 70 #[.pointer (some ⟨w1.heap.size, 0, none⟩)] (odd (tableOf h).length) row (.slice rA row.length rc) (w1.alloc (.cells #[.slice uA (tableOf h).length uc] 27)) (hr0.out.below hb.out) hcall.out (fun x _ W hb2 => may1_c (tableOf h).length uA uc w1.heap.size x W (odd_cell hbk.out hb2))))
        | (go_at_call 47; refine hcf.out.mono ?_; rintro e w2 ⟨rfl, hb2⟩; rw [hany.out]; replace hb2 := Aside0.mk hb2)
      have hbr := Aside0.mk (below_step hb.out hb2.out)
      replace hbk := Aside0.mk (blk_below hbk.out hb2.out)
      replace hO := Aside0.mk ((hO.out.below (below_alloc (Below.refl _ _) (.cells #[.slice uA (tableOf h).length uc] 27))).below hb2.out)
      obtain ⟨wo, rfl⟩ : ∃ wo : World, wo = w2 := ⟨_, rfl⟩
      clear hcf hb hb2
      go_loopw [8, 9, 25] (fun _ _ i wr => ∃ j : Nat, j ≤ row.length ∧ i = .int .i64 j ∧ Below wo.heap.size wo wr ∧ Aside0 (∀ i x, i < j → row[i]? = some x → (row.take i).contains x = false)) (fun _ _ i _ => row.length - (intOf i).toNat)
      case atStart => exact ⟨0, Nat.zero_le _, rfl, Below.refl _ _, ⟨fun i x hi => absurd hi (Nat.not_lt_zero _)⟩⟩
      case round =>
        obtain ⟨j, hj, rfl, hb, hn⟩ := hrel
        have hbw := Aside0.mk (below_weaken hbr.out (Nat.le_refl _) (hb.mono hbr.out.size))
        by_cases hlt : j < row.length
        · obtain ⟨ad, x, rfl, hx, c0⟩ := get_int (Kd.C_below hR.out hbw.out) j hlt
          have htk := Aside0.mk (Sl.take (d := Kd.int .i64) (w := wr) (A := some ad) (c := rc) (xs := row) ⟨hrc, Kd.C_below hR.out hbw.out⟩ (Nat.le_of_lt hlt))
          have hjc : j ≤ rc := by omega
          cases hd : (row.take j).contains x with
          | true =>
            have hx1 := Aside0.mk (show mayWhy h row = 1 by simp [mayWhy, hw0.out, hany.out, dup_true hx.out hd])
            have hx2 := Aside0.mk (show mayT h row = [] by simp [mayT, hx1.out])
            have hcc := Aside0.mk (contains_int (row.take j) x _ wr htk.out)
            rw [hd] at hcc
            replace hd := Aside0.mk hd
            go_wp2_with (go_at_call 18; refine hcc.out.mono ?_; rintro e w3 ⟨rfl, rfl⟩)
            go_ret2
            exact ⟨⟨_, by rw [hx1.out]; rfl, by rw [hx2.out]; exact Own.nil _ _ _ _⟩, hbw.out⟩
          | false =>
            have hcc := Aside0.mk (contains_int (row.take j) x _ wr htk.out)
            rw [hd] at hcc
            replace hd := Aside0.mk hd
            go_wp2_with (go_at_call 18; refine hcc.out.mono ?_; rintro e w3 ⟨rfl, rfl⟩)
            go_roundw
            case rel => exact ⟨j + 1, by omega, by go_num, hb, ⟨dup_step hn.out hx.out hd.out⟩⟩
            case measure => simp [intOf]; omega
        · obtain rfl : j = row.length := by omega
          have hx1 := Aside0.mk (show mayWhy h row = 0 by simp [mayWhy, hw0.out, hany.out, dup_false (fun i x hx => hn.out i x (List.getElem?_eq_some_iff.1 hx).1 hx)])
          have hx2 := Aside0.mk (show mayT h row = tableOf h by simp [mayT, hx1.out])
          have c0 := blk_cell (blk_below hbk.out hb) 0
          simp only [List.getElem?_toArray, List.getElem?_cons_zero] at c0
          go_wp2
          go_ret2
          exact ⟨⟨_, by rw [hx1.out]; rfl, by rw [hx2.out]; exact hO.out.below hb⟩, hbw.out⟩
end Go.Proofs.YtnogalajfccioaaDoor
