/- Layer 2 (text): events that may be; names of transactions; whether rows of events may be. -/
import Derived.Test.YtnogalajfccioaaDoorKit
namespace Go.Proofs.YtnogalajfccioaaDoor
open Go.RowKit Go.Proofs.YtnogalajfccioaaDoorW.PrintWords
theorem in_c (n a b : Int) (w : World) : Calls Tryd.prog 115 #[.int .i64 n, .int .i64 a, .int .i64 b] w fun e w' => e = .returned (.bool (inB n a b)) ∧ w = w' := by
  by_cases h1 : a ≤ n
  all_goals
    go_enter Tryd.func115, Tryd.ntmps115
    go_wp2
    go_ret
    exact ⟨by simp [inB]; try omega, rfl⟩
theorem inB_iff {n a b : Int} : inB n a b = true ↔ a ≤ n ∧ n ≤ b := by simp [inB]
/-- What the package's table of kinds reads as, at a kind. -/
def KindAt (w : World) (k : Int) : Prop := ∃ s : ByteArray, w.cell? ⟨0, k.toNat * 3, none⟩ = some (.string s) ∧ w.cell? ⟨0, k.toNat * 3 + 1, none⟩ = some (.bool (hasVar k)) ∧ w.cell? ⟨0, k.toNat * 3 + 2, none⟩ = some (.bool (hasVal k))
def Kinds (w : World) : Prop := ∀ k, 0 ≤ k → k ≤ 9 → KindAt w k
theorem Kinds.below {w w1 : World} (h : Kinds w) (hb : Below w.heap.size w w1) : Kinds w1 := fun k h0 h1 => by
  obtain ⟨s, a, b, c⟩ := h k h0 h1
  exact ⟨s, pw_cell_below hb a, pw_cell_below hb b, pw_cell_below hb c⟩
set_option maxHeartbeats 4000000 in
theorem right_c (x : Ev) (w : World) (hk : Kinds w) : Calls Tryd.prog 94 #[.agg #[.int .i64 x.kind, .int .i64 x.tx, .int .i64 x.var, .int .i64 x.val]] w fun e w' => e = .returned (.bool (rightB x)) ∧ Below w.heap.size w w' := by
  obtain ⟨k, t, v, y⟩ := x
  dsimp only
  cases h1 : inB k 0 9 with
  | false =>
    go_enter Tryd.func94, Tryd.ntmps94
    go_wp2_with (go_at_call 115; refine (in_c _ _ _ _).mono ?_; rintro e w' ⟨rfl, rfl⟩)
    go_ret
    exact ⟨by simp [rightB, h1], (Below.refl _ _).alloc (Nat.le_refl _) _⟩
  | true =>
    obtain ⟨hk0, hk1⟩ := inB_iff.1 h1
    obtain ⟨s, c0, c1, c2⟩ := hk k hk0 hk1
    clear hk
    cases h2 : inB t 0 9999 with
    | false =>
      go_enter Tryd.func94, Tryd.ntmps94
      go_wp2_with (go_at_call 115; refine (in_c _ _ _ _).mono ?_; rintro e w' ⟨rfl, rfl⟩)
      go_ret
      exact ⟨by simp [rightB, h2], (Below.refl _ _).alloc (Nat.le_refl _) _⟩
    | true =>
      have hb : 0 < w.heap.size := World.block_lt_of_cell? w _ c0
      go_enter Tryd.func94, Tryd.ntmps94
      go_wp2_with (go_at_call 115; refine (in_c _ _ _ _).mono ?_; rintro e w' ⟨rfl, rfl⟩)
      all_goals
        go_ret
        refine ⟨?_, below_alloc (below_alloc (Below.refl _ _) _) _⟩
        simp_all [rightB]
theorem right1_c (x : Ev) (w : World) (hk : Kinds w) : Calls Tryd.prog 93 #[.agg #[.int .i64 x.kind, .int .i64 x.tx, .int .i64 x.var, .int .i64 x.val]] w fun e w' => e = .returned (.bool (!rightB x)) ∧ Below w.heap.size w w' := by
  go_enter Tryd.func93, Tryd.ntmps93
  go_wp2_with (go_at_call 94; refine (right_c x _ (hk.below (below_alloc (Below.refl _ _) _))).mono ?_; rintro e w' ⟨rfl, hb⟩)
  go_ret
  exact ⟨rfl, below_step (below_alloc (Below.refl _ _) _) hb⟩
theorem namesF_take (h : List Ev) (j : Nat) (x : Ev) (hx : h[j]? = some x) : ∀ l, namesF l (h.take (j + 1)) = addName (namesF l (h.take j)) x.tx := by
  induction h generalizing j with
  | nil => simp at hx
  | cons e h ih =>
    intro l
    cases j with
    | zero =>
      have : e = x := by simpa using hx
      subst this
      simp [namesF]
    | succ j => simp only [List.take_succ_cons, namesF]; exact ih j (by simpa using hx) _
theorem namesF_le (h : List Ev) : ∀ l, (namesF l h).length ≤ l.length + h.length := by
  induction h with
  | nil => intro l; exact Nat.le_refl _
  | cons e h ih =>
    intro l
    have := ih (addName l e.tx)
    have h2 : (addName l e.tx).length ≤ l.length + 1 := by unfold addName; split <;> simp
    simp only [namesF, List.length_cons]
    omega
set_option maxHeartbeats 400000 in
theorem names_c (h : List Ev) (v : Value) (w : World) (hv : In kEv w v h) (hl : h.length ≤ 1000) :
    Calls Tryd.prog 95 #[v] w fun e w' => ∃ u, e = .returned u ∧ Own (Kd.int .i64) 3 w w' u (names h) ∧ Below w.heap.size w w' := by
  obtain ⟨A, c, rfl, hc, hC0⟩ := hv
  have hC := Aside0.mk hC0
  clear hC0
  go_enter Tryd.func95, Tryd.ntmps95
  go_wp2
  go_loopw [3, 5, 8] (fun o _ i wr => ∃ j : Nat, j ≤ h.length ∧ i = .int .i64 j ∧ Below w.heap.size w wr ∧ Aside0 (Own (Kd.int .i64) 3 w wr o (names (h.take j)))) (fun _ _ i _ => h.length - (intOf i).toNat)
  case atStart => exact ⟨0, Nat.zero_le _, rfl, Below.refl _ _, ⟨Own.nil _ _ _ _⟩⟩
  case round =>
    obtain ⟨j, hj, rfl, hb, ho⟩ := hrel
    by_cases hlt : j < h.length
    · obtain ⟨ad, x, rfl, hx, h0, h1, h2, h3⟩ := get_Ev (Kd.C_below hC.out hb) j hlt
      obtain ⟨v0, c0, rfl⟩ := Kd.R_slice ho.out
      have hn : (names (h.take j)).length ≤ 1000 := by have := namesF_le (h.take j) []; simp at this; unfold names; omega
      have hs := Aside0.mk (show names (h.take (j + 1)) = addName (names (h.take j)) x.tx from namesF_take h j x hx.out [])
      cases hcn0 : (names (h.take j)).contains x.tx with
      | true =>
        have e1 : names (h.take (j + 1)) = names (h.take j) := by rw [hs.out, addName, if_pos hcn0]
        replace e1 := Aside0.mk e1
        have hcn := Aside0.mk hcn0
        clear hcn0
        go_wp2_with (go_at_call 18; refine (contains_int _ _ _ _ (ho.out.below (below_alloc (Below.refl _ _) _)).inn).mono ?_; rintro e w' ⟨rfl, rfl⟩; rw [hcn.out])
        go_roundw
        case rel => exact ⟨j + 1, by omega, by go_num, below_alloc hb _, ⟨by rw [e1.out]; exact ho.out.below (below_alloc (Below.refl _ _) _)⟩⟩
        case measure => simp [intOf]; omega
      | false =>
        have e1 : names (h.take (j + 1)) = names (h.take j) ++ [x.tx] := by rw [hs.out, addName, if_neg (by simpa using hcn0)]
        replace e1 := Aside0.mk e1
        have hcn := Aside0.mk hcn0
        clear hcn0
        go_wp2_with (first | (go_at_call 18; refine (contains_int _ _ _ _ (ho.out.below (below_alloc (Below.refl _ _) _)).inn).mono ?_; rintro e w' ⟨rfl, rfl⟩; rw [hcn.out]) | (at_builtin; refine append_one (Kd.int .i64) (w0 := w) rfl (.tmp 17) (.tmp 20) 31 3 (.int .i64 0) 8 rfl Tryd.underlying31 Tryd.info_int rfl (by decide) (by decide) _ (names (h.take j)) x.tx [.int .i64 x.tx] rfl (by simp only [World.size_alloc]; rfl) rfl (ho.out.below (below_alloc (Below.refl _ _) _)) (below_alloc hb _) (by omega) ?_; intro v1 w1 ho1 hb1 hg1 _))
        go_roundw
        case rel => exact ⟨j + 1, by omega, by go_num, hb1, ⟨by rw [e1.out]; exact ho1⟩⟩
        case measure => simp [intOf]; omega
    · go_wp2
      go_ret
      obtain rfl : j = h.length := by omega
      exact ⟨_, rfl, by rw [List.take_length] at ho; exact ho.out, hb⟩
set_option maxHeartbeats 400000 in
theorem Right_c (h : List Ev) (v : Value) (w : World) (hv : In kEv w v h) (hk : Kinds w) :
    Calls Tryd.prog 68 #[v] w fun e w' => e = .returned (.bool (RightB h)) ∧ Below w.heap.size w w' := by
  have hv0 := Aside0.mk hv
  replace hk := Aside0.mk hk
  obtain ⟨A, c, rfl, hc, hC0⟩ := hv
  have hm : h.length ≤ 9223372036854775807 := hC0.2.1
  clear hC0
  have hcall : ∀ args W, (callFunc 93 args).run Tryd.prog W = .ok (.enter 93 args) W := fun _ _ => by kernel_rfl
  replace hcall := Aside0.mk hcall
  by_cases hl : 60 < h.length
  · go_enter Tryd.func68, Tryd.ntmps68
    go_wp2
    go_ret
    exact ⟨by simp [RightB]; omega, Below.refl _ _⟩
  · have ha := containsFunc_Ev 93 #[] (fun x => !rightB x) h _ w hv0.out hcall.out (fun x _ W hb => right1_c x W (hk.out.below hb))
    replace ha := Aside0.mk ha
    cases hany : h.any (fun x => !rightB x) with
    | true =>
      replace hany := Aside0.mk hany
      go_enter Tryd.func68, Tryd.ntmps68
      go_wp2_with (go_at_call 92; refine ha.out.mono ?_; rintro e w' ⟨rfl, hb⟩; rw [hany.out])
      go_ret
      have : h.all rightB = false := by simpa using hany.out
      exact ⟨by simp [RightB, this], hb⟩
    | false =>
      replace hany := Aside0.mk hany
      go_enter Tryd.func68, Tryd.ntmps68
      go_wp2_with (first | (go_at_call 92; refine ha.out.mono ?_; rintro e w' ⟨rfl, hb⟩; rw [hany.out]) | (go_at_call 95; refine (names_c h _ _ (hv0.out.below hb) (by omega)).mono ?_; rintro e w2 ⟨u, rfl, hu, hb2⟩; obtain ⟨v1, c1, rfl⟩ := Kd.R_slice hu))
      go_ret
      have : h.all rightB = true := by simpa using hany.out
      have hl2 : h.length ≤ 60 := by omega
      exact ⟨by simp [RightB, this, hl2]; omega, below_step hb hb2⟩
end Go.Proofs.YtnogalajfccioaaDoor
