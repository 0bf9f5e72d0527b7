/- slices.Clone, slices.DeleteFunc of events. -/
import Derived.Test.YtnogalajfccioaaDoorOpaque2
namespace Go.Proofs.YtnogalajfccioaaDoor
open Go.RowKit Go.Proofs.YtnogalajfccioaaDoorW.PrintWords
theorem Tryd.info_Ev : (Tryd.prog.info? 49).map (fun i => (i.zero, i.size, i.bytes)) = some (some (.agg #[.int .i64 0, .int .i64 0, .int .i64 0, .int .i64 0]), 4, 32) := by kernel_rfl
theorem kEv_M {w : World} {base : Nat} {ok : Nat → Prop} {x : Ev} {cs : List Value} (h : kEv.K w x cs) : kEv.M w base ok x cs := by
  obtain rfl := kEv_open h
  exact kEv_mkM w base ok x
theorem Tryd.nil_ev (n c : Nat) (w : World) : (binOp .eql 22 (.slice none n c) (.slice none 0 0)).run Tryd.prog w = .ok (.bool true) w := by kernel_rfl
theorem Tryd.some_ev (a : Addr) (n c : Nat) (w : World) : (binOp .eql 22 (.slice (some a) n c) (.slice none 0 0)).run Tryd.prog w = .ok (.bool false) w := by kernel_rfl
theorem own_empty (w : World) : Own kEv 49 w (w.alloc (.cells #[] 49)) (.slice (some ⟨w.heap.size, 0, none⟩) 0 0) ([] : List Ev) :=
  ⟨fun _ _ => trivial, [], ⟨by simp, .inr ⟨w.heap.size, 0, #[], rfl, Nat.le_refl _, blk_new _ _, Nat.le_refl _, Nat.zero_le _, by simp, by simp⟩⟩, by simp, fun j p hj => by simp at hj⟩
set_option maxRecDepth 100000 in
set_option maxHeartbeats 1000000 in
theorem clone_c (h : List Ev) (v : Value) (w : World) (hv : In kEv w v h) (hl : h.length ≤ 1000) :
    Calls Tryd.prog 22 #[v] w fun e w' => (∃ u, e = .returned u ∧ Own kEv 49 w w' u h) ∧ Below w.heap.size w w' := by
  obtain ⟨A, c, rfl, hc, hC⟩ := hv
  cases A with
  | none =>
    have h0 : h = [] := by
      cases h with
      | nil => rfl
      | cons x h =>
        obtain ⟨ad, e, _⟩ := hC.2.2 (by simp)
        cases e
    subst h0
    replace hC := Aside0.mk hC
    have hnil := Tryd.nil_ev
    have hsome := Tryd.some_ev
    go_enter Tryd.func22, Tryd.ntmps22
    go_wp2
    go_ret
    exact ⟨⟨_, rfl, Own.nil _ _ _ _⟩, Below.refl _ _⟩
  | some ad =>
    replace hC := Aside0.mk hC
    have hnil := Tryd.nil_ev
    have hsome := Tryd.some_ev
    go_enter Tryd.func22, Tryd.ntmps22
    go_wp2_with (at_builtin; refine Kd.R_append_rows kEv (w0 := w) w.heap.size rfl (.tmp 5) (.tmp 6) 22 49 (.agg #[.int .i64 0, .int .i64 0, .int .i64 0, .int .i64 0]) 32 rfl Tryd.underlying22 Tryd.info_Ev rfl (by decide) (by decide) (.slice (some ⟨w.heap.size, 0, none⟩) 0 0) [] h (some ad) h.length c (fun _ => True) (fun _ => False) rfl rfl (own_empty w) (Kd.C_alloc hC.out _) (fun x cs hK => kEv_M hK) (fun k hk => hk.elim) (fun _ _ => trivial) (below_alloc (Below.refl _ _) _) (by simp) (by simp; omega) ?_; intro v1 w1 hO1 hB1 _ _; rw [List.nil_append] at hO1; replace hO1 := Aside0.mk hO1; replace hB1 := Aside0.mk hB1)
    go_ret
    exact ⟨⟨_, rfl, hO1.out⟩, hB1.out⟩
end Go.Proofs.YtnogalajfccioaaDoor
