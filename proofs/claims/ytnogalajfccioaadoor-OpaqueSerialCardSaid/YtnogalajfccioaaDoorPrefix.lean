/- Layer 8 (prefix): Of, Serial. -/
import Derived.Test.YtnogalajfccioaaDoorDelete2
import Derived.Test.YtnogalajfccioaaDoorQuietB
namespace Go.Proofs.YtnogalajfccioaaDoor
open Go.RowKit Go.Proofs.YtnogalajfccioaaDoorW.PrintWords
set_option maxRecDepth 100000 in
set_option maxHeartbeats 1000000 in
theorem of1_c (x : Ev) (tx : Int) (b : Nat) (w : World) (hb : w.cell? ⟨b, 0, none⟩ = some (.int .i64 tx)) :
    Calls Tryd.prog 67 #[.agg #[.int .i64 x.kind, .int .i64 x.tx, .int .i64 x.var, .int .i64 x.val], .pointer (some ⟨b, 0, none⟩)] w fun e w' => e = .returned (.bool (x.tx == tx)) ∧ Below w.heap.size w w' := by
  have hb2 := pw_cell_below (below_alloc (Below.refl _ w) (.cells #[.int .i64 x.kind, .int .i64 x.tx, .int .i64 x.var, .int .i64 x.val] 49)) hb
  go_enter Tryd.func67, Tryd.ntmps67
  go_wp2
  go_ret
  exact ⟨rfl, below_alloc (Below.refl _ _) _⟩
set_option maxRecDepth 100000 in
set_option maxHeartbeats 1000000 in
theorem kept1_c (k : FuncId) (caps : Array Value) (p : Ev → Bool) (x : Ev) (b : Nat) (w : World) (hb : w.cell? ⟨b, 0, none⟩ = some (.func (.func k) #[] caps)) (hk : ∀ args W, (callFunc k args).run Tryd.prog W = .ok (.enter k args) W)
    (hf0 : ∀ W, Below w.heap.size w W → Calls Tryd.prog k (#[.agg #[.int .i64 x.kind, .int .i64 x.tx, .int .i64 x.var, .int .i64 x.val]] ++ caps) W fun e W' => e = .returned (.bool (p x)) ∧ Below W.heap.size W W') :
    Calls Tryd.prog 91 #[.agg #[.int .i64 x.kind, .int .i64 x.tx, .int .i64 x.var, .int .i64 x.val], .pointer (some ⟨b, 0, none⟩)] w fun e w' => e = .returned (.bool (!p x)) ∧ Below w.heap.size w w' := by
  have hb2 := pw_cell_below (below_alloc (Below.refl _ w) (.cells #[.int .i64 x.kind, .int .i64 x.tx, .int .i64 x.var, .int .i64 x.val] 49)) hb
  have hf := Aside0.mk hf0
  clear hf0
  go_enter Tryd.func91, Tryd.ntmps91
  go_wp2_with fail
  refine (hf.out _ (below_alloc (Below.refl _ _) _)).mono ?_
  rintro e w2 ⟨rfl, hb3⟩
  go_wp2
  go_ret
  exact ⟨rfl, below_step (below_alloc (Below.refl _ _) _) hb3⟩
theorem enters_kept : ∀ args W, (callFunc 91 args).run Tryd.prog W = .ok (.enter 91 args) W := enters_of Tryd.func91 (by kernel_rfl) rfl
set_option maxRecDepth 100000 in
set_option maxHeartbeats 1000000 in
theorem kept_c (k : FuncId) (caps : Array Value) (p : Ev → Bool) (l : List Ev) (v : Value) (w : World) (hv : In kEv w v l) (hl : l.length ≤ 1000) (hk : ∀ args W, (callFunc k args).run Tryd.prog W = .ok (.enter k args) W)
    (hf0 : ∀ x ∈ l, ∀ W, Below w.heap.size w W → Calls Tryd.prog k (#[.agg #[.int .i64 x.kind, .int .i64 x.tx, .int .i64 x.var, .int .i64 x.val]] ++ caps) W fun e W' => e = .returned (.bool (p x)) ∧ Below W.heap.size W W') :
    Calls Tryd.prog 66 #[v, .func (.func k) #[] caps] w fun e w' => (∃ u, e = .returned u ∧ Own kEv 49 w w' u (l.filter p)) ∧ Below w.heap.size w w' := by
  have hmf : ∀ (fn : Fn) (first cap : Array Value) (w : World), (Instr.makeFunc fn first cap).run Tryd.prog w = .ok (.func fn first cap) w := fun _ _ _ _ => rfl
  have hf := Aside0.mk hf0
  have hB := Aside0.mk (below_alloc (Below.refl w.heap.size w) (.cells #[.func (.func k) #[] caps] 51))
  have hbn := Aside0.mk (blk_new w (.cells #[.func (.func k) #[] caps] 51))
  have hcl := Aside0.mk (clone_c l v _ (hv.below hB.out) hl)
  clear hf0
  replace hv := Aside0.mk hv
  go_enter Tryd.func66, Tryd.ntmps66
  obtain ⟨W1, hW1⟩ : ∃ W1, W1 = w.alloc (.cells #[.func (.func k) #[] caps] 51) := ⟨_, rfl⟩
  go_wp2_with fail
  rw [← hW1] at hcl hB hbn ⊢
  replace hW1 := Aside0.mk hW1
  refine hcl.out.mono ?_
  clear hcl
  rintro e w2 ⟨⟨u, rfl, hO⟩, hb2⟩
  have hB2 := Aside0.mk (below_step hB.out hb2)
  have hdel := deleteFunc_c 91 #[.pointer (some ⟨w.heap.size, 0, none⟩)] (fun x => !p x) l u W1 w2 hO hb2.size hl enters_kept (fun x hx W hW =>
    kept1_c k caps p x w.heap.size W (by
      have h1 := blk_below hbn.out hb2
      have h2 := (hW.block w.heap.size (blk_lt hbn.out)).trans h1
      exact blk_cell h2 0) hk (fun W' hW' => hf.out x hx W' (below_step ((hB2.out).trans ⟨hW.os, hW.tape, hW.output, hW.size, fun j hj => hW.block j (by have := hB.out.size; omega)⟩) hW')))
  replace hdel := Aside0.mk hdel
  replace hO := Aside0.mk hO
  replace hb2 := Aside0.mk hb2
  go_wp2_with (go_at_call 21; fail)
  refine hdel.out.mono ?_
  rintro e w3 ⟨⟨u3, rfl, hO3⟩, hb3⟩
  go_wp2
  go_ret
  have e1 : (l.filter fun x => !(!p x)) = l.filter p := by congr 1; funext x; simp
  rw [e1] at hO3
  exact ⟨⟨_, rfl, hO3.lower hB.out.size⟩, hB2.out.trans ⟨hb3.os, hb3.tape, hb3.output, hb3.size, fun j hj => hb3.block j (by have := hB.out.size; omega)⟩⟩
end Go.Proofs.YtnogalajfccioaaDoor
