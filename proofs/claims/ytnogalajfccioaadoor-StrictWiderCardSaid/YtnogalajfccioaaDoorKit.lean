/- Helpers of the walks: own rows, appends, what is below. -/
import Derived.Test.YtnogalajfccioaaDoorSlices
import Derived.BigGuardPart
import Derived.Deep.RegionLaw
namespace Go.Proofs.YtnogalajfccioaaDoor
open Go.RowKit Go.Proofs.YtnogalajfccioaaDoorW.PrintWords
/-- A row of the call's own (made since w0), that reads as a list. -/
abbrev Own {α : Type} (d : Kd α) (e : Nat) (w0 w : World) (v : Value) (xs : List α) : Prop := Kd.R d e w w0.heap.size (fun _ => True) v xs
theorem Own.nil {α : Type} (d : Kd α) (e : Nat) (w0 w : World) : Own d e w0 w (.slice none 0 0) ([] : List α) := Kd.R_nil _ _ _ _ _
theorem Own.below {α : Type} {d : Kd α} {e : Nat} {w0 w w1 : World} {v : Value} {xs : List α} (h : Own d e w0 w v xs) (hb : Below w.heap.size w w1) : Own d e w0 w1 v xs := Kd.R_below h hb
theorem Own.inn {α : Type} {d : Kd α} {e : Nat} {w0 w : World} {v : Value} {xs : List α} (h : Own d e w0 w v xs) : In d w v xs := In.of_R h
theorem Own.lower {α : Type} {d : Kd α} {e : Nat} {w0 w1 w : World} {v : Value} {xs : List α} (h : Own d e w1 w v xs) (hb : w0.heap.size ≤ w1.heap.size) : Own d e w0 w v xs := Kd.R_lower h hb
section
variable {P : Program} {ops : Array Oper} {rest : List Oper} {o : Oper} {a : Act} {Q : Exit → Act → World → Prop} {α : Type}
/-- append(v, x) of one element; behind 'at_builtin'. -/
theorem append_one (d : Kd α) {w0 W : World} (hgd : o.guard = none) (s x : Operand) (t e : TypeId) (z : Value) (bytes : Nat)
    (ho : o.op = .call { callee := .builtin .append, args := #[s, x], argTypes := #[t, t] })
    (ht : P.underlying t = some (.slice e)) (hinfo : (P.info? e).map (fun i => (i.zero, i.size, i.bytes)) = some (some z, d.sz, bytes)) (hz : z.cells.size = d.sz) (hs0 : 0 < d.sz) (hb0 : 0 < bytes)
    (v : Value) (xs : List α) (p : α) (cs : List Value) (hs : a.eval s = v) (hx : a.eval x = .slice (some ⟨W.heap.size, 0, none⟩) 1 1) (hp : d.M W w0.heap.size (fun k => some k ≠ v.ownBlock) p cs)
    (HO : Own d e w0 W v xs) (HB : Below w0.heap.size w0 W) (hl : (xs.length + 1) * bytes ≤ 140737488355328)
    (h : ∀ v1 w1, Own d e w0 w1 v1 (xs ++ [p]) → Below w0.heap.size w0 w1 → W.grownBy w1 v.ownBlock → (v1.ownBlock = v.ownBlock ∨ ∃ b, v1.ownBlock = some b ∧ W.heap.size ≤ b) → wpList P ops Q rest (a.put o.dst v1) w1) :
    wpList P ops Q (o :: rest) a (W.alloc (.cells cs.toArray e)) :=
  Kd.R_append d w0.heap.size hgd s x t e z bytes ho ht hinfo hz hs0 hb0 v xs p cs (fun _ => True) (fun k => some k ≠ v.ownBlock) hs hx hp (fun _ hk => ⟨trivial, hk⟩) (fun _ _ => trivial) HO HB HB.size hl h
end
section
variable {P : Program} {ops : Array Oper} {o : Oper} {a : Act} {Q : Exit → Act → World → Prop} {Kc : Act → World → Prop} {α : Type}
/-- append(v, x) of one element, as one step of a region that draws its order. -/
theorem append_step (d : Kd α) {w0 W : World} (hw : Region.wanted o (yielded ops a.tmps) = true) (s x : Operand) (t e : TypeId) (z : Value) (bytes : Nat)
    (ho : o.op = .call { callee := .builtin .append, args := #[s, x], argTypes := #[t, t] })
    (ht : P.underlying t = some (.slice e)) (hinfo : (P.info? e).map (fun i => (i.zero, i.size, i.bytes)) = some (some z, d.sz, bytes)) (hz : z.cells.size = d.sz) (hs0 : 0 < d.sz) (hb0 : 0 < bytes)
    (v : Value) (xs : List α) (p : α) (cs : List Value) (hs : a.eval s = v) (hx : a.eval x = .slice (some ⟨W.heap.size, 0, none⟩) 1 1) (hp : d.M W w0.heap.size (fun k => some k ≠ v.ownBlock) p cs)
    (HO : Own d e w0 W v xs) (HB : Below w0.heap.size w0 W) (hl : (xs.length + 1) * bytes ≤ 140737488355328)
    (h : ∀ v1 w1, Own d e w0 w1 v1 (xs ++ [p]) → Below w0.heap.size w0 w1 → W.grownBy w1 v.ownBlock → (v1.ownBlock = v.ownBlock ∨ ∃ b, v1.ownBlock = some b ∧ W.heap.size ≤ b) → Kc (a.put o.dst v1) w1) :
    if Region.wanted o (yielded ops a.tmps) = true then Oper.wp P o a (W.alloc (.cells cs.toArray e)) Kc Q else Kc (a.put o.dst undef) (W.alloc (.cells cs.toArray e)) :=
  Kd.R_append_step d w0.heap.size hw s x t e z bytes ho ht hinfo hz hs0 hb0 v xs p cs (fun _ => True) (fun k => some k ≠ v.ownBlock) hs hx hp (fun _ hk => ⟨trivial, hk⟩) (fun _ _ => trivial) HO HB HB.size hl h
/-- append(v, x) of one element, the same, the draw outermost. -/
theorem append_stepD (d : Kd α) {w0 W : World} (hw : Region.wanted o (yielded ops a.tmps) = true) (s x : Operand) (t e : TypeId) (z : Value) (bytes : Nat)
    (ho : o.op = .call { callee := .builtin .append, args := #[s, x], argTypes := #[t, t] })
    (ht : P.underlying t = some (.slice e)) (hinfo : (P.info? e).map (fun i => (i.zero, i.size, i.bytes)) = some (some z, d.sz, bytes)) (hz : z.cells.size = d.sz) (hs0 : 0 < d.sz) (hb0 : 0 < bytes)
    (v : Value) (xs : List α) (p : α) (cs : List Value) (hs : a.eval s = v) (hx : a.eval x = .slice (some ⟨W.heap.size, 0, none⟩) 1 1) (hp : d.M W w0.heap.size (fun k => some k ≠ v.ownBlock) p cs)
    (HO : Own d e w0 W v xs) (HB : Below w0.heap.size w0 W) (hl : (xs.length + 1) * bytes ≤ 140737488355328)
    (h : ∀ v1 w1, Own d e w0 w1 v1 (xs ++ [p]) → Below w0.heap.size w0 w1 → W.drew.grownBy w1 v.ownBlock → (v1.ownBlock = v.ownBlock ∨ ∃ b, v1.ownBlock = some b ∧ W.heap.size ≤ b) → Kc (a.put o.dst v1) w1) :
    if Region.wanted o (yielded ops a.tmps) = true then Oper.wp P o a (W.alloc (.cells cs.toArray e)).drew Kc Q else Kc (a.put o.dst undef) (W.alloc (.cells cs.toArray e)).drew :=
  append_step (w0 := w0) (W := W.drew) d hw s x t e z bytes ho ht hinfo hz hs0 hb0 v xs p cs hs hx (d.M_move (w := W) (w1 := W.drew) (base := w0.heap.size) (fun _ _ => rfl) hp) (Kd.R_drew HO) (below_drew HB) hl h
end
/-- One block alone. -/
def Is (b : Nat) : Nat → Prop := fun c => c = b
/-- Nothing has turned but new memory and the blocks of S. -/
structure Only (S : Nat → Prop) (w w' : World) : Prop where
  os : w'.os = w.os
  tape : w'.tape = w.tape
  output : w'.output = w.output
  size : w.heap.size ≤ w'.heap.size
  block : ∀ k, k < w.heap.size → ¬ S k → w'.heap[k]? = w.heap[k]?
theorem Only.refl (S : Nat → Prop) (w : World) : Only S w w := ⟨rfl, rfl, rfl, Nat.le_refl _, fun _ _ _ => rfl⟩
theorem Only.trans {S : Nat → Prop} {a b c : World} (h : Only S a b) (k : Only S b c) : Only S a c :=
  ⟨k.os.trans h.os, k.tape.trans h.tape, k.output.trans h.output, Nat.le_trans h.size k.size, fun i hi hs => (k.block i (Nat.lt_of_lt_of_le hi h.size) hs).trans (h.block i hi hs)⟩
theorem Only.mono {S T : Nat → Prop} {a b : World} (h : Only S a b) (hs : ∀ k, k < a.heap.size → S k → T k) : Only T a b := ⟨h.os, h.tape, h.output, h.size, fun i hi ht => h.block i hi (fun s => ht (hs i hi s))⟩
theorem Only.of_grown {w w' : World} {row : Option Nat} (h : w.grownBy w' row) : Only (fun k => some k = row) w w' := ⟨h.os, h.tape, h.output, h.size, fun k hk hs => h.block k hk hs⟩
theorem Only.of_below {S : Nat → Prop} {w w' : World} (h : Below w.heap.size w w') : Only S w w' := ⟨h.os, h.tape, h.output, h.size, fun k hk _ => h.block k hk⟩
theorem Only.alloc {S : Nat → Prop} {w w' : World} (h : Only S w w') (o : Obj) : Only S w (w'.alloc o) := h.trans (Only.of_below (below_alloc (Below.refl _ _) o))
theorem Only.drew {S : Nat → Prop} {w w' : World} (h : Only S w w') : Only S w w'.drew := h.trans (Only.of_below (below_drew (Below.refl _ _)))
theorem Only.set {S : Nat → Prop} {w w' : World} (h : Only S w w') {p : Addr} (hp : S p.block) (u : Value) : Only S w (w'.setCell p u) :=
  ⟨by rw [← h.os]; rfl, by rw [← h.tape]; rfl, by rw [← h.output]; rfl, by simpa using h.size, fun k hk hs => (Below.heap_setCell w' p u k (fun e => hs (e ▸ hp))).trans (h.block k hk hs)⟩
theorem Only.setb {S : Nat → Prop} {w w' : World} {b j : Nat} {u : Value} (hp : S b) (h : Only S w w') : Only S w (w'.setCell ⟨b, j, none⟩ u) := h.set (p := ⟨b, j, none⟩) hp u
theorem Only.below {S : Nat → Prop} {B : Nat} {w w' : World} (h : Only S w w') (hB : B ≤ w.heap.size) (hs : ∀ k, S k → B ≤ k) : Below B w w' := ⟨h.os, h.tape, h.output, h.size, fun k hk => h.block k (Nat.lt_of_lt_of_le hk hB) (fun s => Nat.not_le_of_lt hk (hs k s))⟩
theorem Own.only {α : Type} {d : Kd α} {e : Nat} {w0 w w1 : World} {v : Value} {xs : List α} {S : Nat → Prop} (h : Own d e w0 w v xs) (ho : Only S w w1) (hs : ∀ k, S k → ∃ cells t fr, w.heap[k]? = some (.cells cells t fr) ∧ ∀ q, q ∈ e :: d.E → q ≠ t) : Own d e w0 w1 v xs :=
  Kd.R_mono (Kd.R_move (Kd.R_bound h) (fun k hk => ho.block k hk.2.2.1 (fun s => by
    obtain ⟨cells, t, fr, hc, ht⟩ := hs k s
    obtain ⟨_, _, _, q, hq, cells', hc'⟩ := hk
    rw [hc] at hc'
    injection hc' with hc'
    injection hc' with _ hc' _
    exact ht q hq hc'.symm))) (fun _ hk => hk.1)
theorem Own.only2 {α : Type} {d : Kd α} {e : Nat} {w0 w w1 : World} {v : Value} {xs : List α} {S : Nat → Prop} (h : Own d e w0 w v xs) (ho : Only S w w1) (hs : ∀ k, S k → ∀ cells q, q ∈ e :: d.E → w.heap[k]? ≠ some (.cells cells q (0, 0))) : Own d e w0 w1 v xs :=
  Kd.R_mono (Kd.R_move (Kd.R_bound h) (fun k hk => ho.block k hk.2.2.1 (fun s => by
    obtain ⟨_, _, _, q, hq, cells', hc'⟩ := hk
    exact hs k s _ q hq hc'))) (fun _ hk => hk.1)
theorem Tryd.info_int : (Tryd.prog.info? 3).map (fun i => (i.zero, i.size, i.bytes)) = some (some (.int .i64 0), 1, 8) := by kernel_rfl
end Go.Proofs.YtnogalajfccioaaDoor
