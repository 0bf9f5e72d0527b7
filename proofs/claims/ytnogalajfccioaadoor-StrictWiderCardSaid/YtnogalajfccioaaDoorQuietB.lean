/- A region that draws its order, whose operations only read and whose callees only allocate: one walk of the order of the text. -/
import Derived.Test.YtnogalajfccioaaDoorSerial
import Derived.Deep.Quiet
namespace Go.Proofs.YtnogalajfccioaaDoor
open Go Go.RowKit Go.Proofs.YtnogalajfccioaaDoorW.PrintWords
/-- The class: nothing that was has turned. -/
def QB (w : World) (W : World) : Prop := Below w.heap.size w W
theorem QB.cell {w W : World} (h : QB w W) {p : Addr} {v : Value} (hc : w.cell? p = some v) : W.cell? p = some v := pw_cell_below h hc
section
variable {P : Program} {ops : Array Oper} {C : World → Prop}
theorem quiet_go {Q : Act → Prop} {a : Act} {o : Oper} {rest : List Oper} (hg : o.guard = none) (h : ∃ v, (∀ W, C W → Oper.quietUpon P C W v ((execOp a.eval o).run P W)) ∧ wpQuiet P ops C Q rest (a.put o.dst v)) : wpQuiet P ops C Q (o :: rest) a := by
  unfold wpQuiet
  have : Region.wanted o (yielded ops a.tmps) = true := by simp [Region.wanted, hg]
  rw [if_pos this]
  exact h
theorem quiet_call {a : Act} {o : Oper} {W : World} {v : Value} {f : FuncId} {args : Array Value} (he : (execOp a.eval o).run P W = .ok (.enter f args) W) (h : Calls P f args W fun e w'' => e = .returned v ∧ C w'') : Oper.quietUpon P C W v ((execOp a.eval o).run P W) := by
  rw [he]
  exact ⟨rfl, h⟩
theorem region_qb {id : Nat} {Q : Exit → Act → World → Prop} {a : Act} {w : World} {l : List Oper} (hm : P.follows .mixedOrders = true) (hB : Region.lexB .any l.toArray = true)
    (h : wpQuiet P l.toArray (QB w) (fun a' => ∀ w', QB w w' → Q .normal a' w') l a) : (Code.region id l.toArray true).wp P Q a w :=
  wp_region_quiet (C := QB w) hm hB (below_drew (Below.refl _ _)) (by simpa using h)
end
end Go.Proofs.YtnogalajfccioaaDoor
