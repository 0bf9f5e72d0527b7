/- The kinds of the data: how each struct reads in cells, and how it is made. Written by genkinds.py. -/
import Derived.Test.YtnogalajfccioaaDoorProg
import Derived.Test.YtnogalajfccioaaDoorWWords
import Derived.Test.YtnogalajfccioaaDoorP1
namespace Go.Proofs.YtnogalajfccioaaDoor
open Go.RowKit Go.Proofs.YtnogalajfccioaaDoorW.PrintWords
set_option linter.unusedVariables false
def kU32 : Kd Nat := Kd.iso (Kd.int .u32) (fun n : Nat => (n : Int))
/-- A slice's cells: what came in or was made, as it reads. -/
def Sl {α : Type} (d : Kd α) (w : World) (A : Option Addr) (c : Nat) (xs : List α) : Prop := xs.length ≤ c ∧ d.C w A xs.length xs
theorem Sl.below {α : Type} {d : Kd α} {w w1 : World} {A : Option Addr} {c : Nat} {xs : List α} (h : Sl d w A c xs) (hb : Below w.heap.size w w1) : Sl d w1 A c xs := ⟨h.1, Kd.C_below h.2 hb⟩
theorem Sl.nil {α : Type} (d : Kd α) (w : World) : Sl d w none 0 ([] : List α) := ⟨Nat.le_refl _, Kd.C_nil d w⟩
/-- A slice value that reads as a list. -/
def In {α : Type} (d : Kd α) (w : World) (v : Value) (xs : List α) : Prop := ∃ A c, v = .slice A xs.length c ∧ Sl d w A c xs
theorem In.below {α : Type} {d : Kd α} {w w1 : World} {v : Value} {xs : List α} (h : In d w v xs) (hb : Below w.heap.size w w1) : In d w1 v xs := by
  obtain ⟨A, c, e, s⟩ := h
  exact ⟨A, c, e, s.below hb⟩
theorem In.nil {α : Type} (d : Kd α) (w : World) : In d w (.slice none 0 0) ([] : List α) := ⟨none, 0, rfl, Sl.nil d w⟩
theorem In.of_R {α : Type} {d : Kd α} {e : Nat} {w : World} {base : Nat} {ok : Nat → Prop} {v : Value} {xs : List α} (h : Kd.R d e w base ok v xs) : In d w v xs := by
  obtain ⟨A, c, e, hl, hc⟩ := Kd.R_reads h
  exact ⟨A, c, e, hl, hc⟩

/-! #### Ev -/
def kEv : Kd Ev := Kd.iso (Kd.pair (Kd.int .i64) (Kd.pair (Kd.int .i64) (Kd.pair (Kd.int .i64) (Kd.int .i64)))) (fun x : Ev => (x.kind, x.tx, x.var, x.val))
theorem kEv_open {w : World} {x : Ev} {cs : List Value} (h : kEv.K w x cs) : cs = [.int .i64 x.kind, .int .i64 x.tx, .int .i64 x.var, .int .i64 x.val] := by
  obtain ⟨_, _, rfl, rfl, ⟨_, _, rfl, rfl, ⟨_, _, rfl, rfl, rfl⟩⟩⟩ := h
  exact rfl
theorem kEv_mk (w : World) (x : Ev)  : kEv.K w x [.int .i64 x.kind, .int .i64 x.tx, .int .i64 x.var, .int .i64 x.val] := ⟨[.int .i64 x.kind], [.int .i64 x.tx, .int .i64 x.var, .int .i64 x.val], rfl, rfl, ⟨[.int .i64 x.tx], [.int .i64 x.var, .int .i64 x.val], rfl, rfl, ⟨[.int .i64 x.var], [.int .i64 x.val], rfl, rfl, rfl⟩⟩⟩
theorem kEv_mkM (w : World) (base : Nat) (ok : Nat → Prop) (x : Ev)  : kEv.M w base ok x [.int .i64 x.kind, .int .i64 x.tx, .int .i64 x.var, .int .i64 x.val] := ⟨[.int .i64 x.kind], [.int .i64 x.tx, .int .i64 x.var, .int .i64 x.val], rfl, rfl, ⟨[.int .i64 x.tx], [.int .i64 x.var, .int .i64 x.val], rfl, rfl, ⟨[.int .i64 x.var], [.int .i64 x.val], rfl, rfl, rfl⟩⟩⟩
theorem get_Ev {w : World} {A : Option Addr} {n : Nat} {xs : List Ev} (h : Kd.C kEv w A n xs) (i : Nat) (h1 : i < xs.length) : ∃ ad x , A = some ad ∧ Aside0 (xs[i]? = some x) ∧ w.cell? (ad.add (i * 4)) = some (.int .i64 x.kind) ∧ w.cell? ⟨(ad.add (i * 4)).block, (ad.add (i * 4)).off + 1, none⟩ = some (.int .i64 x.tx) ∧ w.cell? ⟨(ad.add (i * 4)).block, (ad.add (i * 4)).off + 2, none⟩ = some (.int .i64 x.var) ∧ w.cell? ⟨(ad.add (i * 4)).block, (ad.add (i * 4)).off + 3, none⟩ = some (.int .i64 x.val) := by
  obtain ⟨ad, c, e, _, hK, hc0⟩ := Kd.C_get h zEv i (by omega) (by have := h.1; omega)
  have e1 : xs.getD (i : Int).toNat zEv = xs[i] := by simp [h1]
  rw [e1] at hK
  obtain rfl := kEv_open hK
  have hc : ∀ j u, [Value.int .i64 xs[i].kind, .int .i64 xs[i].tx, .int .i64 xs[i].var, .int .i64 xs[i].val][j]? = some u → w.cell? (ad.add (i * 4 + j)) = some u := hc0
  exact ⟨ad, xs[i], e, ⟨List.getElem?_eq_getElem h1⟩, hc 0 _ rfl, by rw [← add_field _ _ 1 (by omega)]; exact hc 1 _ rfl, by rw [← add_field _ _ 2 (by omega)]; exact hc 2 _ rfl, by rw [← add_field _ _ 3 (by omega)]; exact hc 3 _ rfl⟩
/-! #### Op -/
def kOp : Kd Op := Kd.iso (Kd.pair Kd.bool (Kd.pair (Kd.int .i64) (Kd.int .i64))) (fun x : Op => (x.write, x.var, x.val))
def zOp : Op := ⟨false, 0, 0⟩
theorem kOp_open {w : World} {x : Op} {cs : List Value} (h : kOp.K w x cs) : cs = [.bool x.write, .int .i64 x.var, .int .i64 x.val] := by
  obtain ⟨_, _, rfl, rfl, ⟨_, _, rfl, rfl, rfl⟩⟩ := h
  exact rfl
theorem kOp_mk (w : World) (x : Op)  : kOp.K w x [.bool x.write, .int .i64 x.var, .int .i64 x.val] := ⟨[.bool x.write], [.int .i64 x.var, .int .i64 x.val], rfl, rfl, ⟨[.int .i64 x.var], [.int .i64 x.val], rfl, rfl, rfl⟩⟩
theorem kOp_mkM (w : World) (base : Nat) (ok : Nat → Prop) (x : Op)  : kOp.M w base ok x [.bool x.write, .int .i64 x.var, .int .i64 x.val] := ⟨[.bool x.write], [.int .i64 x.var, .int .i64 x.val], rfl, rfl, ⟨[.int .i64 x.var], [.int .i64 x.val], rfl, rfl, rfl⟩⟩
theorem get_Op {w : World} {A : Option Addr} {n : Nat} {xs : List Op} (h : Kd.C kOp w A n xs) (i : Nat) (h1 : i < xs.length) : ∃ ad x , A = some ad ∧ Aside0 (xs[i]? = some x) ∧ w.cell? (ad.add (i * 3)) = some (.bool x.write) ∧ w.cell? ⟨(ad.add (i * 3)).block, (ad.add (i * 3)).off + 1, none⟩ = some (.int .i64 x.var) ∧ w.cell? ⟨(ad.add (i * 3)).block, (ad.add (i * 3)).off + 2, none⟩ = some (.int .i64 x.val) := by
  obtain ⟨ad, c, e, _, hK, hc0⟩ := Kd.C_get h zOp i (by omega) (by have := h.1; omega)
  have e1 : xs.getD (i : Int).toNat zOp = xs[i] := by simp [h1]
  rw [e1] at hK
  obtain rfl := kOp_open hK
  have hc : ∀ j u, [Value.bool xs[i].write, .int .i64 xs[i].var, .int .i64 xs[i].val][j]? = some u → w.cell? (ad.add (i * 3 + j)) = some u := hc0
  exact ⟨ad, xs[i], e, ⟨List.getElem?_eq_getElem h1⟩, hc 0 _ rfl, by rw [← add_field _ _ 1 (by omega)]; exact hc 1 _ rfl, by rw [← add_field _ _ 2 (by omega)]; exact hc 2 _ rfl⟩
/-! #### Txn -/
def kTxn : Kd Txn := Kd.iso (Kd.pair (Kd.int .i64) (Kd.pair (Kd.int .i64) (Kd.pair (Kd.int .i64) (Kd.pair (Kd.int .i64) (Kd.slice 122 kOp))))) (fun x : Txn => (x.name, x.first, x.last, x.state, x.ops))
theorem kTxn_open {w : World} {x : Txn} {cs : List Value} (h : kTxn.K w x cs) : ∃ A4 c4, cs = [.int .i64 x.name, .int .i64 x.first, .int .i64 x.last, .int .i64 x.state, .slice A4 x.ops.length c4] ∧ Sl kOp w A4 c4 x.ops := by
  obtain ⟨_, _, rfl, rfl, ⟨_, _, rfl, rfl, ⟨_, _, rfl, rfl, ⟨_, _, rfl, rfl, ⟨A4, c4, rfl, l4, g4⟩⟩⟩⟩⟩ := h
  exact ⟨A4, c4, rfl, ⟨l4, g4⟩⟩
theorem kTxn_mk (w : World) (x : Txn) {A4 : Option Addr} {c4 : Nat} (s4 : Sl kOp w A4 c4 x.ops) : kTxn.K w x [.int .i64 x.name, .int .i64 x.first, .int .i64 x.last, .int .i64 x.state, .slice A4 x.ops.length c4] := ⟨[.int .i64 x.name], [.int .i64 x.first, .int .i64 x.last, .int .i64 x.state, .slice A4 x.ops.length c4], rfl, rfl, ⟨[.int .i64 x.first], [.int .i64 x.last, .int .i64 x.state, .slice A4 x.ops.length c4], rfl, rfl, ⟨[.int .i64 x.last], [.int .i64 x.state, .slice A4 x.ops.length c4], rfl, rfl, ⟨[.int .i64 x.state], [.slice A4 x.ops.length c4], rfl, rfl, ⟨A4, c4, rfl, s4.1, s4.2⟩⟩⟩⟩⟩
theorem kTxn_mkM (w : World) (base : Nat) (ok : Nat → Prop) (x : Txn) {v4 : Value} (r4 : Kd.R kOp 122 w base ok v4 x.ops) : kTxn.M w base ok x [.int .i64 x.name, .int .i64 x.first, .int .i64 x.last, .int .i64 x.state, v4] := ⟨[.int .i64 x.name], [.int .i64 x.first, .int .i64 x.last, .int .i64 x.state, v4], rfl, rfl, ⟨[.int .i64 x.first], [.int .i64 x.last, .int .i64 x.state, v4], rfl, rfl, ⟨[.int .i64 x.last], [.int .i64 x.state, v4], rfl, rfl, ⟨[.int .i64 x.state], [v4], rfl, rfl, ⟨v4, rfl, r4⟩⟩⟩⟩⟩
theorem get_Txn {w : World} {A : Option Addr} {n : Nat} {xs : List Txn} (h : Kd.C kTxn w A n xs) (i : Nat) (h1 : i < xs.length) : ∃ ad x A4 c4, A = some ad ∧ Aside0 (xs[i]? = some x) ∧ w.cell? (ad.add (i * 5)) = some (.int .i64 x.name) ∧ w.cell? ⟨(ad.add (i * 5)).block, (ad.add (i * 5)).off + 1, none⟩ = some (.int .i64 x.first) ∧ w.cell? ⟨(ad.add (i * 5)).block, (ad.add (i * 5)).off + 2, none⟩ = some (.int .i64 x.last) ∧ w.cell? ⟨(ad.add (i * 5)).block, (ad.add (i * 5)).off + 3, none⟩ = some (.int .i64 x.state) ∧ w.cell? ⟨(ad.add (i * 5)).block, (ad.add (i * 5)).off + 4, none⟩ = some (.slice A4 x.ops.length c4) ∧ Aside0 (Sl kOp w A4 c4 x.ops) := by
  obtain ⟨ad, c, e, _, hK, hc0⟩ := Kd.C_get h zTxn i (by omega) (by have := h.1; omega)
  have e1 : xs.getD (i : Int).toNat zTxn = xs[i] := by simp [h1]
  rw [e1] at hK
  obtain ⟨A4, c4, rfl, s4⟩ := kTxn_open hK
  have hc : ∀ j u, [Value.int .i64 xs[i].name, .int .i64 xs[i].first, .int .i64 xs[i].last, .int .i64 xs[i].state, .slice A4 xs[i].ops.length c4][j]? = some u → w.cell? (ad.add (i * 5 + j)) = some u := hc0
  exact ⟨ad, xs[i], A4, c4, e, ⟨List.getElem?_eq_getElem h1⟩, hc 0 _ rfl, by rw [← add_field _ _ 1 (by omega)]; exact hc 1 _ rfl, by rw [← add_field _ _ 2 (by omega)]; exact hc 2 _ rfl, by rw [← add_field _ _ 3 (by omega)]; exact hc 3 _ rfl, by rw [← add_field _ _ 4 (by omega)]; exact hc 4 _ rfl, ⟨s4⟩⟩
/-! #### Found -/
def kFound : Kd Found := Kd.iso (Kd.pair (Kd.int .i64) (Kd.pair kU32 (Kd.pair (Kd.slice 3 (Kd.int .i64)) (Kd.int .i64)))) (fun x : Found => (x.verdict, x.commits, x.row, x.steps))
def zFound : Found := ⟨0, 0, [], 0⟩
theorem kFound_open {w : World} {x : Found} {cs : List Value} (h : kFound.K w x cs) : ∃ A2 c2, cs = [.int .i64 x.verdict, .int .u32 ↑(x.commits), .slice A2 x.row.length c2, .int .i64 x.steps] ∧ Sl (Kd.int .i64) w A2 c2 x.row := by
  obtain ⟨_, _, rfl, rfl, ⟨_, _, rfl, rfl, ⟨_, _, rfl, ⟨A2, c2, rfl, l2, g2⟩, rfl⟩⟩⟩ := h
  exact ⟨A2, c2, rfl, ⟨l2, g2⟩⟩
theorem kFound_mk (w : World) (x : Found) {A2 : Option Addr} {c2 : Nat} (s2 : Sl (Kd.int .i64) w A2 c2 x.row) : kFound.K w x [.int .i64 x.verdict, .int .u32 ↑(x.commits), .slice A2 x.row.length c2, .int .i64 x.steps] := ⟨[.int .i64 x.verdict], [.int .u32 ↑(x.commits), .slice A2 x.row.length c2, .int .i64 x.steps], rfl, rfl, ⟨[.int .u32 ↑(x.commits)], [.slice A2 x.row.length c2, .int .i64 x.steps], rfl, rfl, ⟨[.slice A2 x.row.length c2], [.int .i64 x.steps], rfl, ⟨A2, c2, rfl, s2.1, s2.2⟩, rfl⟩⟩⟩
theorem kFound_mkM (w : World) (base : Nat) (ok : Nat → Prop) (x : Found) {v2 : Value} (r2 : Kd.R (Kd.int .i64) 3 w base ok v2 x.row) : kFound.M w base ok x [.int .i64 x.verdict, .int .u32 ↑(x.commits), v2, .int .i64 x.steps] := ⟨[.int .i64 x.verdict], [.int .u32 ↑(x.commits), v2, .int .i64 x.steps], rfl, rfl, ⟨[.int .u32 ↑(x.commits)], [v2, .int .i64 x.steps], rfl, rfl, ⟨[v2], [.int .i64 x.steps], rfl, ⟨v2, rfl, r2⟩, rfl⟩⟩⟩
theorem get_Found {w : World} {A : Option Addr} {n : Nat} {xs : List Found} (h : Kd.C kFound w A n xs) (i : Nat) (h1 : i < xs.length) : ∃ ad x A2 c2, A = some ad ∧ Aside0 (xs[i]? = some x) ∧ w.cell? (ad.add (i * 4)) = some (.int .i64 x.verdict) ∧ w.cell? ⟨(ad.add (i * 4)).block, (ad.add (i * 4)).off + 1, none⟩ = some (.int .u32 ↑(x.commits)) ∧ w.cell? ⟨(ad.add (i * 4)).block, (ad.add (i * 4)).off + 2, none⟩ = some (.slice A2 x.row.length c2) ∧ w.cell? ⟨(ad.add (i * 4)).block, (ad.add (i * 4)).off + 3, none⟩ = some (.int .i64 x.steps) ∧ Aside0 (Sl (Kd.int .i64) w A2 c2 x.row) := by
  obtain ⟨ad, c, e, _, hK, hc0⟩ := Kd.C_get h zFound i (by omega) (by have := h.1; omega)
  have e1 : xs.getD (i : Int).toNat zFound = xs[i] := by simp [h1]
  rw [e1] at hK
  obtain ⟨A2, c2, rfl, s2⟩ := kFound_open hK
  have hc : ∀ j u, [Value.int .i64 xs[i].verdict, .int .u32 ↑(xs[i].commits), .slice A2 xs[i].row.length c2, .int .i64 xs[i].steps][j]? = some u → w.cell? (ad.add (i * 4 + j)) = some u := hc0
  exact ⟨ad, xs[i], A2, c2, e, ⟨List.getElem?_eq_getElem h1⟩, hc 0 _ rfl, by rw [← add_field _ _ 1 (by omega)]; exact hc 1 _ rfl, by rw [← add_field _ _ 2 (by omega)]; exact hc 2 _ rfl, by rw [← add_field _ _ 3 (by omega)]; exact hc 3 _ rfl, ⟨s2⟩⟩
/-! #### Checked -/
def kChecked : Kd Checked := Kd.iso (Kd.pair (Kd.int .i64) (Kd.pair (Kd.int .i64) (Kd.pair kU32 (Kd.pair (Kd.slice 3 (Kd.int .i64)) (Kd.int .i64))))) (fun x : Checked => (x.verdict, x.place, x.commits, x.row, x.steps))
def zChecked : Checked := ⟨0, 0, 0, [], 0⟩
theorem kChecked_open {w : World} {x : Checked} {cs : List Value} (h : kChecked.K w x cs) : ∃ A3 c3, cs = [.int .i64 x.verdict, .int .i64 x.place, .int .u32 ↑(x.commits), .slice A3 x.row.length c3, .int .i64 x.steps] ∧ Sl (Kd.int .i64) w A3 c3 x.row := by
  obtain ⟨_, _, rfl, rfl, ⟨_, _, rfl, rfl, ⟨_, _, rfl, rfl, ⟨_, _, rfl, ⟨A3, c3, rfl, l3, g3⟩, rfl⟩⟩⟩⟩ := h
  exact ⟨A3, c3, rfl, ⟨l3, g3⟩⟩
theorem kChecked_mk (w : World) (x : Checked) {A3 : Option Addr} {c3 : Nat} (s3 : Sl (Kd.int .i64) w A3 c3 x.row) : kChecked.K w x [.int .i64 x.verdict, .int .i64 x.place, .int .u32 ↑(x.commits), .slice A3 x.row.length c3, .int .i64 x.steps] := ⟨[.int .i64 x.verdict], [.int .i64 x.place, .int .u32 ↑(x.commits), .slice A3 x.row.length c3, .int .i64 x.steps], rfl, rfl, ⟨[.int .i64 x.place], [.int .u32 ↑(x.commits), .slice A3 x.row.length c3, .int .i64 x.steps], rfl, rfl, ⟨[.int .u32 ↑(x.commits)], [.slice A3 x.row.length c3, .int .i64 x.steps], rfl, rfl, ⟨[.slice A3 x.row.length c3], [.int .i64 x.steps], rfl, ⟨A3, c3, rfl, s3.1, s3.2⟩, rfl⟩⟩⟩⟩
theorem kChecked_mkM (w : World) (base : Nat) (ok : Nat → Prop) (x : Checked) {v3 : Value} (r3 : Kd.R (Kd.int .i64) 3 w base ok v3 x.row) : kChecked.M w base ok x [.int .i64 x.verdict, .int .i64 x.place, .int .u32 ↑(x.commits), v3, .int .i64 x.steps] := ⟨[.int .i64 x.verdict], [.int .i64 x.place, .int .u32 ↑(x.commits), v3, .int .i64 x.steps], rfl, rfl, ⟨[.int .i64 x.place], [.int .u32 ↑(x.commits), v3, .int .i64 x.steps], rfl, rfl, ⟨[.int .u32 ↑(x.commits)], [v3, .int .i64 x.steps], rfl, rfl, ⟨[v3], [.int .i64 x.steps], rfl, ⟨v3, rfl, r3⟩, rfl⟩⟩⟩⟩
theorem get_Checked {w : World} {A : Option Addr} {n : Nat} {xs : List Checked} (h : Kd.C kChecked w A n xs) (i : Nat) (h1 : i < xs.length) : ∃ ad x A3 c3, A = some ad ∧ Aside0 (xs[i]? = some x) ∧ w.cell? (ad.add (i * 5)) = some (.int .i64 x.verdict) ∧ w.cell? ⟨(ad.add (i * 5)).block, (ad.add (i * 5)).off + 1, none⟩ = some (.int .i64 x.place) ∧ w.cell? ⟨(ad.add (i * 5)).block, (ad.add (i * 5)).off + 2, none⟩ = some (.int .u32 ↑(x.commits)) ∧ w.cell? ⟨(ad.add (i * 5)).block, (ad.add (i * 5)).off + 3, none⟩ = some (.slice A3 x.row.length c3) ∧ w.cell? ⟨(ad.add (i * 5)).block, (ad.add (i * 5)).off + 4, none⟩ = some (.int .i64 x.steps) ∧ Aside0 (Sl (Kd.int .i64) w A3 c3 x.row) := by
  obtain ⟨ad, c, e, _, hK, hc0⟩ := Kd.C_get h zChecked i (by omega) (by have := h.1; omega)
  have e1 : xs.getD (i : Int).toNat zChecked = xs[i] := by simp [h1]
  rw [e1] at hK
  obtain ⟨A3, c3, rfl, s3⟩ := kChecked_open hK
  have hc : ∀ j u, [Value.int .i64 xs[i].verdict, .int .i64 xs[i].place, .int .u32 ↑(xs[i].commits), .slice A3 xs[i].row.length c3, .int .i64 xs[i].steps][j]? = some u → w.cell? (ad.add (i * 5 + j)) = some u := hc0
  exact ⟨ad, xs[i], A3, c3, e, ⟨List.getElem?_eq_getElem h1⟩, hc 0 _ rfl, by rw [← add_field _ _ 1 (by omega)]; exact hc 1 _ rfl, by rw [← add_field _ _ 2 (by omega)]; exact hc 2 _ rfl, by rw [← add_field _ _ 3 (by omega)]; exact hc 3 _ rfl, by rw [← add_field _ _ 4 (by omega)]; exact hc 4 _ rfl, ⟨s3⟩⟩
theorem get_int {w : World} {A : Option Addr} {n : Nat} {xs : List Int} (h : Kd.C (Kd.int .i64) w A n xs) (i : Nat) (h1 : i < xs.length) : ∃ ad x, A = some ad ∧ Aside0 (xs[i]? = some x) ∧ w.cell? (ad.add i) = some (.int .i64 x) := by
  obtain ⟨ad, c, e, _, hK, hc0⟩ := Kd.C_get h 0 i (by omega) (by have := h.1; omega)
  have e1 : xs.getD (i : Int).toNat 0 = xs[i] := by simp [h1]
  rw [e1] at hK
  obtain rfl := hK
  have hc : ∀ j u, [Value.int .i64 xs[i]][j]? = some u → w.cell? (ad.add (i * 1 + j)) = some u := hc0
  exact ⟨ad, xs[i], e, ⟨List.getElem?_eq_getElem h1⟩, by have := hc 0 _ rfl; rwa [Nat.mul_one, Nat.add_zero] at this⟩
theorem get_u32 {w : World} {A : Option Addr} {n : Nat} {xs : List Nat} (h : Kd.C kU32 w A n xs) (i : Nat) (h1 : i < xs.length) : ∃ ad x, A = some ad ∧ Aside0 (xs[i]? = some x) ∧ w.cell? (ad.add i) = some (.int .u32 ↑x) := by
  obtain ⟨ad, c, e, _, hK, hc0⟩ := Kd.C_get h 0 i (by omega) (by have := h.1; omega)
  have e1 : xs.getD (i : Int).toNat 0 = xs[i] := by simp [h1]
  rw [e1] at hK
  obtain rfl := hK
  have hc : ∀ j u, [Value.int .u32 ↑(xs[i])][j]? = some u → w.cell? (ad.add (i * 1 + j)) = some u := hc0
  exact ⟨ad, xs[i], e, ⟨List.getElem?_eq_getElem h1⟩, by have := hc 0 _ rfl; rwa [Nat.mul_one, Nat.add_zero] at this⟩
end Go.Proofs.YtnogalajfccioaaDoor
