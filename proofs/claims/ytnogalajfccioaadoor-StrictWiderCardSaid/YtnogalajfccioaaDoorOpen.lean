/- The data of a row, opened: what came in reads as a list of structs; the listed table of kinds. -/
import Derived.Test.YtnogalajfccioaaDoorText
import Derived.Test.YtnogalajfccioaaDoorRows
import Derived.ProofKit
import Derived.LaidMore
import Derived.Stop.Joined
import Derived.Deep.Slices
import Derived.OpenShut
namespace Go.Proofs.YtnogalajfccioaaDoor
open Go.ChangeShapes Go.WideShapes Go.ChangeAt Go.RowKit Go.Deep Go.Proofs.YtnogalajfccioaaDoorW.PrintWords
set_option linter.unusedVariables false
/-- Cells that can be read at a type read as the kind. -/
def Opens {α : Type} (d : Kd α) (t : TypeId) : Prop := ∀ {H : Type} {enc : TypeId × Value → H} {W : World} {sp : Nat → Bool} {held : Bool} {n : Nat} {cs : List Value} {x : DataW H × List MemPlace}, DataW.trod enc Tryd.prog W 0 sp held n t cs = some x → ∃ a, d.K W a cs
theorem opens_int {t : TypeId} {k : IntKind} (ht : Tryd.prog.underlying t = some (.int k)) : Opens (Kd.int k) t := fun h => by
  obtain ⟨n, rfl, _, _⟩ := DataW.trod_int ht h
  exact ⟨n, rfl⟩
theorem opens_row {α : Type} [Inhabited α] {d : Kd α} {t e : TypeId} (ht : Tryd.prog.underlying t = some (.slice e)) (hs : Tryd.prog.cellsOf e = d.sz) (ho : Opens d e) {H : Type} {enc : TypeId × Value → H} {W : World} {sp : Nat → Bool} {held : Bool}
    {n : Nat} {v : Value} {x : DataW H × List MemPlace} (h : DataW.trod enc Tryd.prog W 0 sp held n t [v] = some x) : ∃ xs, In d W v xs := by
  rcases open_slice ht h with ⟨e, _⟩ | ⟨a, len, cap, m, n', D, Pl, e, hb, hl, hm, hmm, hx, hi⟩
  · obtain rfl := (List.cons.inj e).1
    exact ⟨[], In.nil d W⟩
  · obtain rfl := (List.cons.inj e).1
    have hlm : len ≤ m := by rw [hmm]; split <;> omega
    obtain ⟨f, hf⟩ := choose_lt (p := fun i p => ∃ c, c.length = d.sz ∧ d.K W p c ∧ ∀ (k : Nat) (u : Value), c[k]? = some u → W.cell? (a.add (i * d.sz + k)) = some u) (n := len) (fun i h => by
      obtain ⟨cs, h1, h2⟩ := hi i (by omega)
      obtain ⟨p, hp⟩ := ho h2
      refine ⟨p, cs, d.K_len hp, hp, fun k u hk => ?_⟩
      obtain ⟨_, h3, h4⟩ := World.cells?_some h1
      have hk' : k < cs.length := by
        rcases Nat.lt_or_ge k cs.length with h | h
        · exact h
        · rw [List.getElem?_eq_none h] at hk; cases hk
      have := h4 k (by omega)
      rw [Deep.add_add, hs, hk] at this
      exact this)
    refine ⟨(List.range len).map f, some a, cap, by simp, by simpa using hl, ⟨rfl, ?_, fun h0 => ⟨a, rfl, fun j p hp => ?_⟩⟩⟩
    · simp only [List.length_map, List.length_range]
      exact Nat.le_trans hl (Nat.le_trans hm (by decide))
    · have hj : j < len := by
        rcases Nat.lt_or_ge j len with h | h
        · exact h
        · rw [List.getElem?_eq_none (by simpa using h)] at hp; cases hp
      rw [List.getElem?_eq_getElem (by simpa using hj)] at hp
      obtain rfl := Option.some.inj hp
      have := hf j hj
      simpa using this
instance : Inhabited Ev := ⟨zEv⟩
theorem drop_take_one {cs : List Value} {i : Nat} {a : Value} (h : (cs.drop i).take 1 = [a]) : cs[i]? = some a := by
  have := congrArg (·[0]?) h
  simpa [List.getElem?_take, List.getElem?_drop] using this
theorem four_of {α : Type} {cs : List α} {a b c d : α} (hl : cs.length = 4) (h0 : cs[0]? = some a) (h1 : cs[1]? = some b) (h2 : cs[2]? = some c) (h3 : cs[3]? = some d) : cs = [a, b, c, d] := by
  match cs, hl with
  | [_, _, _, _], _ => simp_all
theorem three_of {α : Type} {cs : List α} {a b c : α} (hl : cs.length = 3) (h0 : cs[0]? = some a) (h1 : cs[1]? = some b) (h2 : cs[2]? = some c) : cs = [a, b, c] := by
  match cs, hl with
  | [_, _, _], _ => simp_all
theorem three_is {α : Type} {cs : List α} (hl : cs.length = 3) : ∃ a b c, cs = [a, b, c] := by
  match cs, hl with
  | [a, b, c], _ => exact ⟨a, b, c, rfl⟩
theorem cellsInt : Tryd.prog.cellsOf 3 = 1 := by kernel_rfl
theorem cellsBool : Tryd.prog.cellsOf 4 = 1 := by kernel_rfl
theorem cellsString : Tryd.prog.cellsOf 9 = 1 := by kernel_rfl
/-- Four cells that are whole numbers, at the fields of an event. -/
theorem opens_ev : Opens kEv 49 := fun {H enc W sp held n cs x} h => by
  obtain ⟨xs, n, rfl, _, hl, hxl, hall⟩ := DataW.trod_struct Tryd.underlying49 h
  have hl4 : cs.length = 4 := hl.trans (by kernel_rfl)
  have hxl4 : xs.length = 4 := hxl
  have hf : ∀ i, i < 4 → ∃ z, cs[i]? = some (.int .i64 z) := fun i hi => by
    have hx : xs[i]? = some xs[i] := List.getElem?_eq_getElem (by omega)
    have key : DataW.trod enc Tryd.prog W 0 sp held n 3 ((cs.drop i).take 1) = some xs[i] := by
      rw [← hx, ← cellsInt]
      rcases i with _ | _ | _ | _ | i
      · exact hall 0 _ rfl
      · exact hall 1 _ rfl
      · exact hall 2 _ rfl
      · exact hall 3 _ rfl
      · omega
    obtain ⟨z, hz, _, _⟩ := DataW.trod_int Tryd.underlying3 key
    exact ⟨z, drop_take_one hz⟩
  obtain ⟨z0, h0⟩ := hf 0 (by omega)
  obtain ⟨z1, h1⟩ := hf 1 (by omega)
  obtain ⟨z2, h2⟩ := hf 2 (by omega)
  obtain ⟨z3, h3⟩ := hf 3 (by omega)
  rw [four_of hl4 h0 h1 h2 h3]
  exact ⟨⟨z0, z1, z2, z3⟩, kEv_mk W ⟨z0, z1, z2, z3⟩⟩
theorem opens_evs {H : Type} {enc : TypeId × Value → H} {W : World} {sp : Nat → Bool} {held : Bool} {n : Nat} {v : Value} {x : DataW H × List MemPlace} (h : DataW.trod enc Tryd.prog W 0 sp held n 22 [v] = some x) : ∃ xs, In kEv W v xs :=
  opens_row Tryd.underlying22 (by kernel_rfl) opens_ev h
theorem kind_row {W : World} {fuel : Nat} {cs : List Value} {s : List UInt8} {a b : Bool} {q : List MemPlace}
    (h : DataW.trod (fun _ => ()) Tryd.prog W 0 (fun _ => true) false fuel 179 cs = some (.agg [.lit (.string s), .lit (.bool a), .lit (.bool b)], q)) :
    ∃ t : ByteArray, cs = [.string t, .bool a, .bool b] := by
  obtain ⟨xs, n, rfl, hx, hl, hxl, hall⟩ := DataW.trod_struct Tryd.underlying179 h
  have hl3 : cs.length = 3 := hl.trans (by kernel_rfl)
  have hxl3 : xs.length = 3 := hxl
  obtain ⟨x0, x1, x2, rfl⟩ := three_is hxl3
  · clear hxl hxl3
    have f0 : DataW.trod (fun _ => ()) Tryd.prog W 0 (fun _ => true) false n 9 ((cs.drop 0).take (Tryd.prog.cellsOf 9)) = some x0 := hall 0 _ rfl
    rw [cellsString] at f0
    have f1 : DataW.trod (fun _ => ()) Tryd.prog W 0 (fun _ => true) false n 4 ((cs.drop 1).take (Tryd.prog.cellsOf 4)) = some x1 := hall 1 _ rfl
    rw [cellsBool] at f1
    have f2 : DataW.trod (fun _ => ()) Tryd.prog W 0 (fun _ => true) false n 4 ((cs.drop 2).take (Tryd.prog.cellsOf 4)) = some x2 := hall 2 _ rfl
    rw [cellsBool] at f2
    obtain ⟨t, e0, _, _⟩ := DataW.trod_string Tryd.underlying9 f0
    obtain ⟨b1, e1, g1⟩ := DataW.trod_bool Tryd.underlying4 f1
    obtain ⟨b2, e2, g2⟩ := DataW.trod_bool Tryd.underlying4 f2
    subst g1 g2
    have hx1 := congrArg Prod.fst hx
    simp only [List.map_cons, List.map_nil, DataW.agg.injEq, List.cons.injEq, DataW.lit.injEq, Lit.bool.injEq, and_true] at hx1
    obtain ⟨_, rfl, rfl⟩ := hx1
    have z0 := drop_take_one e0
    have z1 := drop_take_one e1
    have z2 := drop_take_one e2
    exact ⟨t, three_of hl3 z0 z1 z2⟩
theorem gKinds : Tryd.prog.globalNamed "recant/text.kinds" = some 0 := by kernel_rfl
theorem tKinds : (Tryd.prog.globals[0]?).map (·.type) = some 180 := by kernel_rfl
theorem cellsKind : Tryd.prog.cellsOf 179 = 3 := by kernel_rfl
/-- What the listed variable reads as: the table of kinds. -/
theorem kinds_of_laid {W : World} {l : List (String × DataW Unit)} (h : laidMet Tryd.prog (("recant/text.kinds", Rows.laid_recant_text_kinds) :: l) W) : Kinds W := by
  obtain ⟨_, ⟨g, t, cs, fuel, p, q, e1, e2, e3, e4, _, _⟩, _⟩ := h
  obtain rfl := Option.some.inj (gKinds.symm.trans e1)
  obtain rfl := Option.some.inj (tKinds.symm.trans e2)
  have hcell := World.var?_cell e1 e3
  obtain ⟨xs, n, rfl, hx, hl, hxl, hall⟩ := DataW.trod_array Tryd.underlying180 e4
  have hrow : ∀ (k : Nat) (s : List UInt8) (a b : Bool), (xs.map (·.1))[k]? = some (.agg [.lit (.string s), .lit (.bool a), .lit (.bool b)]) → k < 10 →
      ∃ t : ByteArray, W.cell? ⟨0, k * 3, none⟩ = some (.string t) ∧ W.cell? ⟨0, k * 3 + 1, none⟩ = some (.bool a) ∧ W.cell? ⟨0, k * 3 + 2, none⟩ = some (.bool b) := by
    intro k s a b hk hlt
    have h1 := hall k hlt
    obtain ⟨x, hx2, hx3⟩ := Option.map_eq_some_iff.1 ((List.getElem?_map ..).symm.trans hk)
    rw [hx2, cellsKind] at h1
    obtain ⟨d, q'⟩ := x
    subst hx3
    obtain ⟨t, ht⟩ := kind_row h1
    have hget : ∀ j, j < 3 → cs[k * 3 + j]? = [Value.string t, .bool a, .bool b][j]? := fun j hj => by
      rw [← ht, List.getElem?_take, if_pos hj, List.getElem?_drop]
      exact Array.getElem?_toList.symm
    refine ⟨t, ?_, ?_, ?_⟩
    · rw [hcell]; exact hget 0 (by omega)
    · rw [hcell]; exact hget 1 (by omega)
    · rw [hcell]; exact hget 2 (by omega)
  have hx1 : Rows.laid_recant_text_kinds = .agg (xs.map (·.1)) := congrArg Prod.fst hx
  unfold Rows.laid_recant_text_kinds at hx1
  have hxs := (DataW.agg.inj hx1).symm
  rw [hxs] at hrow
  intro k h0 h9
  obtain ⟨k, rfl⟩ := Int.eq_ofNat_of_zero_le h0
  have hk : k < 10 := by omega
  unfold KindAt
  rcases k with _ | _ | _ | _ | _ | _ | _ | _ | _ | _ | k
  · exact hrow 0 _ _ _ rfl hk
  · exact hrow 1 _ _ _ rfl hk
  · exact hrow 2 _ _ _ rfl hk
  · exact hrow 3 _ _ _ rfl hk
  · exact hrow 4 _ _ _ rfl hk
  · exact hrow 5 _ _ _ rfl hk
  · exact hrow 6 _ _ _ rfl hk
  · exact hrow 7 _ _ _ rfl hk
  · exact hrow 8 _ _ _ rfl hk
  · exact hrow 9 _ _ _ rfl hk
  · omega
end Go.Proofs.YtnogalajfccioaaDoor
