/- Maps by their entries: what a lookup answers and what a store leaves, for any kind of key with a law. -/
import Derived.Test.YtnogalajfccioaaDoorKit
import Derived.MapKept
import Derived.RangeFuncRecord
namespace Go.Proofs.YtnogalajfccioaaDoor
open Go.RowKit Go.Proofs.YtnogalajfccioaaDoorW.PrintWords Go.MapKept
/-- What the machine does with keys of a kind. -/
structure KeyLaw {κ : Type} [DecidableEq κ] (P : Program) (kt : TypeId) (enc : κ → Value) : Prop where
  check : ∀ b k (w : World), (Instr.checkKey b 10000 kt (enc k)).run P w = .ok () w
  find : ∀ k (es : List MapEntry) (l : List (κ × Value)) (w : World), es.map (fun e => (e.key, e.val)) = l.map (fun x => (enc x.1, x.2)) →
    (Instr.findKey kt (enc k) es).run P w = .ok ((l.findIdx? (fun x => x.1 == k)).bind fun i => (l[i]?).map fun x => (i, x.2)) w
  same : ∀ k, Instr.sameBits 10000 (enc k) (enc k) = true
theorem findNow_int (k : Int) : ∀ (es : List MapEntry) (l : List (Int × Value)) (i : Nat), es.map (fun e => (e.key, e.val)) = l.map (fun x => (Value.int .i64 x.1, x.2)) →
    Instr.findNow (.int .i64) (.int .i64 k) es i = some ((l.findIdx? (fun x => x.1 == k)).bind fun j => (l[j]?).map fun x => (i + j, x.2))
  | [], l, i, h => by
    cases l with
    | nil => rfl
    | cons => simp at h
  | e :: es, l, i, h => by
    cases l with
    | nil => simp at h
    | cons x l =>
      simp only [List.map_cons, List.cons.injEq, Prod.mk.injEq] at h
      obtain ⟨⟨hk, hv⟩, ht⟩ := h
      have ih := findNow_int k es l (i + 1) ht
      unfold Instr.findNow
      rw [hk]
      simp only [Instr.sameNow, if_true]
      by_cases hx : x.1 = k
      · subst hx
        simp [hv, List.findIdx?_cons]
      · have h1 : (k == x.1) = false := by simpa using fun h => hx h.symm
        have h2 : (x.1 == k) = false := by simpa using hx
        rw [h1]
        simp only [ih, List.findIdx?_cons, h2, Bool.false_eq_true, if_false]
        cases l.findIdx? (fun x => x.1 == k) with
        | none => rfl
        | some j =>
          simp only [Option.map_some, Option.bind_some, List.getElem?_cons_succ]
          cases l[j]? with
          | none => rfl
          | some y => simp; omega
theorem intKeys {P : Program} {kt : TypeId} (hd : P.underlying kt = some (.int .i64)) : KeyLaw P kt (Value.int .i64) where
  check b k w := run_checkKey hd (by simp [IsKey]) b 9999
  find k es l w h := run_findKey hd (by rw [findNow_int k es l 0 h]; simp)
  same k := by simp [Instr.sameBits]
section
variable {κ : Type} [DecidableEq κ]
/-- A block is a map that answers so. -/
def MapF (enc : κ → Value) (w : World) (r : Nat) (f : κ → Option Value) : Prop :=
  ∃ es clock, ∃ l : List (κ × Value), w.heap[r]? = some (.map es clock) ∧ es.toList.map (fun e => (e.key, e.val)) = l.map (fun x => (enc x.1, x.2)) ∧ ∀ k, l.lookup k = f k
theorem MapF.empty (enc : κ → Value) {w : World} {r : Nat} (h : w.heap[r]? = some (.map #[] 0)) : MapF enc w r (fun _ => none) := ⟨#[], 0, [], h, rfl, fun _ => rfl⟩
theorem MapF.lt {enc : κ → Value} {w : World} {r : Nat} {f : κ → Option Value} (h : MapF enc w r f) : r < w.heap.size := by
  obtain ⟨_, _, _, h, _⟩ := h
  exact (Array.getElem?_eq_some_iff.1 h).1
theorem MapF.move {enc : κ → Value} {w w1 : World} {r : Nat} {f : κ → Option Value} (h : MapF enc w r f) (hm : w1.heap[r]? = w.heap[r]?) : MapF enc w1 r f := by
  obtain ⟨es, c, l, h, r⟩ := h
  exact ⟨es, c, l, hm.trans h, r⟩
theorem MapF.below {enc : κ → Value} {w w1 : World} {r : Nat} {f : κ → Option Value} (h : MapF enc w r f) (hb : Below w.heap.size w w1) : MapF enc w1 r f := h.move (hb.block r h.lt)
theorem MapF.grown {enc : κ → Value} {w w1 : World} {r : Nat} {row : Option Nat} {f : κ → Option Value} (h : MapF enc w r f) (hg : w.grownBy w1 row) (hne : some r ≠ row) : MapF enc w1 r f := h.move (hg.block r h.lt hne)
theorem lookup_eq (l : List (κ × Value)) (k : κ) : l.lookup k = (l.findIdx? (fun x => x.1 == k)).bind fun i => (l[i]?).map fun x => x.2 := by
  induction l with
  | nil => rfl
  | cons x l ih =>
    rw [List.findIdx?_cons]
    by_cases h : x.1 = k
    · subst h; simp [List.lookup]
    · have h1 : (k == x.1) = false := by simpa using fun e => h e.symm
      have h2 : (x.1 == k) = false := by simpa using h
      simp only [List.lookup, h1, h2, ih]
      cases l.findIdx? (fun x => x.1 == k) <;> rfl
theorem run_lookup_F {P : Program} {kt et : TypeId} {enc : κ → Value} (K : KeyLaw P kt enc) {T : TypeId} (hT : P.underlying T = some (.map kt et)) {z : Value} (hz : ∀ w, (zeroValue et).run P w = .ok z w)
    {w : World} {r : Nat} {f : κ → Option Value} (h : MapF enc w r f) (k : κ) (b : Bool) :
    (Instr.lookup T (.map (some r)) (enc k) b).run P w = .ok (if b then .tuple #[(f k).getD z, .bool (f k).isSome] else (f k).getD z) w := by
  obtain ⟨es, c, l, hb, hl, hf⟩ := h
  unfold Instr.lookup
  simp only [Sem.run_bind, run_underlying hT, Result.andThen, Go.MapKept.run_getObj_map hb, Sem.run_pure, K.check, K.find k _ _ _ hl]
  rw [← hf k, lookup_eq]
  cases h1 : l.findIdx? (fun x => x.1 == k) with
  | none => cases b <;> simp [hz, Result.andThen]
  | some i =>
    have hi : i < l.length := by
      rw [List.findIdx?_eq_some_iff_getElem] at h1
      exact h1.1
    cases b <;> simp [List.getElem?_eq_getElem hi]
theorem run_lookup_nil {P : Program} {kt et : TypeId} {enc : κ → Value} (K : KeyLaw P kt enc) {T : TypeId} (hT : P.underlying T = some (.map kt et)) {z : Value} (hz : ∀ w, (zeroValue et).run P w = .ok z w)
    (w : World) (k : κ) (b : Bool) : (Instr.lookup T (.map none) (enc k) b).run P w = .ok (if b then .tuple #[z, .bool false] else z) w := by
  unfold Instr.lookup
  simp only [Sem.run_bind, run_underlying hT, Result.andThen, Sem.run_pure, K.check, K.find k [] [] _ rfl]
  cases b <;> simp [hz, Result.andThen]
def putF (f : κ → Option Value) (k : κ) (v : Value) : κ → Option Value := fun x => if x = k then some v else f x
theorem run_update_F {P : Program} {kt et : TypeId} {enc : κ → Value} (K : KeyLaw P kt enc) {T : TypeId} (hT : P.underlying T = some (.map kt et))
    {w : World} {r : Nat} {f : κ → Option Value} (h : MapF enc w r f) (k : κ) (v : Value) :
    ∃ o, (Instr.mapUpdate T (.map (some r)) (enc k) v).run P w = .ok () (w.putObj r o) ∧ MapF enc (w.putObj r o) r (putF f k v) := by
  obtain ⟨es, c, l, hb, hl, hf⟩ := h
  have hlt : r < w.heap.size := (Array.getElem?_eq_some_iff.1 hb).1
  unfold Instr.mapUpdate
  simp only [Sem.run_bind, run_underlying hT, Result.andThen, Go.MapKept.run_getObj_map hb, K.check, K.find k _ _ _ hl]
  cases h1 : l.findIdx? (fun x => x.1 == k) with
  | none =>
    refine ⟨.map (es.push ⟨enc k, v, c⟩) (c + 1), ?_, es.push ⟨enc k, v, c⟩, c + 1, l ++ [(k, v)], World.putObj_heap_same hlt, ?_, fun x => ?_⟩
    · simp [Go.MapKept.run_setObj_map _ hb, World.putObj]
    · simp [hl]
    · rw [List.findIdx?_eq_none_iff] at h1
      rw [List.lookup_append, hf x]
      unfold putF
      by_cases hx : x = k
      · subst hx
        have : l.lookup x = none := by
          rw [lookup_eq, List.findIdx?_eq_none_iff.2 h1]; rfl
        rw [← hf x, this]
        simp
      · have : (x == k) = false := by simpa using hx
        simp only [List.lookup, this, if_neg hx]
        cases f x <;> rfl
  | some i =>
    have hi := List.findIdx?_eq_some_iff_getElem.1 h1
    obtain ⟨hil, hik, hbefore⟩ := hi
    have hik : l[i].1 = k := by simpa using hik
    have hes : i < es.size := by
      have := congrArg List.length hl
      simp at this; omega
    have hkey : es[i].key = enc k := by
      have h2 := congrArg (fun m => m[i]?) hl
      simp [List.getElem?_eq_getElem hil, Array.getElem?_eq_getElem hes] at h2
      rw [h2.1, hik]
    refine ⟨.map (es.modify i fun e => { e with key := enc k, val := v }) c, ?_, es.modify i fun e => { e with key := enc k, val := v }, c, l.set i (k, v), World.putObj_heap_same hlt, ?_, fun x => ?_⟩
    · simp [List.getElem?_eq_getElem hil, Array.getElem?_eq_getElem hes, hkey, Instr.keyThatStays, K.same, Go.MapKept.run_setObj_map _ hb, World.putObj]
    · apply List.ext_getElem?
      intro j
      have h2 := congrArg (fun m => m[j]?) hl
      simp only [List.getElem?_map, Array.getElem?_toList] at h2 ⊢
      by_cases hj : j = i
      · subst hj
        simp [Array.getElem?_modify, hil, Array.getElem?_eq_getElem hes]
      · rw [Array.getElem?_modify, List.getElem?_set]
        simp only [Ne.symm hj, if_false]
        exact h2
    · unfold putF
      have hg : ∀ (l : List (κ × Value)) (i : Nat) (hi : i < l.length), l[i].1 = k → (∀ j (hj : j < i), ¬ (l[j].1 == k) = true) → ∀ x, (l.set i (k, v)).lookup x = if x = k then some v else l.lookup x := by
        intro l
        induction l with
        | nil => intro i hi; simp at hi
        | cons y l ih =>
          intro i hi hk hb x
          cases i with
          | zero =>
            have hk : y.1 = k := hk
            subst hk
            by_cases hx : x = y.1
            · subst hx; simp
            · have : (x == y.1) = false := by simpa using hx
              simp [List.lookup, this, hx]
          | succ i =>
            have hy : y.1 ≠ k := by
              have := hb 0 (by omega); simpa using this
            rw [List.set_cons_succ]
            by_cases hx : x = y.1
            · subst hx
              simp [List.lookup, hy]
            · have : (x == y.1) = false := by simpa using hx
              simp only [List.lookup, this]
              exact ih i (by simpa using hi) (by simpa using hk) (fun j hj => by have := hb (j + 1) (by omega); simpa using this) x
      have := hg l i hil hik (fun j hj => hbefore j hj) x
      rw [this, hf x]
end
section
variable {P : Program} {ops : Array Oper} {rest : List Oper} {o : Oper} {a : Act} {Q : Exit → Act → World → Prop}
theorem event_skip {W w1 : World} (hgd : o.guard = none) (hrun : (execOp a.eval o).run P W = .ok .skip w1) (h : wpList P ops Q rest (a.put o.dst undef) w1) : wpList P ops Q (o :: rest) a W := by
  refine wpList_plain hgd fun K hK => ?_
  unfold Oper.wp
  rw [hrun]
  exact hK _ _ h
/-- A store into a map, or an element of a map's literal. -/
theorem wpList_put {κ : Type} [DecidableEq κ] {kt et : TypeId} {enc : κ → Value} (K : KeyLaw P kt enc) {T : TypeId} (hT : P.underlying T = some (.map kt et)) {W : World} {r : Nat} {f : κ → Option Value} (hm : MapF enc W r f)
    (hgd : o.guard = none) (m k x : Operand) (ho : o.op = .mapUpdate T m k x ∨ o.op = .insert T m k x) (hmv : a.eval m = .map (some r)) (n : κ) (hk : a.eval k = enc n) (v : Value) (hx : a.eval x = v)
    (h : ∀ w1, MapF enc w1 r (putF f n v) → W.grownBy w1 (some r) → w1.heap.size = W.heap.size → wpList P ops Q rest (a.put o.dst undef) w1) : wpList P ops Q (o :: rest) a W := by
  obtain ⟨ob, hrun, hf⟩ := run_update_F K hT hm n v
  refine event_skip hgd (w1 := W.putObj r ob) ?_ (h _ hf ⟨rfl, rfl, rfl, by simp, fun k _ hne => World.putObj_heap_other (fun e => hne (by rw [e]))⟩ (by simp))
  rcases ho with ho | ho <;> simp [execOp, ho, hmv, hk, hx, hrun, Result.andThen]
end
end Go.Proofs.YtnogalajfccioaaDoor
