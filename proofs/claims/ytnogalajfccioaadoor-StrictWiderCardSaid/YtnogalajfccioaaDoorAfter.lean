/- Layer 7 (order): after, After, Keeps. -/
import Derived.Test.YtnogalajfccioaaDoorOrder
import Derived.RangeFuncKeeps
import Derived.RangeFuncWrites
namespace Go.Proofs.YtnogalajfccioaaDoor
open Go.RowKit Go.Shelf Go.Proofs.YtnogalajfccioaaDoorW.PrintWords
attribute [local go_sem] Oper.semAt_some
/-- What 'after' has told, some pairs having come. -/
def midA (l : List Txn) (pre : List (Fin (l.length * l.length))) : List Nat := (List.range l.length).map fun i => mask l.length fun k => before l i k && pre.any (fun x => x.1 == i * l.length + k)
theorem midA_len (l : List Txn) (pre) : (midA l pre).length = l.length := by simp [midA]
theorem mask_false (n : Nat) : mask n (fun _ => false) = 0 := by
  apply Nat.eq_of_testBit_eq
  intro k
  simp [mask_bit]
theorem midA_nil (l : List Txn) : midA l [] = List.replicate l.length 0 := by
  apply List.ext_getElem (by simp [midA])
  intro j h1 h2
  simp [midA, mask_false]
theorem midA_all (l : List Txn) : midA l (List.finRange (l.length * l.length)) = after l := by
  apply List.ext_getElem (by simp [midA, after])
  intro j h1 h2
  have hj : j < l.length := by simpa [midA] using h1
  simp only [midA, after, List.getElem_map, List.getElem_range]
  apply mask_congr
  intro k hk
  have : j * l.length + k < l.length * l.length := by have := Nat.mul_le_mul_right l.length (Nat.succ_le_of_lt hj); rw [Nat.succ_mul] at this; omega
  have : (List.finRange (l.length * l.length)).any (fun x => x.1 == j * l.length + k) = true := by
    rw [List.any_eq_true]
    exact ⟨⟨_, this⟩, List.mem_finRange _, by simp⟩
  rw [this, Bool.and_true]
theorem midA_step (l : List Txn) (pre) (x : Fin (l.length * l.length)) (hi : x.1 / l.length < l.length) (hk : x.1 % l.length < l.length) :
    midA l (pre ++ [x]) = if before l (x.1 / l.length) (x.1 % l.length) then (midA l pre).set (x.1 / l.length) ((midA l pre).getD (x.1 / l.length) 0 ||| 2 ^ (x.1 % l.length)) else midA l pre := by
  have hx : ∀ j k, k < l.length → (x.1 = j * l.length + k ↔ j = x.1 / l.length ∧ k = x.1 % l.length) := by
    intro j k hk
    constructor
    · intro e
      rw [e, Nat.mul_comm, Nat.mul_add_div (by omega), Nat.div_eq_of_lt hk, Nat.mul_add_mod, Nat.mod_eq_of_lt hk]
      exact ⟨rfl, rfl⟩
    · rintro ⟨rfl, rfl⟩
      have := Nat.div_add_mod x.1 l.length
      rw [Nat.mul_comm] at this
      exact this.symm
  apply List.ext_getElem?
  intro j
  by_cases hj : j < l.length
  · have e1 : (midA l (pre ++ [x]))[j]? = some (mask l.length fun k => before l j k && (pre ++ [x]).any (fun x => x.1 == j * l.length + k)) := by simp [midA, hj]
    have e2 : ∀ j, j < l.length → (midA l pre)[j]? = some (mask l.length fun k => before l j k && pre.any (fun x => x.1 == j * l.length + k)) := fun j hj => by simp [midA, hj]
    rw [e1]
    by_cases hij : x.1 / l.length = j
    · subst hij
      split
      · rename_i hb
        rw [List.getElem?_set_self (by rw [midA_len]; exact hi), List.getD_eq_getElem?_getD, e2 _ hi]
        congr 1
        apply Nat.eq_of_testBit_eq
        intro k
        simp only [Option.getD_some, mask_bit, Nat.testBit_or, Nat.testBit_two_pow, List.any_append, List.any_cons, List.any_nil, Bool.or_false]
        by_cases hkl : k < l.length
        · by_cases hkx : x.1 % l.length = k
          · subst hkx
            have := (hx (x.1 / l.length) _ hk).2 ⟨rfl, rfl⟩
            simp [hk, hb, ← this]
          · have : (x.1 == x.1 / l.length * l.length + k) = false := beq_eq_false_iff_ne.2 fun e => hkx ((hx _ _ hkl).1 e).2.symm
            simp only [this, hkl, hkx, decide_true, decide_false, Bool.true_and, Bool.or_false]
        · have : ¬ x.1 % l.length = k := by omega
          simp [hkl, this]
      · rename_i hb
        rw [e2 _ hi]
        congr 1
        apply mask_congr
        intro k hkl
        by_cases hkx : x.1 % l.length = k
        · subst hkx
          simp [hb]
        · have : (x.1 == x.1 / l.length * l.length + k) = false := beq_eq_false_iff_ne.2 fun e => hkx ((hx _ _ hkl).1 e).2.symm
          simp only [this, List.any_append, List.any_cons, List.any_nil, Bool.or_false]
    · have e3 : (if before l (x.1 / l.length) (x.1 % l.length) then (midA l pre).set (x.1 / l.length) ((midA l pre).getD (x.1 / l.length) 0 ||| 2 ^ (x.1 % l.length)) else midA l pre)[j]? = (midA l pre)[j]? := by
        split
        · rw [List.getElem?_set_ne hij]
        · rfl
      rw [e3, e2 _ hj]
      congr 1
      apply mask_congr
      intro k hkl
      have : (x.1 == j * l.length + k) = false := beq_eq_false_iff_ne.2 fun e => hij ((hx _ _ hkl).1 e).1.symm
      simp only [this, List.any_append, List.any_cons, List.any_nil, Bool.or_false]
  · rw [List.getElem?_eq_none (by rw [midA_len]; omega)]
    rw [List.getElem?_eq_none]
    split
    · rw [List.length_set, midA_len]; omega
    · rw [midA_len]; omega
/-- A call whose result is a slice made since. -/
def RetR {α : Type} (d : Kd α) (e : Nat) (w0 w : World) (xs : List α) (en : Ending) : Prop := ∃ v, en = .returned v ∧ Own d e w0 w v xs
end Go.Proofs.YtnogalajfccioaaDoor
