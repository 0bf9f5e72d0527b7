/- Layer 7 (order): After. -/
import Derived.Test.YtnogalajfccioaaDoorAfter2
namespace Go.Proofs.YtnogalajfccioaaDoor
open Go.RowKit Go.Proofs.YtnogalajfccioaaDoorW.PrintWords
theorem namesOf_keepStep (l : List Keep) (i : Int) (e : Ev) : namesOf (keepStep l i e) = addName (namesOf l) e.tx := by
  cases hf : (namesOf l).findIdx? (· == e.tx) with
  | some j =>
    rw [keepStep_old hf]
    obtain ⟨hj, hp, _⟩ := List.findIdx?_eq_some_iff_getElem.1 hf
    have hc : (namesOf l).contains e.tx = true := by
      rw [List.contains_iff_mem]
      have : (namesOf l)[j] = e.tx := by simpa using hp
      exact this ▸ List.getElem_mem hj
    unfold addName
    rw [if_pos hc]
    unfold namesOf
    apply List.ext_getElem?
    intro n
    rw [List.getElem?_map, List.getElem?_modify, List.getElem?_map]
    cases l[n]? with
    | none => rfl
    | some k =>
      simp only [Option.map_eq_map, Option.map_some, Option.some.injEq]
      split <;> simp [Keep.take]
  | none =>
    have hc : (namesOf l).contains e.tx = false := by
      rw [List.findIdx?_eq_none_iff] at hf
      cases hc : (namesOf l).contains e.tx with
      | false => rfl
      | true =>
        rw [List.contains_iff_mem] at hc
        have := hf _ hc
        simp at this
    unfold addName
    rw [if_neg (by rw [hc]; decide)]
    unfold keepStep
    have : l.findIdx? (fun k => k.t.name == e.tx) = none := by rw [← hf, namesOf, List.findIdx?_map]; rfl
    rw [this]
    simp [namesOf, Keep.take, Keep.new]
theorem namesOf_keepF (h : List Ev) : ∀ (l : List Keep) (i : Int), namesOf (keepF l i h) = namesF (namesOf l) h := by
  induction h with
  | nil => intro l i; rfl
  | cons e h ih => intro l i; simp only [keepF, namesF]; rw [ih, namesOf_keepStep]
theorem table_names (h : List Ev) : (table h).map (·.name) = names h := by
  have := namesOf_keepF h [] 0
  unfold table names
  rw [List.map_map]
  exact this
theorem table_len {h : List Ev} (hw : why h = 0) : (table h).length ≤ 6 := by
  have e : (table h).length = (names h).length := by rw [← table_names, List.length_map]
  unfold why at hw
  split at hw
  · rename_i hr
    simp [RightB] at hr
    omega
  · cases hw
theorem tableOf_len (h : List Ev) : (tableOf h).length ≤ 6 := by
  unfold tableOf
  split
  · exact table_len (by assumption)
  · simp
/-- A pair whose first part is a slice made since. -/
def RetE {α : Type} (d : Kd α) (e : Nat) (w0 w : World) (xs : List α) (bad : Int) (en : Ending) : Prop := ∃ v, en = .returned (.tuple #[v, .int .i64 bad]) ∧ Own d e w0 w v xs
def afterOf (h : List Ev) : List Nat := if why h = 0 then after (table h) else []
set_option maxRecDepth 100000 in
set_option maxHeartbeats 1000000 in
theorem After_c (h : List Ev) (v : Value) (w : World) (hv : In kEv w v h) (hk : Kinds w) :
    Calls Tryd.prog 26 #[v] w fun e w' => RetE kU32 30 w w' (afterOf h) (why h) e ∧ Below w.heap.size w w' := by
  have ht := Aside0.mk (Table_c h v w hv hk)
  replace hv := Aside0.mk hv
  replace hk := Aside0.mk hk
  go_enter Tryd.func26, Tryd.ntmps26
  cases hw : (why h == 0) with
  | false =>
    have hw1 : why h ≠ 0 := by simpa using hw
    have hx := Aside0.mk (show afterOf h = [] by simp [afterOf, hw1])
    replace hw1 : (why h != 0) = true := by simpa using hw1
    go_wp2_with (go_at_call 11; refine ht.out.mono ?_; rintro e w1 ⟨⟨u, rfl, hO⟩, hb⟩)
    go_ret2
    exact ⟨⟨_, rfl, by rw [hx.out]; exact Own.nil _ _ _ _⟩, hb⟩
  | true =>
    have hw0 : why h = 0 := by simpa using hw
    have hx := Aside0.mk (show afterOf h = after (tableOf h) by simp [afterOf, tableOf, hw0])
    have hlen := Aside0.mk (tableOf_len h)
    rw [hw0] at ht ⊢
    clear hw
    replace hw0 := Aside0.mk hw0
    go_wp2_with first
      | (go_at_call 11; refine ht.out.mono ?_; clear ht; rintro e w1 ⟨⟨u, rfl, hO⟩, hb⟩; replace hO := Aside0.mk hO; replace hb := Aside0.mk hb)
      | (go_at_call 55; refine (after1_c (tableOf h) _ _ hO.out.inn (Nat.le_trans hlen.out (by decide))).mono ?_; rintro e w2 ⟨⟨u2, rfl, hO2⟩, hb2⟩; replace hO2 := Aside0.mk hO2; replace hb2 := Aside0.mk hb2)
    go_ret2
    exact ⟨⟨_, rfl, by rw [hx.out]; exact hO2.out.lower hb.out.size⟩, below_weaken hb.out (Nat.le_refl _) (hb2.out.mono hb.out.size)⟩
end Go.Proofs.YtnogalajfccioaaDoor
