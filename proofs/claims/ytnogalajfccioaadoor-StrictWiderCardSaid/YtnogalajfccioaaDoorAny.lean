/- A region that draws, every order walked, in a round: all orders come to one state. -/
import Derived.Test.YtnogalajfccioaaDoorRound
namespace Go.Proofs.YtnogalajfccioaaDoor
open Go Go.RowKit
theorem opQ {P : Program} {o : Oper} {a : Act} {w : World} {K : Act → World → Prop} {Q Q' : Exit → Act → World → Prop} (h : ∀ e a w, Q e a w → Q' e a w) (hh : o.wp P a w K Q) : o.wp P a w K Q' := by
  unfold Oper.wp at *
  generalize (execOp a.eval o).run P w = r at *
  cases r with
  | ok n w' =>
    cases n <;> simp only [Oper.upon] at hh ⊢ <;>
      first
        | exact hh
        | exact Calls.mono hh (fun e w'' he => by cases e <;> first | exact he | exact h _ _ _ he | (obtain ⟨a, w, he⟩ := he; exact ⟨a, w, h _ _ _ he⟩))
  | halt x w' => cases x <;> simp only [Oper.upon] at hh ⊢ <;> first | exact hh | exact h _ _ _ hh
theorem anyQ {P : Program} {md : Region.Mode} {ops : Array Oper} {Q Q' : Exit → Act → World → Prop} (h : ∀ e a w, Q e a w → Q' e a w) :
    ∀ (fuel : Nat) (listed : Array Bool) (a : Act) (w : World), wpAny P md ops Q fuel listed a w → wpAny P md ops Q' fuel listed a w
  | 0, _, _, _, hh => ⟨hh.1, h _ _ _ hh.2⟩
  | fuel + 1, listed, a, w, hh => ⟨fun hr => h _ _ _ (hh.1 hr), fun i hi => by
      have h2 := wpOp_mono (fun a' w' => anyQ h fuel (listed.setIfInBounds i true) a' w') (hh.2 i hi)
      unfold wpOp at *
      cases ho : ops[i]? with
      | none => simpa [ho] using h2
      | some o =>
        simp only [ho] at h2 ⊢
        split
        · rename_i hw
          simp only [hw, if_true] at h2
          rcases h2 with h2 | ⟨h2, a, w, h3⟩
          · exact .inl (opQ h h2)
          · exact .inr ⟨h2, a, w, h _ _ _ h3⟩
        · rename_i hw
          simp only [hw] at h2
          exact h2⟩
theorem region_any_post {P : Program} {m : Nat} {id : Nat} {Q : Exit → Act → World → Prop} {a : Act} {w : World} {l : List Oper} {q : Nat} (hq : ∀ a w, ¬ Q .outgrown a w) (hm : P.follows .mixedOrders = true)
    (hd : l.all noDefer = true) (h : ∃ a1 w1, wpAny P .any l.toArray (fun e a' w' => e = .normal ∧ a' = a1 ∧ w' = w1) l.toArray.size (Array.replicate l.toArray.size false) a w.drew ∧ Q .normal a1 w1) : (Code.region id l.toArray true).wpIn (Fence.wide.inRound q) m P Q a w :=
  let ⟨_, _, h, hK⟩ := h
  wpIn_region_any hm (any_wide_round hq (by simpa using hd) _ _ _ _ (anyQ (fun e a' w' ⟨h1, h2, h3⟩ => by subst h1 h2 h3; exact hK) _ _ _ _ h))
end Go.Proofs.YtnogalajfccioaaDoor
