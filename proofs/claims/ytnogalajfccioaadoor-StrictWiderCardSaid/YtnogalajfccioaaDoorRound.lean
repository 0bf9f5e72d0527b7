/- A region that draws, and only reads, inside a round. -/
import Derived.Test.YtnogalajfccioaaDoorAfter
import Derived.Sort.QuietIn
import Derived.StillTailTactics
namespace Go.Proofs.YtnogalajfccioaaDoor
open Go Go.RowKit
theorem opIn_round {F : Fence} {n : Nat} {P : Program} {o : Oper} {a : Act} {w : World} {K : Act → World → Prop} {Q : Exit → Act → World → Prop} {l : Nat} (hd : ∀ c, o.op ≠ .defer c)
    (h : o.wpIn F n P a w K Q) : o.wpIn (F.inRound l) n P a w K Q := by
  unfold Oper.wpIn at *
  rw [Oper.semAt_eq _ _ _ hd] at *
  refine ⟨h.1, ?_⟩
  have h2 := h.2
  generalize (execOp a.eval o).run P w = r at *
  cases r with
  | ok x w' => cases x <;> exact h2
  | halt x w' => cases x <;> exact h2
def noDefer (o : Oper) : Bool := match o.op with | .defer _ => false | _ => true
theorem noDefer_spec {o : Oper} (h : noDefer o = true) (c) : o.op ≠ .defer c := fun e => by simp [noDefer, e] at h
theorem anyIn_round {F : Fence} {n : Nat} {P : Program} {md : Region.Mode} {ops : Array Oper} {Q : Exit → Act → World → Prop} {l : Nat} (hro : F.round = none) (hd : ops.toList.all noDefer = true) :
    ∀ (fuel : Nat) (listed : Array Bool) (a : Act) (w : World), wpAnyIn F n P md ops Q fuel listed a w → wpAnyIn (F.inRound l) n P md ops Q fuel listed a w
  | 0, _, _, _, h => h
  | fuel + 1, _, a, w, h => ⟨h.1, fun i hi => by
      have h2 := wpOpIn_mono (fun a' w' => anyIn_round (l := l) hro hd fuel _ a' w') (h.2 i hi)
      unfold wpOpIn at *
      cases ho : ops[i]? with
      | none => simpa [ho] using h2
      | some o =>
        simp only [ho] at h2 ⊢
        have hnd := noDefer_spec (List.all_eq_true.1 hd o (by rw [← Array.getElem?_toList] at ho; exact List.mem_of_getElem? ho))
        split
        · rename_i hw
          simp only [hw, if_true] at h2
          exact opIn_round hnd h2
        · rename_i hw
          simp only [hw] at h2
          exact h2⟩
theorem region_quiet_round {F : Fence} {n : Nat} {P : Program} {id : Nat} {Q : Exit → Act → World → Prop} {a : Act} {w : World} {ops : List Oper} {l : Nat} (hro : F.round = none) (hm : P.follows .mixedOrders = true) (hB : Region.lexB .any ops.toArray = true)
    (hd : ops.all noDefer = true)
    (h : wpQuietIn F n P ops.toArray (fun w' => ∃ n, w' = w.drewN n) (fun a' => ∀ w', (∃ n, w' = w.drewN n) → Q .normal a' w') ops a) : (Code.region id ops.toArray true).wpIn (F.inRound l) n P Q a w := by
  have hB0 := hB
  simp only [Region.lexB, Bool.and_eq_true] at hB
  refine wpIn_region_any hm (anyIn_round hro (by simpa using hd) _ _ _ _ (wpAnyIn_of_quiet (C := fun w' => ∃ n, w' = w.drewN n) (Q := fun a' => ∀ w', (∃ n, w' = w.drewN n) → Q .normal a' w') hro (fun _ w' hw' h => h w' hw') _ _ _ _ ⟨1, rfl⟩ ?_))
  have := wpAnyQIn_lex (F := F) (n := n) (C := fun w' => ∃ n, w' = w.drewN n) (md := .any) hB.1 ops 0 (Array.replicate ops.toArray.size false) a (by simp) (by simpa using hB.2) h
  simpa using this
/-- An operation as outside of every fence, in a round. -/
theorem op_wide_round {n : Nat} {P : Program} {o : Oper} {a : Act} {w : World} {K : Act → World → Prop} {Q : Exit → Act → World → Prop} {l : Nat} (hd : ∀ c, o.op ≠ .defer c)
    (h : o.wp P a w K Q) : o.wpIn (Fence.wide.inRound l) n P a w K Q := by
  unfold Oper.wpIn
  rw [Oper.semAt_eq _ _ _ hd]
  refine ⟨fun _ _ => trivial, ?_⟩
  unfold Oper.wp at h
  generalize (execOp a.eval o).run P w = r at *
  cases r with
  | ok x w' =>
    cases x with
    | value v => exact h
    | skip => exact h
    | defer d => exact h
    | enter f args => exact ⟨fun hn => (by cases hn), callsIn_wide.2 h⟩
    | row row args => exact ⟨fun hn => (by cases hn), fun c cs _ => let ⟨v, w'', r, s⟩ := h c cs; ⟨v, w'', r, stepsIn_wide.2 s⟩⟩
    | _ => exact h.elim
  | halt x w' => cases x <;> exact h
theorem any_wide_round {n : Nat} {P : Program} {md : Region.Mode} {ops : Array Oper} {Q : Exit → Act → World → Prop} {l : Nat} (hq : ∀ a w, ¬ Q .outgrown a w) (hd : ops.toList.all noDefer = true) :
    ∀ (fuel : Nat) (listed : Array Bool) (a : Act) (w : World), wpAny P md ops Q fuel listed a w → wpAnyIn (Fence.wide.inRound l) n P md ops Q fuel listed a w
  | 0, _, _, _, h => h
  | fuel + 1, _, a, w, h => ⟨h.1, fun i hi => by
      have h2 := wpOp_mono (fun a' w' => any_wide_round (n := n) (l := l) hq hd fuel _ a' w') (h.2 i hi)
      unfold wpOp at h2
      unfold wpOpIn
      cases ho : ops[i]? with
      | none => simpa [ho] using h2
      | some o =>
        simp only [ho] at h2 ⊢
        have hnd := noDefer_spec (List.all_eq_true.1 hd o (by rw [← Array.getElem?_toList] at ho; exact List.mem_of_getElem? ho))
        split
        · rename_i hw
          simp only [hw, if_true] at h2
          exact op_wide_round hnd (h2.resolve_right fun ⟨_, a, w, h⟩ => hq a w h)
        · rename_i hw
          simp only [hw] at h2
          exact ⟨fun _ _ => trivial, h2⟩⟩
/-- A region that draws, whose first n0 operations only read, in a round. -/
theorem region_tail_round {P : Program} {m : Nat} {id : Nat} {Q : Exit → Act → World → Prop} {a : Act} {w : World} {l : List Oper} {q : Nat} (n : Nat) (hq : ∀ a w, ¬ Q .outgrown a w) (hm : P.follows .mixedOrders = true) (hB : Region.lexTailB .any l.toArray n = true)
    (hd : l.all noDefer = true)
    (h : wpStill P l.toArray w.drew (fun a' => wpList P l.toArray Q (l.drop n) a' w.drew) (l.take n) a) : (Code.region id l.toArray true).wpIn (Fence.wide.inRound q) m P Q a w := by
  simp only [Region.lexTailB, Bool.and_eq_true, decide_eq_true_eq] at hB
  obtain ⟨⟨⟨⟨hsel, hn⟩, hs⟩, hc⟩, hlex⟩ := hB
  have hn' : n < l.length := by simpa using hn
  have htl : (l.take n).length = n := by simp; omega
  have hdl : (l.drop n).length = l.toArray.size - n := by simp
  have inv0 : HeadInv .any l.toArray n (Array.replicate l.toArray.size false) :=
    ⟨by simp, fun j oj _ hl => (by rw [getD_replicate_false] at hl; cases hl), fun t _ ht => getD_in (by simpa using ht) (getD_replicate_false _ _)⟩
  have H := wpAnyL_lex (md := .any) (g := l.toArray.size - n) hsel hs hc hn (l.take n) 0 _ a (fun j hj => by
    have hj' : j < n := by rw [htl] at hj; exact hj
    simp [hj']) (by simpa using htl) inv0 (by rw [htl]; exact hlex) h
  refine wpIn_region_any hm (any_wide_round hq (by simpa using hd) _ _ _ _ ?_)
  have := wpAny_of_head (Q' := Q) (g := l.toArray.size - n) (fun listed a' hL => by
    have := wpAny_of_seq (md := .any) (Q' := Q) (l.drop n) n listed a' { w with drawn := w.drawn + 1 } (fun j => by simp [List.getElem?_drop]) (by rw [hdl]; exact hL.1) hL.2
    rwa [hdl] at this) _ _ _ H
  rw [htl, show n + (l.toArray.size - n) = l.toArray.size by omega] at this
  exact this
end Go.Proofs.YtnogalajfccioaaDoor
