/- A slice of events, written out: it reads as the list. -/
import Derived.Test.YtnogalajfccioaaDoorKit
namespace Go.Proofs.YtnogalajfccioaaDoor
open Go.RowKit Go.Proofs.YtnogalajfccioaaDoorW.PrintWords
theorem in_lit {W : World} (xs : List Ev) (cs : Array Value) (hc : cs.toList = xs.flatMap fun x => [Value.int .i64 x.kind, .int .i64 x.tx, .int .i64 x.var, .int .i64 x.val]) (hm : xs.length ≤ 1000) :
    In kEv (W.alloc (.cells cs 49)) (.slice (some ⟨W.heap.size, 0, none⟩) xs.length xs.length) xs := by
  have hb := blk_new W (.cells cs 49)
  refine ⟨some ⟨W.heap.size, 0, none⟩, xs.length, rfl, Nat.le_refl _, rfl, by omega, fun _ => ⟨⟨W.heap.size, 0, none⟩, rfl, fun j x hx => ⟨_, rfl, kEv_mk _ x, fun i u hu => ?_⟩⟩⟩
  rw [add_at, Nat.zero_add, blk_cell hb, ← Array.getElem?_toList, hc]
  have key : ∀ (xs : List Ev) (j : Nat) (x : Ev), xs[j]? = some x → ∀ i u, [Value.int .i64 x.kind, .int .i64 x.tx, .int .i64 x.var, .int .i64 x.val][i]? = some u → (xs.flatMap fun x => [Value.int .i64 x.kind, .int .i64 x.tx, .int .i64 x.var, .int .i64 x.val])[j * 4 + i]? = some u := by
    intro xs
    induction xs with
    | nil => intro j x hx; simp at hx
    | cons y ys ih =>
      intro j x hx i u hu
      have hi : i < 4 := by have := (List.getElem?_eq_some_iff.1 hu).1; simpa using this
      rw [List.flatMap_cons]
      cases j with
      | zero =>
        simp at hx
        subst hx
        rw [List.getElem?_append_left (by simp; omega)]
        simpa using hu
      | succ j =>
        rw [List.getElem?_append_right (by simp; omega)]
        have := ih j x (by simpa using hx) i u hu
        rw [← this]
        congr 1
        simp
        omega
  exact key xs j x hx i u hu
end Go.Proofs.YtnogalajfccioaaDoor
