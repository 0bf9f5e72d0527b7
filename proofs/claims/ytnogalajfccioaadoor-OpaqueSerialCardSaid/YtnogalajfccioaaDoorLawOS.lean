/- Law OpaqueSerial, what the code computes. -/
import Derived.Test.YtnogalajfccioaaDoorPrefix2
import Derived.Test.YtnogalajfccioaaDoorAlive13
namespace Go.Proofs.YtnogalajfccioaaDoor
open Go.RowKit Go.Proofs.YtnogalajfccioaaDoorW.PrintWords
theorem in_lit {W : World} (xs : List Ev) (cs : Array Value) (hc : cs.toList = xs.flatMap fun x => [Value.int .i64 x.kind, .int .i64 x.tx, .int .i64 x.var, .int .i64 x.val]) (hm : xs.length ≤ 1000) :
    In kEv (W.alloc (.cells cs 49)) (.slice (some ⟨W.heap.size, 0, none⟩) xs.length xs.length) xs := by
  have hb := blk_new W (.cells cs 49)
  refine ⟨some ⟨W.heap.size, 0, none⟩, xs.length, rfl, Nat.le_refl _, rfl, by omega, fun _ => ⟨⟨W.heap.size, 0, none⟩, rfl, fun j x hx => ⟨_, rfl, kEv_mk _ x, fun i u hu => ?_⟩⟩⟩
  rw [add_at, Nat.zero_add, blk_cell hb, ← Array.getElem?_toList, hc]
  have key : ∀ (xs : List Ev) (j : Nat) (x : Ev), xs[j]? = some x → ∀ i u, [Value.int .i64 x.kind, .int .i64 x.tx, .int .i64 x.var, .int .i64 x.val][i]? = some u → (xs.flatMap fun x => [Value.int .i64 x.kind, .int .i64 x.tx, .int .i64 x.var, .int .i64 x.val])[j * 4 + i]? = some u := by
    intro xs
    induction xs with
    | nil => intro j x hx; simp at hx
    | cons y ys ih =>
      intro j x hx i u hu
      have hi : i < 4 := by have := (List.getElem?_eq_some_iff.1 hu).1; simpa using this
      rw [List.flatMap_cons]
      cases j with
      | zero =>
        simp at hx
        subst hx
        rw [List.getElem?_append_left (by simp; omega)]
        simpa using hu
      | succ j =>
        rw [List.getElem?_append_right (by simp; omega)]
        have := ih j x (by simpa using hx) i u hu
        rw [← this]
        congr 1
        simp
        omega
  exact key xs j x hx i u hu
set_option maxRecDepth 100000 in
set_option maxHeartbeats 1000000 in
theorem alive13_c (w : World) (hk : Kinds w) : Calls Tryd.prog 10 #[] w fun e w' => e = .returned (.bool true) ∧ Below w.heap.size w w' := by
  have hmay : mayB h13 9 = 0 := by decide +kernel
  have hco : checkOf h13 9 = checkF h13 9 := by unfold checkOf; rw [if_pos hmay]; rfl
  obtain ⟨hF1, hF2, hF3⟩ := check13
  have hB := below_alloc (Below.refl w.heap.size w) (.cells #[.int .i64 0, .int .i64 1, .int .i64 0, .int .i64 0, .int .i64 1, .int .i64 1, .int .i64 0, .int .i64 0, .int .i64 2, .int .i64 1, .int .i64 0, .int .i64 0, .int .i64 3, .int .i64 1, .int .i64 0, .int .i64 5, .int .i64 8, .int .i64 1, .int .i64 0, .int .i64 0] 49)
  have hc := Check_c h13 9 _ _ (in_lit (W := w) h13 #[.int .i64 0, .int .i64 1, .int .i64 0, .int .i64 0, .int .i64 1, .int .i64 1, .int .i64 0, .int .i64 0, .int .i64 2, .int .i64 1, .int .i64 0, .int .i64 0, .int .i64 3, .int .i64 1, .int .i64 0, .int .i64 5, .int .i64 8, .int .i64 1, .int .i64 0, .int .i64 0] rfl (by decide)) (hk.below hB)
  rw [hco, hmay] at hc
  generalize checkF h13 9 = F at *
  replace hc := Aside0.mk hc
  replace hB := Aside0.mk hB
  replace hk := Aside0.mk hk
  clear hmay hco
  go_enter Tryd.func10, Tryd.ntmps10
  go_wp2_with (go_at_call 13; refine hc.out.mono ?_; clear hc; rintro e w2 ⟨⟨rv, rfl, hO⟩, hb⟩; obtain ⟨rA, rc, er⟩ := Kd.R_slice hO; subst er; rw [hF3]; unfold encChk; rw [hF1, hF2]; replace hO := Aside0.mk hO; replace hb := Aside0.mk hb)
  go_ret
  exact ⟨rfl, (below_step hB.out hb.out).alloc (by have := hB.out.size; have := hb.out.size; omega) _⟩
end Go.Proofs.YtnogalajfccioaaDoor
