/- The law's own test of strict: it is alive. -/
import Derived.Test.YtnogalajfccioaaDoorStrict
import Derived.Test.YtnogalajfccioaaDoorLit
import Derived.Test.YtnogalajfccioaaDoorEval
import Derived.Test.YtnogalajfccioaaDoorDelete2
namespace Go.Proofs.YtnogalajfccioaaDoor
open Go.RowKit Go.Proofs.YtnogalajfccioaaDoorW.PrintWords
def strictCE (l : List Txn) : List Nat → Nat → Out × Nat × Nat
  | [], left => (.no, 0, left)
  | c :: cs, left => match rowE l c c left with
    | (.no, left') => strictCE l cs left'
    | (o, left') => (o, c, left')
theorem strictC_eval (l : List Txn) : ∀ cs left, strictC l cs left = strictCE l cs left
  | [], _ => rfl
  | c :: cs, left => by
    unfold strictC strictCE
    rw [row_eval]
    cases rowE l c c left with
    | mk o x =>
      cases o with
      | no => exact strictC_eval l cs x
      | unknown => rfl
      | yes r => rfl
theorem strict_eval (l : List Txn) (budget : Nat) : strict l budget = foundOf budget (strictCE l (choices l) budget) := by unfold strict; rw [strictC_eval]
def h14 : List Ev := [⟨0, 1, 0, 0⟩, ⟨1, 1, 0, 0⟩, ⟨2, 1, 0, 0⟩, ⟨3, 1, 0, 5⟩, ⟨6, 1, 0, 0⟩]
def g14 : List Ev := [⟨7, 1, 0, 0⟩]
theorem why14 : why h14 = 0 ∧ why (h14 ++ g14) = 0 := by decide +kernel
theorem check14 : (strict (table h14) 9).verdict = 0 := by rw [strict_eval]; decide +kernel
theorem check14b : (strict (table (h14 ++ g14)) 9).verdict = 1 ∧ (strict (table (h14 ++ g14)) 9).steps = 1 := by rw [strict_eval]; decide +kernel
abbrev cells14 : Array Value := #[.int .i64 0, .int .i64 1, .int .i64 0, .int .i64 0, .int .i64 1, .int .i64 1, .int .i64 0, .int .i64 0, .int .i64 2, .int .i64 1, .int .i64 0, .int .i64 0, .int .i64 3, .int .i64 1, .int .i64 0, .int .i64 5, .int .i64 6, .int .i64 1, .int .i64 0, .int .i64 0]
theorem row14 (w : World) : EvRow (w.alloc (.cells cells14 49)) w.heap.size 5 h14 := by
  refine ⟨cells14, blk_new _ _, rfl, by decide, fun j x hx => ?_⟩
  rcases j with _ | _ | _ | _ | _ | j
  · cases hx; exact ⟨rfl, rfl, rfl, rfl⟩
  · cases hx; exact ⟨rfl, rfl, rfl, rfl⟩
  · cases hx; exact ⟨rfl, rfl, rfl, rfl⟩
  · cases hx; exact ⟨rfl, rfl, rfl, rfl⟩
  · cases hx; exact ⟨rfl, rfl, rfl, rfl⟩
  · simp [h14] at hx
theorem own14 (w : World) : Own kEv 49 w (w.alloc (.cells cells14 49)) (.slice (some ⟨w.heap.size, 0, none⟩) 5 5) h14 := (row14 w).own (m := 5) (Nat.le_refl _) (by decide) (by decide)
set_option maxRecDepth 100000 in
set_option maxHeartbeats 1000000 in
theorem alive14_c (w : World) (hk : Kinds w) : Calls Tryd.prog 15 #[] w fun e w' => e = .returned (.bool true) ∧ Below w.heap.size w w' := by
  have hmay : mayB h14 9 = 0 ∧ mayB (h14 ++ g14) 9 = 0 := by decide +kernel
  have hs1 : strictOf h14 9 = strict (table h14) 9 := by unfold strictOf; rw [if_pos hmay.1]; rfl
  have hs2 : strictOf (h14 ++ g14) 9 = strict (table (h14 ++ g14)) 9 := by unfold strictOf; rw [if_pos hmay.2]; rfl
  have hF1 := check14
  obtain ⟨hF2, hF3⟩ := check14b
  have hB := below_alloc (Below.refl w.heap.size w) (.cells cells14 49)
  have hin := in_lit (W := w) h14 cells14 rfl (by decide)
  have hc := StrictChk_c h14 9 _ _ hin (hk.below hB)
  have hc2 := fun (v : Value) W (hv : In kEv W v (h14 ++ g14)) (hb : Below w.heap.size w W) => StrictChk_c (h14 ++ g14) 9 v W hv (hk.below hb)
  rw [hs1, hmay.1] at hc
  rw [hs2, hmay.2] at hc2
  generalize strict (table h14) 9 = F at *
  generalize strict (table (h14 ++ g14)) 9 = G at *
  replace hc := Aside0.mk hc
  replace hc2 := Aside0.mk hc2
  replace hB := Aside0.mk hB
  have hown := Aside0.mk (own14 w)
  clear hin
  replace hk := Aside0.mk hk
  clear hmay hs1 hs2
  go_enter Tryd.func15, Tryd.ntmps15
  go_wp2_with first
    | (go_at_call 14; refine hc.out.mono ?_; clear hc; rintro e w2 ⟨⟨rv, rfl, hO⟩, hb⟩; obtain ⟨rA, rc, er⟩ := Kd.R_slice hO; subst er; unfold encFound; rw [hF1]; have hB2 := Aside0.mk (below_step hB.out hb); have hown2 := Aside0.mk (hown.out.below hb); replace hO := Aside0.mk hO; replace hb := Aside0.mk hb)
    | (at_builtin; refine append_one kEv (w0 := w) rfl (.tmp 18) (.tmp 20) 22 49 (.agg #[.int .i64 0, .int .i64 0, .int .i64 0, .int .i64 0]) 32 rfl Tryd.underlying22 Tryd.info_Ev rfl (by decide) (by decide) _ h14 ⟨7, 1, 0, 0⟩ [.int .i64 7, .int .i64 1, .int .i64 0, .int .i64 0] rfl (by simp only [World.size_alloc]; rfl) (kEv_mkM _ _ _ _) (hown2.out.below (below_alloc (Below.refl _ _) _)) (below_alloc hB2.out _) (by decide) ?_; intro v1 w4 hO4 hB4 hg4 _; obtain ⟨vA4, vc4, ev4⟩ := Kd.R_slice hO4; rw [show (h14 ++ [(⟨7, 1, 0, 0⟩ : Ev)]).length = 6 from rfl] at ev4; subst ev4; have hk4 := Aside0.mk (blk_grown (blk_new w2 (.cells #[.int .i64 0, .int .u32 F.commits, .slice rA F.row.length rc, .int .i64 F.steps] 43)) hg4 (fun e => absurd (Kd.R_lt hown2.out _ e.symm) (Nat.lt_irrefl _))); replace hO4 := Aside0.mk hO4; replace hg4 := Aside0.mk hg4; replace hB4 := Aside0.mk hB4)
    | (go_at_call 14; refine (hc2.out _ _ hO4.out.inn hB4.out).mono ?_; clear hc2; rintro e w5 ⟨⟨rv5, rfl, hO5⟩, hb5⟩; obtain ⟨rA5, rc5, er5⟩ := Kd.R_slice hO5; subst er5; unfold encFound; rw [hF2, hF3]; have hB5 := Aside0.mk (below_step hB4.out hb5); have d0 := fun o => blk_cell (blk_alloc (blk_below hk4.out hb5) o) 0; simp only [List.getElem?_toArray, List.getElem?_cons_zero] at d0; replace hO5 := Aside0.mk hO5; replace hb5 := Aside0.mk hb5)
  go_ret
  exact ⟨rfl, below_alloc hB5.out _⟩
end Go.Proofs.YtnogalajfccioaaDoor
