/- Layer 12 (serial): Row. -/
import Derived.Test.YtnogalajfccioaaDoorSerial4
namespace Go.Proofs.YtnogalajfccioaaDoor
open Go.RowKit Go.Proofs.YtnogalajfccioaaDoorW.PrintWords
/-- Why a row of some can't be searched. -/
def rowB (h : List Ev) (who c : Nat) (budget : Int) : Int := if mayB h budget ≠ 0 then mayB h budget else if (who ||| c) < 2 ^ (table h).length then 0 else 7
def rowOf (h : List Ev) (who c : Nat) (budget : Int) : Found := if rowB h who c budget = 0 then rowFound budget.toNat c (rowF (table h) who c budget.toNat) else zFound
theorem mayB_ok {h : List Ev} {budget : Int} (hm : mayB h budget = 0) : why h = 0 ∧ 0 ≤ budget ∧ budget ≤ 1000000 := by
  have hw0 : why h = 0 := by
    unfold mayB at hm
    split at hm
    · assumption
    · rename_i h1
      simpa using h1
  refine ⟨hw0, ?_⟩
  unfold mayB at hm
  rw [if_neg (by simp [hw0])] at hm
  split at hm
  · cases hm
  · omega
set_option maxRecDepth 100000 in
set_option maxHeartbeats 1000000 in
theorem Row_c (h : List Ev) (who c : Nat) (budget : Int) (v : Value) (w : World) (hv : In kEv w v h) (hk : Kinds w) (hwho : who < 2 ^ 32) (hc : c < 2 ^ 32) :
    Calls Tryd.prog 43 #[v, .int .u32 who, .int .u32 c, .int .i64 budget] w fun e w' => RetF w w' (rowOf h who c budget) (rowB h who c budget) e ∧ Below w.heap.size w w' := by
  have hm := Aside0.mk (fun W hb => mayS_c h budget v W (hv.below (w1 := W) hb) (hk.below hb))
  obtain ⟨vA, vc, ev⟩ : ∃ A c, v = .slice A h.length c := by obtain ⟨A, c, e, _⟩ := hv; exact ⟨A, c, e⟩
  subst ev
  have hor := u32_or hwho hc
  replace hv := Aside0.mk hv
  replace hk := Aside0.mk hk
  replace hwho := Aside0.mk hwho
  replace hc := Aside0.mk hc
  go_enter Tryd.func43, Tryd.ntmps43
  cases hw : (mayB h budget == 0) with
  | false =>
    have hw1 : mayB h budget ≠ 0 := by simpa using hw
    have hy := Aside0.mk (show rowB h who c budget = mayB h budget by unfold rowB; rw [if_pos hw1])
    have hx := Aside0.mk (show rowOf h who c budget = zFound by unfold rowOf; rw [hy.out, if_neg hw1])
    rw [hx.out, hy.out]
    replace hw1 : (mayB h budget != 0) = true := by simpa using hw1
    go_wp2_with (go_at_call 45; refine (hm.out _ (below_alloc (Below.refl _ _) _)).mono ?_; clear hm; rintro e w1 ⟨⟨u, rfl, hO⟩, hb⟩; have hbk := blk_below (blk_new w (.cells #[.int .i64 0, .int .u32 0, .slice none 0 0, .int .i64 0] 43)) hb; have f0 := fun j => blk_frozen hbk j; have q0 := blk_cell hbk 0; have q1 := blk_cell hbk 1; have q2 := blk_cell hbk 2; have q3 := blk_cell hbk 3; simp only [List.getElem?_toArray, List.getElem?_cons_zero, List.getElem?_cons_succ] at q0 q1 q2 q3; replace hbk := Aside0.mk hbk; replace hO := Aside0.mk hO; replace hb := Aside0.mk hb)
    refine bodyPost_ret (results_ct rfl _ _ w.heap.size _ _ _ _ rfl (blk_set4 hbk.out _ _ _ _) Tryd.underlying43 rfl (by kernel_rfl)) rfl ?_
    exact ⟨⟨.slice none 0 0, rfl, Own.nil _ _ _ _⟩, below_set4 (below_step (below_alloc (Below.refl _ _) _) hb.out) (Nat.le_refl _) _ _ _ _⟩
  | true =>
    have hm0 : mayB h budget = 0 := by simpa using hw
    obtain ⟨hw0, hb0, hb1⟩ := mayB_ok hm0
    obtain ⟨bn, rfl⟩ : ∃ bn : Nat, budget = bn := ⟨budget.toNat, by omega⟩
    have hbn : bn ≤ 1000000 := by omega
    have hl6 := table_len hw0
    have hal := Aside0.mk (after_len (table h))
    rw [hm0, if_pos rfl] at hm
    clear hw
    have ediv : ((who ||| c : Nat) : Int) / 2 ^ (table h).length = (((who ||| c) / 2 ^ (table h).length : Nat) : Int) := by simp
    by_cases hz : (who ||| c) < 2 ^ (table h).length
    · have hy := Aside0.mk (show rowB h who c bn = 0 by unfold rowB; rw [if_neg (by simp [hm0]), if_pos hz])
      have hx := Aside0.mk (show rowOf h who c bn = rowFound bn c (rowF (table h) who c bn) by unfold rowOf; rw [if_pos hy.out, Int.toNat_natCast])
      obtain ⟨f, hf⟩ : ∃ f, f = rowFound bn c (rowF (table h) who c bn) := ⟨_, rfl⟩
      rw [hx.out, hy.out, ← hf]
      replace hf := Aside0.mk hf
      have hdz : ((who ||| c : Nat) : Int) / 2 ^ (table h).length = 0 := by rw [ediv, Nat.div_eq_of_lt hz]; rfl
      have hwl : who < 2 ^ (table h).length := Nat.lt_of_le_of_lt Nat.left_le_or hz
      clear ediv
      replace hm0 := Aside0.mk hm0
      replace hz := Aside0.mk hz
      replace hwl := Aside0.mk hwl
      go_wp2_with first
        | (go_at_call 45; refine (hm.out _ (below_alloc (Below.refl _ _) _)).mono ?_; clear hm; rintro e w1 ⟨⟨u, rfl, hO⟩, hb⟩; obtain ⟨aA, ac, ea⟩ := Kd.R_slice hO; rw [hal.out] at ea; subst ea; have hB1 := Aside0.mk (below_step (below_alloc (Below.refl _ _) (.cells #[.int .i64 0, .int .u32 0, .slice none 0 0, .int .i64 0] 43)) hb); have hbk := Aside0.mk (blk_below (blk_new w (.cells #[.int .i64 0, .int .u32 0, .slice none 0 0, .int .i64 0] 43)) hb); replace hO := Aside0.mk hO; replace hb := Aside0.mk hb)
        | (go_at_call 46; refine (search_c (h := h) hw0 (w0 := w1) (hv.out.below hB1.out) (hk.out.below hB1.out) hO.out.inn (b := w1.heap.size) (Nat.le_refl _) (who := who) (c := c) hwl.out hc.out bn hbn _ (below_alloc (Below.refl _ _) _) (blk_new _ _)).mono ?_; rintro e w3 ⟨rv, rfl, hOf, hO3⟩; rw [← hf.out] at hOf ⊢; obtain ⟨rA, rc, erv⟩ := Kd.R_slice hOf; subst erv; have hbk3 := search_kept hbk.out (Below.refl _ _) hO3; have f0 := fun j => blk_frozen hbk3 j; have q0 := blk_cell hbk3 0; have q1 := blk_cell hbk3 1; have q2 := blk_cell hbk3 2; have q3 := blk_cell hbk3 3; simp only [List.getElem?_toArray, List.getElem?_cons_zero, List.getElem?_cons_succ] at q0 q1 q2 q3; have hb3 := Aside0.mk (search_below hB1.out hO3 hB1.out.size); replace hOf := Aside0.mk hOf; replace hO3 := Aside0.mk hO3; replace hbk3 := Aside0.mk hbk3; unfold encFound)
      refine bodyPost_ret (results_ct rfl _ _ w.heap.size _ _ _ _ rfl (blk_set4 hbk3.out _ _ _ _) Tryd.underlying43 rfl (by kernel_rfl)) rfl ?_
      exact ⟨⟨.slice rA f.row.length rc, rfl, own_set4 (hOf.out.lower hB1.out.size) hbk3.out (by simp [Kd.int, Kd.scalar]) _ _ _ _⟩, below_set4 hb3.out (Nat.le_refl _) _ _ _ _⟩
    · have hy := Aside0.mk (show rowB h who c bn = 7 by unfold rowB; rw [if_neg (by simp [hm0]), if_neg hz])
      have hx := Aside0.mk (show rowOf h who c bn = zFound by unfold rowOf; rw [hy.out, if_neg (by decide)])
      rw [hx.out, hy.out]
      have hdz : (((who ||| c : Nat) : Int) / 2 ^ (table h).length != 0) = true := by
        rw [ediv]
        have : 0 < (who ||| c) / 2 ^ (table h).length := Nat.div_pos (by omega) (Nat.two_pow_pos _)
        simp
        omega
      clear ediv
      replace hm0 := Aside0.mk hm0
      go_wp2_with (go_at_call 45; refine (hm.out _ (below_alloc (Below.refl _ _) _)).mono ?_; clear hm; rintro e w1 ⟨⟨u, rfl, hO⟩, hb⟩; obtain ⟨aA, ac, ea⟩ := Kd.R_slice hO; rw [hal.out] at ea; subst ea; have hbk := blk_below (blk_new w (.cells #[.int .i64 0, .int .u32 0, .slice none 0 0, .int .i64 0] 43)) hb; have f0 := fun j => blk_frozen hbk j; have q0 := blk_cell hbk 0; have q1 := blk_cell hbk 1; have q2 := blk_cell hbk 2; have q3 := blk_cell hbk 3; simp only [List.getElem?_toArray, List.getElem?_cons_zero, List.getElem?_cons_succ] at q0 q1 q2 q3; replace hbk := Aside0.mk hbk; replace hO := Aside0.mk hO; replace hb := Aside0.mk hb)
      refine bodyPost_ret (results_ct rfl _ _ w.heap.size _ _ _ _ rfl (blk_set4 hbk.out _ _ _ _) Tryd.underlying43 rfl (by kernel_rfl)) rfl ?_
      exact ⟨⟨.slice none 0 0, rfl, Own.nil _ _ _ _⟩, below_set4 (below_step (below_alloc (Below.refl _ _) _) hb.out) (Nat.le_refl _) _ _ _ _⟩
end Go.Proofs.YtnogalajfccioaaDoor
