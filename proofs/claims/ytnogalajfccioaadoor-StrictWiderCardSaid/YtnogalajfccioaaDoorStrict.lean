/- Layer 14 (strict): Check. -/
import Derived.Test.YtnogalajfccioaaDoorSerial5
import Derived.Test.YtnogalajfccioaaDoorP5
import Derived.WalkMore
namespace Go.Proofs.YtnogalajfccioaaDoor
open Go.RowKit Go.Proofs.YtnogalajfccioaaDoorW.PrintWords
def strictOf (h : List Ev) (budget : Int) : Found := if mayB h budget = 0 then strict (table h) budget.toNat else zFound
theorem rowB_zero (h : List Ev) (budget : Int) : rowB h 0 0 budget = mayB h budget := by
  unfold rowB
  split
  · rfl
  · rename_i hm
    have : mayB h budget = 0 := by omega
    rw [if_pos (by simpa using Nat.two_pow_pos _), this]
theorem mayB_le {h : List Ev} {bn : Nat} (hw : why h = 0) (hb : bn ≤ 1000000) : mayB h (bn : Int) = 0 := by
  unfold mayB
  rw [if_neg (by simp [hw]), if_neg (by omega)]
theorem rowOf_ok {h : List Ev} {c lf : Nat} (hw : why h = 0) (hb : lf ≤ 1000000) (hc : c < 2 ^ (table h).length) : rowB h c c lf = 0 ∧ rowOf h c c lf = rowFound lf c (rowF (table h) c c lf) := by
  have h1 : rowB h c c lf = 0 := by
    unfold rowB
    rw [if_neg (by simp [mayB_le hw hb]), if_pos (by simpa using hc)]
  refine ⟨h1, ?_⟩
  unfold rowOf
  rw [if_pos h1, Int.toNat_natCast]
theorem strictC_cons (l : List Txn) (c : Nat) (cs : List Nat) (left : Nat) : strictC l (c :: cs) left = match rowF l c c left with
    | (.no, left') => strictC l cs left'
    | (o, left') => (o, c, left') := rfl
section
variable {P : Program} {ops : Array Oper} {rest : List Oper} {o : Oper} {a : Act} {Q : Exit → Act → World → Prop} {W : World}
/-- Ahead of a store: the world forgotten but for what is said of it. -/
theorem hold_store (t : TypeId) (p s : Operand) (_ho : o.op = Op.store t p s) (R : World → Prop) (hR : R W) (h : ∀ V, R V → wpList P ops Q (o :: rest) a V) : wpList P ops Q (o :: rest) a W := h W hR
theorem hold_load (t : TypeId) (p : Operand) (_ho : o.op = Op.load t p) (R : World → Prop) (hR : R W) (h : ∀ V, R V → wpList P ops Q (o :: rest) a V) : wpList P ops Q (o :: rest) a W := h W hR
end
/-- What is known of the blocks of the result and of what is found, and of its row. -/
def StrictAt (w : World) (g : Nat) (f : Array Value) (rv : Value) (row : List Int) (V : World) : Prop :=
  V.heap[g]? = some (.cells f 43 (0, 0)) ∧ V.heap[w.heap.size]? = some (.cells #[.int .i64 0, .int .u32 0, .slice none 0 0, .int .i64 0] 43 (0, 0)) ∧ Below w.heap.size w V ∧ Own (Kd.int .i64) 3 w V rv row
theorem StrictAt.set4 {w : World} {g : Nat} {a0 a1 a2 a3 rv : Value} {row : List Int} {V : World} (h : StrictAt w g #[a0, a1, a2, a3] rv row V) (hg : w.heap.size < g) (b0 b1 b2 b3 : Value) :
    StrictAt w g #[b0, b1, b2, b3] rv row ((((V.setCell ⟨g, 0, none⟩ b0).setCell ⟨g, 1, none⟩ b1).setCell ⟨g, 2, none⟩ b2).setCell ⟨g, 3, none⟩ b3) := by
  obtain ⟨h1, h2, h3, h4⟩ := h
  have hOn := only_set (only_set (only_set (only_set (Only.refl (Is g) V) 0 b0) 1 b1) 2 b2) 3 b3
  exact ⟨blk_set4 h1 _ _ _ _, (hOn.block w.heap.size (blk_lt h2) (fun e => by have e2 : w.heap.size = g := e; omega)).trans h2, below_set4 h3 (Nat.le_of_lt hg) _ _ _ _, own_set4 h4 h1 (by simp [Kd.int, Kd.scalar]) _ _ _ _⟩
theorem StrictAt.set3 {w : World} {g : Nat} {a0 a1 a2 a3 rv : Value} {row : List Int} {V : World} (h : StrictAt w g #[a0, a1, a2, a3] rv row V) (hg : w.heap.size < g) (b3 : Value) :
    StrictAt w g #[a0, a1, a2, b3] rv row (V.setCell ⟨g, 3, none⟩ b3) := by
  obtain ⟨h1, h2, h3, h4⟩ := h
  have hOn := only_set (Only.refl (Is g) V) 3 b3
  exact ⟨blk_put h1 3 b3 rfl, (hOn.block w.heap.size (blk_lt h2) (fun e => by have e2 : w.heap.size = g := e; omega)).trans h2, h3.setCell (p := ⟨g, 3, none⟩) (Nat.le_of_lt hg) b3, h4.is (b := g) hOn h1 (by simp [Kd.int, Kd.scalar])⟩
set_option maxRecDepth 100000 in
set_option maxHeartbeats 1000000 in
theorem StrictChk_c (h : List Ev) (budget : Int) (v : Value) (w : World) (hv : In kEv w v h) (hk : Kinds w) :
    Calls Tryd.prog 14 #[v, .int .i64 budget] w fun e w' => RetF w w' (strictOf h budget) (mayB h budget) e ∧ Below w.heap.size w w' := by
  have hrow0 := Aside0.mk (fun W hb => Row_c h 0 0 budget v W (hv.below (w1 := W) hb) (hk.below hb) (by decide) (by decide))
  have hrow := Aside0.mk (fun (c lf : Nat) (hc : c < 2 ^ 32) W hb => Row_c h c c lf v W (hv.below (w1 := W) hb) (hk.below hb) hc hc)
  have hC := Aside0.mk (fun W hb => Choices_c h v W (hv.below (w1 := W) hb) (hk.below hb))
  rw [rowB_zero] at hrow0
  obtain ⟨vA, vc, ev⟩ : ∃ A c, v = .slice A h.length c := by obtain ⟨A, c, e, _⟩ := hv; exact ⟨A, c, e⟩
  subst ev
  replace hv := Aside0.mk hv
  replace hk := Aside0.mk hk
  go_enter Tryd.func14, Tryd.ntmps14
  cases hw : (mayB h budget == 0) with
  | false =>
    have hw1 : mayB h budget ≠ 0 := by simpa using hw
    have hx := Aside0.mk (show strictOf h budget = zFound by unfold strictOf; rw [if_neg hw1])
    rw [hx.out]
    replace hw1 : (mayB h budget != 0) = true := by simpa using hw1
    go_wp2
    go_step3
    go_wp2_with (go_at_call 43; refine (hrow0.out _ (below_alloc (Below.refl _ _) _)).mono ?_; clear hrow0; rintro e w1 ⟨⟨rv, rfl, hO⟩, hb⟩; obtain ⟨rA, rc, erv⟩ := Kd.R_slice hO; subst erv; have hbk := blk_below (blk_new w (.cells #[.int .i64 0, .int .u32 0, .slice none 0 0, .int .i64 0] 43)) hb; have f0 := fun o j => blk_frozen (blk_alloc hbk o) j; have q0 := fun o => blk_cell (blk_alloc hbk o) 0; have q1 := fun o => blk_cell (blk_alloc hbk o) 1; have q2 := fun o => blk_cell (blk_alloc hbk o) 2; have q3 := fun o => blk_cell (blk_alloc hbk o) 3; simp only [List.getElem?_toArray, List.getElem?_cons_zero, List.getElem?_cons_succ] at q0 q1 q2 q3; replace hbk := Aside0.mk hbk; replace hO := Aside0.mk hO; replace hb := Aside0.mk hb; unfold encFound)
    rw [Exit.noGoto_ret]
    refine bodyPost_ret (results_ct rfl _ _ w.heap.size _ _ _ _ rfl (blk_set4 (blk_alloc hbk.out _) _ _ _ _) Tryd.underlying43 rfl (by kernel_rfl)) rfl ?_
    exact ⟨⟨.slice none 0 0, rfl, Own.nil _ _ _ _⟩, below_set4 (below_alloc (below_step (below_alloc (Below.refl _ _) _) hb.out) _) (Nat.le_refl _) _ _ _ _⟩
  | true =>
    have hm0 : mayB h budget = 0 := by simpa using hw
    obtain ⟨hw0, hb0, hb1⟩ := mayB_ok hm0
    obtain ⟨bn, rfl⟩ : ∃ bn : Nat, budget = bn := ⟨budget.toNat, by omega⟩
    have hbn : bn ≤ 1000000 := by omega
    have hx := Aside0.mk (show strictOf h (bn : Int) = foundOf bn (strictC (table h) (choices (table h)) bn) by unfold strictOf; rw [if_pos hm0, Int.toNat_natCast]; rfl)
    have hl6 := table_len hw0
    rw [hx.out, hm0]
    rw [hm0] at hrow0
    rw [hw0, if_pos rfl] at hC
    clear hw
    replace hm0 := Aside0.mk hm0
    have hcl := Aside0.mk (choices_len (table h))
    have hclt : Aside0 (∀ c, c ∈ choices (table h) → c < 2 ^ (table h).length) := ⟨fun c hc => choice_lt hc⟩
    have hlt32 := Aside0.mk (show ∀ c, c < 2 ^ (table h).length → c < 2 ^ 32 from fun c hc => Nat.lt_of_lt_of_le hc (Nat.pow_le_pow_right (by decide) (Nat.le_trans hl6 (by decide))))
    generalize choices (table h) = cs at *
    go_wp2
    go_step3
    go_wp2_with first
      | (go_at_call 43; refine (hrow0.out _ (below_alloc (Below.refl _ _) _)).mono ?_; clear hrow0; rintro e w1 ⟨⟨rv, rfl, hO⟩, hb⟩; obtain ⟨rA, rc, erv⟩ := Kd.R_slice hO; subst erv; unfold encFound; generalize rowOf h 0 0 (bn : Int) = F0 at *; have hB1 := Aside0.mk (below_step (below_alloc (Below.refl _ _) (.cells #[.int .i64 0, .int .u32 0, .slice none 0 0, .int .i64 0] 43)) hb); have hbk := Aside0.mk (blk_below (blk_new w (.cells #[.int .i64 0, .int .u32 0, .slice none 0 0, .int .i64 0] 43)) hb); replace hO := Aside0.mk hO; replace hb := Aside0.mk hb)
      | (go_at_call 25; refine (hC.out _ (below_alloc (below_alloc hB1.out _) _)).mono ?_; clear hC; rintro e w2 ⟨⟨u2, rfl, hO2⟩, hb2⟩; obtain ⟨cA, cc, ec⟩ := Kd.R_slice hO2; subst ec; have hB2 := Aside0.mk (below_step (below_alloc (below_alloc hB1.out (.cells #[.int .i64 F0.verdict, .int .u32 F0.commits, .slice rA F0.row.length rc, .int .i64 F0.steps] 43)) (.cells #[.int .i64 1, .int .u32 0, .slice none 0 0, .int .i64 0] 43)) hb2); replace hbk := Aside0.mk (blk_below (blk_alloc (blk_alloc hbk.out (.cells #[.int .i64 F0.verdict, .int .u32 F0.commits, .slice rA F0.row.length rc, .int .i64 F0.steps] 43)) (.cells #[.int .i64 1, .int .u32 0, .slice none 0 0, .int .i64 0] 43)) hb2); have hbo := Aside0.mk (blk_below (blk_new (w1.alloc (.cells #[.int .i64 F0.verdict, .int .u32 F0.commits, .slice rA F0.row.length rc, .int .i64 F0.steps] 43)) (.cells #[.int .i64 1, .int .u32 0, .slice none 0 0, .int .i64 0] 43)) hb2); have hcs := Aside0.mk (Kd.R_reads' hO2).2.2; replace hO2 := Aside0.mk hO2; replace hb2 := Aside0.mk hb2)
    go_step3
    go_wp2
    rw [World.size_alloc] at hbo
    have hmax : cs.length ≤ 64 := hcl.out
    replace hcl := Aside0.mk hcl
    have hgg : w.heap.size < w1.heap.size + 1 := by have := hB1.out.size; omega
    go_loopw [11, 13, 14, 15, 34] (fun s _ _ _ i wr => ∃ j lf : Nat, j ≤ cs.length ∧ i = .int .i64 j ∧ lf ≤ bn ∧ s = .int .i64 ((bn : Int) - lf) ∧ Below w.heap.size w wr ∧ Below w2.heap.size w2 wr ∧ Aside0 (strictC (table h) cs bn = strictC (table h) (cs.drop j) lf)) (fun _ _ _ _ i _ => cs.length - (intOf i).toNat)
    case atStart => exact ⟨0, bn, Nat.zero_le _, rfl, Nat.le_refl _, by simp, hB2.out, Below.refl _ _, ⟨rfl⟩⟩
    case round =>
      obtain ⟨j, lf, hj, rfl, hlf, rfl, hbw, hb2w, hrun⟩ := hrel
      by_cases hlt : j < cs.length
      · obtain ⟨ad, c, rfl, hxc, c0⟩ := get_u32 (Kd.C_below hcs.out hb2w) j hlt
        have hcn := hclt.out c (List.mem_of_getElem? hxc.out)
        have hc32 := Aside0.mk (hlt32.out c hcn)
        have hdrop : cs.drop j = c :: cs.drop (j + 1) := by
          rw [List.drop_eq_getElem_cons hlt]
          have := hxc.out
          rw [List.getElem?_eq_getElem hlt] at this
          injection this with this
          rw [this]
        rw [hdrop, strictC_cons] at hrun
        replace hdrop := Aside0.mk hdrop
        have hcost := from_costs (table h) c c ((table h).length + 1) [] 0 lf
        have hsea := Aside0.mk (fun W (hB : Below w.heap.size w W) => hrow.out c lf hc32.out W hB)
        obtain ⟨hrb, hro⟩ := rowOf_ok (h := h) (c := c) (lf := lf) hw0 (by omega) hcn
        rw [hrb, hro] at hsea
        have esub : (bn : Int) - ((bn : Int) - lf) = lf := by omega
        replace hcn := Aside0.mk hcn
        cases hr : rowF (table h) c c lf with
        | mk o x =>
          rw [hr] at hsea hrun
          have hxl : x ≤ lf := by
            have h1 := hcost.1
            have h2 : (fromF (table h) c c ((table h).length + 1) [] 0 lf).2 = x := by
              have : rowF (table h) c c lf = fromF (table h) c c ((table h).length + 1) [] 0 lf := rfl
              rw [← this, hr]
            omega
          clear hcost hrb hro
          replace hr := Aside0.mk hr
          have hadd : (bn : Int) - lf + (lf - x) = bn - x := by omega
          cases o with
          | no =>
            go_wp2_with (go_at_call 43; refine (hsea.out _ hbw).mono ?_; clear hsea; rintro e w3 ⟨⟨rv, rfl, hOf⟩, hb3⟩; obtain ⟨sA, sc, erv⟩ := Kd.R_slice hOf; subst erv; simp only [encFound, rowFound, foundOf]; replace hOf := Aside0.mk hOf; replace hb3 := Aside0.mk hb3)
            go_roundw
            case rel => exact ⟨j + 1, x, by omega, by go_num, by omega, by first | rfl | (rw [← hadd]; go_num) | go_num, below_alloc (below_step hbw hb3.out) _, below_alloc (below_step hb2w hb3.out) _, ⟨hrun.out⟩⟩
            case measure => simp [intOf]; omega
          | unknown =>
            have hm1 := Aside0.mk True.intro
            have hm2 := Aside0.mk True.intro
            have hm3 := Aside0.mk True.intro
            go_wp2_with first
              | (go_at_call 43; refine (hsea.out _ hbw).mono ?_; clear hsea; rintro e w3 ⟨⟨rv, rfl, hOf⟩, hb3⟩; obtain ⟨sA, sc, erv⟩ := Kd.R_slice hOf; subst erv; simp only [encFound, rowFound, foundOf] at hOf ⊢; have hS0 := Aside0.mk (show StrictAt w (w1.heap.size + 1) #[.int .i64 1, .int .u32 0, .slice none 0 0, .int .i64 0] (.slice sA 0 sc) ([] : List Int) (w3.alloc (.cells #[.int .i64 2, .int .u32 0, .slice sA 0 sc, .int .i64 ((lf : Int) - x)] 43)) from ⟨blk_alloc (blk_below (blk_below hbo.out hb2w) hb3) _, blk_alloc (blk_below (blk_below hbk.out hb2w) hb3) _, below_alloc (below_step hbw hb3) _, (hOf.lower hbw.size).below (below_alloc (Below.refl _ _) _)⟩); replace hOf := Aside0.mk hOf; replace hb3 := Aside0.mk hb3)
              | (clear hm1; refine hold_store 43 (.tmp 8) (.tmp 54) rfl _ hS0.out ?_; clear hS0; rintro V1 hS; have f8 := fun j => blk_frozen hS.1 j; have o0 := blk_cell hS.1 0; have o1 := blk_cell hS.1 1; have o2 := blk_cell hS.1 2; have o3 := blk_cell hS.1 3; have fR := fun j => blk_frozen hS.2.1 j; have r0 := blk_cell hS.2.1 0; have r1 := blk_cell hS.2.1 1; have r2 := blk_cell hS.2.1 2; have r3 := blk_cell hS.2.1 3; simp only [List.getElem?_toArray, List.getElem?_cons_zero, List.getElem?_cons_succ] at o0 o1 o2 o3 r0 r1 r2 r3; replace hS := Aside0.mk hS)
              | (clear hm2; refine hold_store 3 (.tmp 59) (.tmp 58) rfl _ (hS.out.set4 hgg _ _ _ _) ?_; clear f8 o0 o1 o2 o3 fR r0 r1 r2 r3; clear hS; rintro V2 hS; have f8 := fun j => blk_frozen hS.1 j; have o0 := blk_cell hS.1 0; have o1 := blk_cell hS.1 1; have o2 := blk_cell hS.1 2; have o3 := blk_cell hS.1 3; have fR := fun j => blk_frozen hS.2.1 j; have r0 := blk_cell hS.2.1 0; have r1 := blk_cell hS.2.1 1; have r2 := blk_cell hS.2.1 2; have r3 := blk_cell hS.2.1 3; simp only [List.getElem?_toArray, List.getElem?_cons_zero, List.getElem?_cons_succ] at o0 o1 o2 o3 r0 r1 r2 r3; replace hS := Aside0.mk hS)
              | (clear hm3; refine hold_load 43 (.tmp 8) rfl _ (hS.out.set3 hgg _) ?_; clear f8 o0 o1 o2 o3 fR r0 r1 r2 r3; clear hS; rintro V3 hS; have f8 := fun j => blk_frozen hS.1 j; have o0 := blk_cell hS.1 0; have o1 := blk_cell hS.1 1; have o2 := blk_cell hS.1 2; have o3 := blk_cell hS.1 3; have fR := fun j => blk_frozen hS.2.1 j; have r0 := blk_cell hS.2.1 0; have r1 := blk_cell hS.2.1 1; have r2 := blk_cell hS.2.1 2; have r3 := blk_cell hS.2.1 3; simp only [List.getElem?_toArray, List.getElem?_cons_zero, List.getElem?_cons_succ] at o0 o1 o2 o3 r0 r1 r2 r3; replace hS := Aside0.mk hS)
            refine bodyPost_ret (results_ct rfl _ _ w.heap.size _ _ _ _ rfl (blk_set4 hS.out.2.1 _ _ _ _) Tryd.underlying43 rfl (by kernel_rfl)) rfl ?_
            rw [hrun.out]
            exact ⟨⟨_, rfl, own_set4 hS.out.2.2.2 hS.out.2.1 (by simp [Kd.int, Kd.scalar]) _ _ _ _⟩, below_set4 hS.out.2.2.1 (Nat.le_refl _) _ _ _ _⟩
          | yes r =>
            have hm1 := Aside0.mk True.intro
            have hm2 := Aside0.mk True.intro
            have hm3 := Aside0.mk True.intro
            go_wp2_with first
              | (go_at_call 43; refine (hsea.out _ hbw).mono ?_; clear hsea; rintro e w3 ⟨⟨rv, rfl, hOf⟩, hb3⟩; obtain ⟨sA, sc, erv⟩ := Kd.R_slice hOf; subst erv; simp only [encFound, rowFound, foundOf, List.length_map] at hOf ⊢; have hS0 := Aside0.mk (show StrictAt w (w1.heap.size + 1) #[.int .i64 1, .int .u32 0, .slice none 0 0, .int .i64 0] (.slice sA r.length sc) (r.map Int.ofNat) (w3.alloc (.cells #[.int .i64 0, .int .u32 c, .slice sA r.length sc, .int .i64 ((lf : Int) - x)] 43)) from ⟨blk_alloc (blk_below (blk_below hbo.out hb2w) hb3) _, blk_alloc (blk_below (blk_below hbk.out hb2w) hb3) _, below_alloc (below_step hbw hb3) _, (hOf.lower hbw.size).below (below_alloc (Below.refl _ _) _)⟩); replace hOf := Aside0.mk hOf; replace hb3 := Aside0.mk hb3)
              | (clear hm1; refine hold_store 43 (.tmp 8) (.tmp 54) rfl _ hS0.out ?_; clear hS0; rintro V1 hS; have f8 := fun j => blk_frozen hS.1 j; have o0 := blk_cell hS.1 0; have o1 := blk_cell hS.1 1; have o2 := blk_cell hS.1 2; have o3 := blk_cell hS.1 3; have fR := fun j => blk_frozen hS.2.1 j; have r0 := blk_cell hS.2.1 0; have r1 := blk_cell hS.2.1 1; have r2 := blk_cell hS.2.1 2; have r3 := blk_cell hS.2.1 3; simp only [List.getElem?_toArray, List.getElem?_cons_zero, List.getElem?_cons_succ] at o0 o1 o2 o3 r0 r1 r2 r3; replace hS := Aside0.mk hS)
              | (clear hm2; refine hold_store 3 (.tmp 59) (.tmp 58) rfl _ (hS.out.set4 hgg _ _ _ _) ?_; clear f8 o0 o1 o2 o3 fR r0 r1 r2 r3; clear hS; rintro V2 hS; have f8 := fun j => blk_frozen hS.1 j; have o0 := blk_cell hS.1 0; have o1 := blk_cell hS.1 1; have o2 := blk_cell hS.1 2; have o3 := blk_cell hS.1 3; have fR := fun j => blk_frozen hS.2.1 j; have r0 := blk_cell hS.2.1 0; have r1 := blk_cell hS.2.1 1; have r2 := blk_cell hS.2.1 2; have r3 := blk_cell hS.2.1 3; simp only [List.getElem?_toArray, List.getElem?_cons_zero, List.getElem?_cons_succ] at o0 o1 o2 o3 r0 r1 r2 r3; replace hS := Aside0.mk hS)
              | (clear hm3; refine hold_load 43 (.tmp 8) rfl _ (hS.out.set3 hgg _) ?_; clear f8 o0 o1 o2 o3 fR r0 r1 r2 r3; clear hS; rintro V3 hS; have f8 := fun j => blk_frozen hS.1 j; have o0 := blk_cell hS.1 0; have o1 := blk_cell hS.1 1; have o2 := blk_cell hS.1 2; have o3 := blk_cell hS.1 3; have fR := fun j => blk_frozen hS.2.1 j; have r0 := blk_cell hS.2.1 0; have r1 := blk_cell hS.2.1 1; have r2 := blk_cell hS.2.1 2; have r3 := blk_cell hS.2.1 3; simp only [List.getElem?_toArray, List.getElem?_cons_zero, List.getElem?_cons_succ] at o0 o1 o2 o3 r0 r1 r2 r3; replace hS := Aside0.mk hS)
            refine bodyPost_ret (results_ct rfl _ _ w.heap.size _ _ _ _ rfl (blk_set4 hS.out.2.1 _ _ _ _) Tryd.underlying43 rfl (by kernel_rfl)) rfl ?_
            rw [hrun.out]
            exact ⟨⟨.slice sA r.length sc, rfl, own_set4 hS.out.2.2.2 hS.out.2.1 (by simp [Kd.int, Kd.scalar]) _ _ _ _⟩, below_set4 hS.out.2.2.1 (Nat.le_refl _) _ _ _ _⟩
      · obtain rfl : j = cs.length := by omega
        rw [List.drop_length] at hrun
        have hS0 : StrictAt w (w1.heap.size + 1) #[.int .i64 1, .int .u32 0, .slice none 0 0, .int .i64 0] (.slice none 0 0) ([] : List Int) wr := ⟨blk_below hbo.out hb2w, blk_below hbk.out hb2w, hbw, Own.nil _ _ _ _⟩
        have hm2 := Aside0.mk True.intro
        have hm3 := Aside0.mk True.intro
        replace hS0 := Aside0.mk hS0
        go_wp2_with first
          | (clear hm2; refine hold_store 3 (.tmp 59) (.tmp 58) rfl _ hS0.out ?_; clear hS0; rintro V2 hS; have f8 := fun j => blk_frozen hS.1 j; have o0 := blk_cell hS.1 0; have o1 := blk_cell hS.1 1; have o2 := blk_cell hS.1 2; have o3 := blk_cell hS.1 3; have fR := fun j => blk_frozen hS.2.1 j; have r0 := blk_cell hS.2.1 0; have r1 := blk_cell hS.2.1 1; have r2 := blk_cell hS.2.1 2; have r3 := blk_cell hS.2.1 3; simp only [List.getElem?_toArray, List.getElem?_cons_zero, List.getElem?_cons_succ] at o0 o1 o2 o3 r0 r1 r2 r3; replace hS := Aside0.mk hS)
          | (clear hm3; refine hold_load 43 (.tmp 8) rfl _ (hS.out.set3 hgg _) ?_; clear f8 o0 o1 o2 o3 fR r0 r1 r2 r3; clear hS; rintro V3 hS; have f8 := fun j => blk_frozen hS.1 j; have o0 := blk_cell hS.1 0; have o1 := blk_cell hS.1 1; have o2 := blk_cell hS.1 2; have o3 := blk_cell hS.1 3; have fR := fun j => blk_frozen hS.2.1 j; have r0 := blk_cell hS.2.1 0; have r1 := blk_cell hS.2.1 1; have r2 := blk_cell hS.2.1 2; have r3 := blk_cell hS.2.1 3; simp only [List.getElem?_toArray, List.getElem?_cons_zero, List.getElem?_cons_succ] at o0 o1 o2 o3 r0 r1 r2 r3; replace hS := Aside0.mk hS)
        rw [Exit.noGoto_ret]
        refine bodyPost_ret (results_ct rfl _ _ w.heap.size _ _ _ _ rfl (blk_set4 hS.out.2.1 _ _ _ _) Tryd.underlying43 rfl (by kernel_rfl)) rfl ?_
        rw [hrun.out]
        exact ⟨⟨.slice none 0 0, rfl, own_set4 hS.out.2.2.2 hS.out.2.1 (by simp [Kd.int, Kd.scalar]) _ _ _ _⟩, below_set4 hS.out.2.2.1 (Nat.le_refl _) _ _ _ _⟩
end Go.Proofs.YtnogalajfccioaaDoor
