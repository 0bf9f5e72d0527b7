/- Layer 12 (serial): may, Search. -/
import Derived.Test.YtnogalajfccioaaDoorSerial3
import Derived.Test.YtnogalajfccioaaDoorP4
namespace Go.Proofs.YtnogalajfccioaaDoor
open Go.RowKit Go.Proofs.YtnogalajfccioaaDoorW.PrintWords
def mayB (h : List Ev) (budget : Int) : Int := if why h ≠ 0 then why h else if budget < 0 ∨ 1000000 < budget then 1 else 0
set_option maxRecDepth 100000 in
set_option maxHeartbeats 1000000 in
theorem mayS_c (h : List Ev) (budget : Int) (v : Value) (w : World) (hv : In kEv w v h) (hk : Kinds w) :
    Calls Tryd.prog 45 #[v, .int .i64 budget] w fun e w' => RetE kU32 30 w w' (if mayB h budget = 0 then after (table h) else []) (mayB h budget) e ∧ Below w.heap.size w w' := by
  have ht := Aside0.mk (Table_c h v w hv hk)
  have hA := Aside0.mk (fun W hb => After_c h v W (hv.below (w1 := W) hb) (hk.below hb))
  replace hv := Aside0.mk hv
  replace hk := Aside0.mk hk
  go_enter Tryd.func45, Tryd.ntmps45
  cases hw : (why h == 0) with
  | false =>
    have hw1 : why h ≠ 0 := by simpa using hw
    have hx := Aside0.mk (show mayB h budget = why h by unfold mayB; rw [if_pos hw1])
    rw [hx.out, if_neg hw1]
    replace hw1 : (why h != 0) = true := by simpa using hw1
    go_wp2_with (go_at_call 11; refine ht.out.mono ?_; rintro e w1 ⟨⟨u, rfl, hO⟩, hb⟩)
    go_ret2
    exact ⟨⟨_, rfl, Own.nil _ _ _ _⟩, hb⟩
  | true =>
    have hw0 : why h = 0 := by simpa using hw
    by_cases hlo : budget < 0
    · have hx := Aside0.mk (show mayB h budget = 1 by unfold mayB; rw [if_neg (by simp [hw0]), if_pos (.inl hlo)])
      rw [hx.out, if_neg (by decide)]
      rw [hw0] at ht
      go_wp2_with (go_at_call 11; refine ht.out.mono ?_; rintro e w1 ⟨⟨u, rfl, hO⟩, hb⟩)
      go_ret2
      exact ⟨⟨_, rfl, Own.nil _ _ _ _⟩, hb⟩
    · by_cases hhi : 1000000 < budget
      · have hx := Aside0.mk (show mayB h budget = 1 by unfold mayB; rw [if_neg (by simp [hw0]), if_pos (.inr hhi)])
        rw [hx.out, if_neg (by decide)]
        rw [hw0] at ht
        go_wp2_with (go_at_call 11; refine ht.out.mono ?_; rintro e w1 ⟨⟨u, rfl, hO⟩, hb⟩)
        go_ret2
        exact ⟨⟨_, rfl, Own.nil _ _ _ _⟩, hb⟩
      · have hx := Aside0.mk (show mayB h budget = 0 by unfold mayB; rw [if_neg (by simp [hw0]), if_neg (by omega)])
        have hy := Aside0.mk (show afterOf h = after (table h) by simp [afterOf, hw0])
        rw [hx.out, if_pos rfl]
        rw [hw0] at ht
        rw [hy.out, hw0] at hA
        clear hw
        replace hw0 := Aside0.mk hw0
        go_wp2_with first
          | (go_at_call 11; refine ht.out.mono ?_; clear ht; rintro e w1 ⟨⟨u, rfl, hO⟩, hb⟩; replace hO := Aside0.mk hO; replace hb := Aside0.mk hb)
          | (go_at_call 26; refine (hA.out _ hb.out).mono ?_; clear hA; rintro e w2 ⟨⟨u2, rfl, hO2⟩, hb2⟩; replace hO2 := Aside0.mk hO2; replace hb2 := Aside0.mk hb2)
        go_ret2
        exact ⟨⟨_, rfl, hO2.out.lower hb.out.size⟩, below_step hb.out hb2.out⟩
theorem blk_set4 {w : World} {g : Nat} {t : TypeId} {a0 a1 a2 a3 : Value} (h : w.heap[g]? = some (.cells #[a0, a1, a2, a3] t (0, 0))) (b0 b1 b2 b3 : Value) :
    ((((w.setCell ⟨g, 0, none⟩ b0).setCell ⟨g, 1, none⟩ b1).setCell ⟨g, 2, none⟩ b2).setCell ⟨g, 3, none⟩ b3).heap[g]? = some (.cells #[b0, b1, b2, b3] t (0, 0)) :=
  blk_put (blk_put (blk_put (blk_put h 0 b0 rfl) 1 b1 rfl) 2 b2 rfl) 3 b3 rfl
theorem below_set4 {B g : Nat} {w0 w : World} (h : Below B w0 w) (hg : B ≤ g) (b0 b1 b2 b3 : Value) :
    Below B w0 ((((w.setCell ⟨g, 0, none⟩ b0).setCell ⟨g, 1, none⟩ b1).setCell ⟨g, 2, none⟩ b2).setCell ⟨g, 3, none⟩ b3) :=
  (((h.setCell (p := ⟨g, 0, none⟩) hg b0).setCell (p := ⟨g, 1, none⟩) hg b1).setCell (p := ⟨g, 2, none⟩) hg b2).setCell (p := ⟨g, 3, none⟩) hg b3
def searchOf (h : List Ev) (budget : Int) : Found := if mayB h budget = 0 then search (table h) budget.toNat else zFound
/-- A result: what was found, and an error. -/
def RetF (w0 w : World) (f : Found) (bad : Int) (e : Ending) : Prop := ∃ rv, e = .returned (.tuple #[encFound f rv, .int .i64 bad]) ∧ Own (Kd.int .i64) 3 w0 w rv f.row
theorem searchC_cons (l : List Txn) (c : Nat) (cs : List Nat) (left : Nat) : searchC l (c :: cs) left = match rowF l (allOf l) c left with
    | (.no, left') => searchC l cs left'
    | (o, left') => (o, c, left') := rfl
theorem allOf_u32 {l : List Txn} (hl : l.length ≤ 6) : ((2 : Int) ^ l.length % 4294967296 - 1) % 4294967296 = ((allOf l : Nat) : Int) := by
  unfold allOf
  match h : l.length, hl with
  | 0, _ => rfl
  | 1, _ => rfl
  | 2, _ => rfl
  | 3, _ => rfl
  | 4, _ => rfl
  | 5, _ => rfl
  | 6, _ => rfl
  | n + 7, hl => omega
theorem search_kept {w2 wr w3 : World} {o o' : Obj} {k : Nat} (h : w2.heap[k]? = some o) (hb : Below w2.heap.size w2 wr) (hO : Only (Is wr.heap.size) (wr.alloc o') w3) : w3.heap[k]? = some o := by
  have h1 := blk_below h hb
  have hk := blk_lt h1
  exact (hO.block k (by simp; omega) (fun e => by have e2 : k = wr.heap.size := e; omega)).trans (blk_alloc h1 o')
theorem search_below {B : Nat} {w wr w3 : World} {o' : Obj} (h : Below B w wr) (hO : Only (Is wr.heap.size) (wr.alloc o') w3) (hB : B ≤ wr.heap.size) : Below B w w3 :=
  (h.alloc hB o').trans (hO.below (by simp; omega) (fun k hk => by cases hk; exact hB))
theorem own_set4 {α : Type} {d : Kd α} {e : Nat} {w0 W : World} {v : Value} {xs : List α} {g : Nat} {t : Nat} {a0 a1 a2 a3 : Value} (h : Own d e w0 W v xs) (hb : W.heap[g]? = some (.cells #[a0, a1, a2, a3] t (0, 0))) (ht : ∀ q, q ∈ e :: d.E → q ≠ t) (b0 b1 b2 b3 : Value) :
    Own d e w0 ((((W.setCell ⟨g, 0, none⟩ b0).setCell ⟨g, 1, none⟩ b1).setCell ⟨g, 2, none⟩ b2).setCell ⟨g, 3, none⟩ b3) v xs :=
  h.is (b := g) (only_set (only_set (only_set (only_set (Only.refl _ _) _ _) _ _) _ _) _ _) hb ht
set_option maxRecDepth 100000 in
set_option maxHeartbeats 1000000 in
theorem Search_c (h : List Ev) (budget : Int) (v : Value) (w : World) (hv : In kEv w v h) (hk : Kinds w) :
    Calls Tryd.prog 16 #[v, .int .i64 budget] w fun e w' => RetF w w' (searchOf h budget) (mayB h budget) e ∧ Below w.heap.size w w' := by
  have hm := Aside0.mk (fun W hb => mayS_c h budget v W (hv.below (w1 := W) hb) (hk.below hb))
  have hC := Aside0.mk (fun W hb => Choices_c h v W (hv.below (w1 := W) hb) (hk.below hb))
  replace hv := Aside0.mk hv
  replace hk := Aside0.mk hk
  go_enter Tryd.func16, Tryd.ntmps16
  cases hw : (mayB h budget == 0) with
  | false =>
    have hw1 : mayB h budget ≠ 0 := by simpa using hw
    have hx := Aside0.mk (show searchOf h budget = zFound by unfold searchOf; rw [if_neg hw1])
    rw [hx.out]
    replace hw1 : (mayB h budget != 0) = true := by simpa using hw1
    go_wp2_with (go_at_call 45; refine (hm.out _ (below_alloc (Below.refl _ _) _)).mono ?_; clear hm; rintro e w1 ⟨⟨u, rfl, hO⟩, hb⟩; have hbk := blk_below (blk_new w (.cells #[.int .i64 0, .int .u32 0, .slice none 0 0, .int .i64 0] 43)) hb; have f0 := fun j => blk_frozen hbk j; have q0 := blk_cell hbk 0; have q1 := blk_cell hbk 1; have q2 := blk_cell hbk 2; have q3 := blk_cell hbk 3; simp only [List.getElem?_toArray, List.getElem?_cons_zero, List.getElem?_cons_succ] at q0 q1 q2 q3; replace hbk := Aside0.mk hbk; replace hO := Aside0.mk hO; replace hb := Aside0.mk hb)
    refine bodyPost_ret (results_ct rfl _ _ w.heap.size _ _ _ _ rfl (blk_set4 hbk.out _ _ _ _) Tryd.underlying43 rfl (by kernel_rfl)) rfl ?_
    exact ⟨⟨.slice none 0 0, rfl, Own.nil _ _ _ _⟩, below_set4 (below_step (below_alloc (Below.refl _ _) _) hb.out) (Nat.le_refl _) _ _ _ _⟩
  | true =>
    have hm0 : mayB h budget = 0 := by simpa using hw
    have hw0 : why h = 0 := by
      unfold mayB at hm0
      split at hm0
      · assumption
      · rename_i h1
        simpa using h1
    have hbud : 0 ≤ budget ∧ budget ≤ 1000000 := by
      unfold mayB at hm0
      rw [if_neg (by simp [hw0])] at hm0
      split at hm0
      · cases hm0
      · omega
    obtain ⟨bn, rfl⟩ : ∃ bn : Nat, budget = bn := ⟨budget.toNat, by omega⟩
    have hbn : bn ≤ 1000000 := by omega
    have hx := Aside0.mk (show searchOf h (bn : Int) = foundOf bn (searchC (table h) (choices (table h)) bn) by unfold searchOf; rw [if_pos hm0, Int.toNat_natCast]; rfl)
    have hl6 := table_len hw0
    rw [hx.out, hm0]
    rw [hm0, if_pos rfl] at hm
    rw [hw0, if_pos rfl] at hC
    clear hw hbud
    replace hm0 := Aside0.mk hm0
    obtain ⟨vA, vc, ev⟩ : ∃ A c, v = .slice A h.length c := by obtain ⟨A, c, e, _⟩ := hv.out; exact ⟨A, c, e⟩
    subst ev
    have hal := Aside0.mk (after_len (table h))
    have hcl := Aside0.mk (choices_len (table h))
    have hall := allOf_u32 hl6
    have hclt : Aside0 (∀ c, c ∈ choices (table h) → c < 2 ^ 32) := ⟨fun c hc => by
      unfold choices at hc
      have := List.mem_range.1 (List.mem_filter.1 hc).1
      omega⟩
    generalize choices (table h) = cs at *
    have hallt := Aside0.mk (show allOf (table h) < 2 ^ (table h).length by unfold allOf; have := Nat.two_pow_pos (table h).length; omega)
    go_wp2_with first
      | (go_at_call 45; refine (hm.out _ (below_alloc (Below.refl _ _) _)).mono ?_; clear hm; rintro e w1 ⟨⟨u, rfl, hO⟩, hb⟩; obtain ⟨aA, ac, ea⟩ := Kd.R_slice hO; rw [hal.out] at ea; subst ea; have hB1 := Aside0.mk (below_step (below_alloc (Below.refl _ _) (.cells #[.int .i64 0, .int .u32 0, .slice none 0 0, .int .i64 0] 43)) hb); have hbk := Aside0.mk (blk_below (blk_new w (.cells #[.int .i64 0, .int .u32 0, .slice none 0 0, .int .i64 0] 43)) hb); replace hO := Aside0.mk hO; replace hb := Aside0.mk hb)
      | (go_at_call 25; refine (hC.out _ hB1.out).mono ?_; clear hC; rintro e w2 ⟨⟨u2, rfl, hO2⟩, hb2⟩; obtain ⟨cA, cc, ec⟩ := Kd.R_slice hO2; subst ec; replace hbk := Aside0.mk (blk_below hbk.out hb2); have hB2 := Aside0.mk (below_step hB1.out hb2); have hav := Aside0.mk ((hO.out.below hb2).inn); have hcs := Aside0.mk (Kd.R_reads' hO2).2.2; replace hO2 := Aside0.mk hO2; replace hb2 := Aside0.mk hb2)
    have hmax : cs.length ≤ 64 := hcl.out
    replace hcl := Aside0.mk hcl
    go_loopw [10, 12, 13, 31] (fun s _ _ i wr => ∃ j lf : Nat, j ≤ cs.length ∧ i = .int .i64 j ∧ lf ≤ bn ∧ s = .int .i64 ((bn : Int) - lf) ∧ Below w.heap.size w wr ∧ Below w2.heap.size w2 wr ∧ Aside0 (searchC (table h) cs bn = searchC (table h) (cs.drop j) lf)) (fun _ _ _ i _ => cs.length - (intOf i).toNat)
    case atStart => exact ⟨0, bn, Nat.zero_le _, rfl, Nat.le_refl _, by simp, hB2.out, Below.refl _ _, ⟨rfl⟩⟩
    case round =>
      obtain ⟨j, lf, hj, rfl, hlf, rfl, hbw, hb2w, hrun⟩ := hrel
      by_cases hlt : j < cs.length
      · obtain ⟨ad, c, rfl, hxc, c0⟩ := get_u32 (Kd.C_below hcs.out hb2w) j hlt
        have hc32 := Aside0.mk (hclt.out c (List.mem_of_getElem? hxc.out))
        have hdrop : cs.drop j = c :: cs.drop (j + 1) := by
          rw [List.drop_eq_getElem_cons hlt]
          have := hxc.out
          rw [List.getElem?_eq_getElem hlt] at this
          injection this with this
          rw [this]
        rw [hdrop, searchC_cons] at hrun
        replace hdrop := Aside0.mk hdrop
        have hcost := from_costs (table h) (allOf (table h)) c ((table h).length + 1) [] 0 lf
        have hsea := Aside0.mk (fun W (hB : Below w2.heap.size w2 W) hS => search_c (h := h) hw0 (w0 := w2) (hv.out.below hB2.out) (hk.out.below hB2.out) hav.out (b := wr.heap.size) hb2w.size (who := allOf (table h)) (c := c) hallt.out hc32.out lf (by omega) W hB hS)
        have esub : (bn : Int) - ((bn : Int) - lf) = lf := by omega
        cases hr : rowF (table h) (allOf (table h)) c lf with
        | mk o x =>
          rw [hr] at hsea hrun
          have hxl : x ≤ lf := by
            have h1 := hcost.1
            have h2 : (fromF (table h) (allOf (table h)) c ((table h).length + 1) [] 0 lf).2 = x := by
              have : rowF (table h) (allOf (table h)) c lf = fromF (table h) (allOf (table h)) c ((table h).length + 1) [] 0 lf := rfl
              rw [← this, hr]
            omega
          clear hcost
          replace hr := Aside0.mk hr
          have hadd : (bn : Int) - lf + (lf - x) = bn - x := by omega
          cases o with
          | no =>
            go_wp2_with (go_at_call 46; refine (hsea.out _ (below_alloc hb2w _) (blk_new _ _)).mono ?_; clear hsea; rintro e w3 ⟨rv, rfl, hOf, hO3⟩; obtain ⟨rA, rc, erv⟩ := Kd.R_slice hOf; subst erv; have hbk3 := search_kept hbk.out hb2w hO3; have f0 := fun o j => blk_frozen (blk_alloc hbk3 o) j; have q0 := fun o => blk_cell (blk_alloc hbk3 o) 0; have q1 := fun o => blk_cell (blk_alloc hbk3 o) 1; have q2 := fun o => blk_cell (blk_alloc hbk3 o) 2; have q3 := fun o => blk_cell (blk_alloc hbk3 o) 3; simp only [List.getElem?_toArray, List.getElem?_cons_zero, List.getElem?_cons_succ] at q0 q1 q2 q3; have hb3 := Aside0.mk (search_below hbw hO3 (Nat.le_trans hB2.out.size hb2w.size)); have hb32 := Aside0.mk (search_below hb2w hO3 hb2w.size); replace hOf := Aside0.mk hOf; replace hO3 := Aside0.mk hO3; replace hbk3 := Aside0.mk hbk3; simp only [encFound, rowFound, foundOf, List.length_nil])
            go_roundw
            case rel => exact ⟨j + 1, x, by omega, by go_num, by omega, by first | rfl | (rw [← hadd]; go_num) | go_num, below_alloc hb3.out _, below_alloc hb32.out _, ⟨hrun.out⟩⟩
            case measure => simp [intOf]; omega
          | unknown =>
            go_wp2_with (go_at_call 46; refine (hsea.out _ (below_alloc hb2w _) (blk_new _ _)).mono ?_; clear hsea; rintro e w3 ⟨rv, rfl, hOf, hO3⟩; obtain ⟨rA, rc, erv⟩ := Kd.R_slice hOf; subst erv; have hbk3 := search_kept hbk.out hb2w hO3; have f0 := fun o j => blk_frozen (blk_alloc hbk3 o) j; have q0 := fun o => blk_cell (blk_alloc hbk3 o) 0; have q1 := fun o => blk_cell (blk_alloc hbk3 o) 1; have q2 := fun o => blk_cell (blk_alloc hbk3 o) 2; have q3 := fun o => blk_cell (blk_alloc hbk3 o) 3; simp only [List.getElem?_toArray, List.getElem?_cons_zero, List.getElem?_cons_succ] at q0 q1 q2 q3; have hb3 := Aside0.mk (search_below hbw hO3 (Nat.le_trans hB2.out.size hb2w.size)); have hb32 := Aside0.mk (search_below hb2w hO3 hb2w.size); replace hOf := Aside0.mk hOf; replace hO3 := Aside0.mk hO3; replace hbk3 := Aside0.mk hbk3; simp only [encFound, rowFound, foundOf, List.length_nil])
            refine bodyPost_ret (results_ct rfl _ _ w.heap.size _ _ _ _ rfl (blk_set4 (blk_alloc hbk3.out _) _ _ _ _) Tryd.underlying43 rfl (by kernel_rfl)) rfl ?_
            rw [hrun.out]
            exact ⟨⟨_, rfl, own_set4 ((hOf.out.below (below_alloc (Below.refl _ _) _)).lower hB2.out.size) (blk_alloc hbk3.out _) (by simp [Kd.int, Kd.scalar]) _ _ _ _⟩, below_set4 (hb3.out.alloc (Nat.le_trans hb3.out.size (Nat.le_refl _)) _) (Nat.le_refl _) _ _ _ _⟩
          | yes r =>
            go_wp2_with (go_at_call 46; refine (hsea.out _ (below_alloc hb2w _) (blk_new _ _)).mono ?_; clear hsea; rintro e w3 ⟨rv, rfl, hOf, hO3⟩; obtain ⟨rA, rc, erv⟩ := Kd.R_slice hOf; subst erv; have hbk3 := search_kept hbk.out hb2w hO3; have f0 := fun o j => blk_frozen (blk_alloc hbk3 o) j; have q0 := fun o => blk_cell (blk_alloc hbk3 o) 0; have q1 := fun o => blk_cell (blk_alloc hbk3 o) 1; have q2 := fun o => blk_cell (blk_alloc hbk3 o) 2; have q3 := fun o => blk_cell (blk_alloc hbk3 o) 3; simp only [List.getElem?_toArray, List.getElem?_cons_zero, List.getElem?_cons_succ] at q0 q1 q2 q3; have hb3 := Aside0.mk (search_below hbw hO3 (Nat.le_trans hB2.out.size hb2w.size)); have hb32 := Aside0.mk (search_below hb2w hO3 hb2w.size); replace hOf := Aside0.mk hOf; replace hO3 := Aside0.mk hO3; replace hbk3 := Aside0.mk hbk3; simp only [encFound, rowFound, foundOf])
            refine bodyPost_ret (results_ct rfl _ _ w.heap.size _ _ _ _ rfl (blk_set4 (blk_alloc hbk3.out _) _ _ _ _) Tryd.underlying43 rfl (by kernel_rfl)) rfl ?_
            rw [hrun.out]
            have hOf9 : Own (Kd.int .i64) 3 w2 w3 (.slice rA r.length rc) (r.map Int.ofNat) := by
              have h9 := hOf.out
              simp only [rowFound, foundOf, List.length_map] at h9
              exact h9
            exact ⟨⟨.slice rA r.length rc, rfl, own_set4 ((hOf9.below (below_alloc (Below.refl _ _) _)).lower hB2.out.size) (blk_alloc hbk3.out _) (by simp [Kd.int, Kd.scalar]) _ _ _ _⟩, below_set4 (hb3.out.alloc (Nat.le_trans hb3.out.size (Nat.le_refl _)) _) (Nat.le_refl _) _ _ _ _⟩
      · obtain rfl : j = cs.length := by omega
        rw [List.drop_length] at hrun
        have hbw2 := blk_below hbk.out hb2w
        have f0 := fun j => blk_frozen hbw2 j
        have q0 := blk_cell hbw2 0
        have q1 := blk_cell hbw2 1
        have q2 := blk_cell hbw2 2
        have q3 := blk_cell hbw2 3
        simp only [List.getElem?_toArray, List.getElem?_cons_zero, List.getElem?_cons_succ] at q0 q1 q2 q3
        replace hbw2 := Aside0.mk hbw2
        go_wp2
        refine bodyPost_ret (results_ct rfl _ _ w.heap.size _ _ _ _ rfl (blk_set4 hbw2.out _ _ _ _) Tryd.underlying43 rfl (by kernel_rfl)) rfl ?_
        rw [hrun.out]
        exact ⟨⟨.slice none 0 0, rfl, Own.nil _ _ _ _⟩, below_set4 hbw (Nat.le_refl _) _ _ _ _⟩
end Go.Proofs.YtnogalajfccioaaDoor
