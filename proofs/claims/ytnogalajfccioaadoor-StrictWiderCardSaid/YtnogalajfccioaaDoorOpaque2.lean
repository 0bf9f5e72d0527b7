/- Layer 13 (opaque): Check. -/
import Derived.Test.YtnogalajfccioaaDoorOpaque
import Derived.Test.YtnogalajfccioaaDoorAny
namespace Go.Proofs.YtnogalajfccioaaDoor
open Go.RowKit Go.Shelf Go.Proofs.YtnogalajfccioaaDoorW.PrintWords
attribute [local go_sem] Oper.semAt_some
/-! ### the loop, plain -/
def chkStep (h : List Ev) (b : Nat) (out : Checked) (x : Nat) : Checked := ⟨(search (table (h.take x)) b).verdict, x, (search (table (h.take x)) b).commits, (search (table (h.take x)) b).row, out.steps + (search (table (h.take x)) b).steps⟩
def chkStop (h : List Ev) (b : Nat) (out : Checked) (x : Nat) : Checked := ⟨(search (table (h.take x)) b).verdict, x, out.commits, out.row, out.steps + (search (table (h.take x)) b).steps⟩
def accF {M : Nat} (h : List Ev) (b : Nat) (pre : List (Fin M)) : Checked := pre.foldl (fun o x => chkStep h b o x.1) zChecked
def yesB (h : List Ev) (b x : Nat) : Prop := (search (table (h.take x)) b).verdict = 0
theorem accF_snoc {M : Nat} (h : List Ev) (b : Nat) (pre : List (Fin M)) (x : Fin M) : accF h b (pre ++ [x]) = chkStep h b (accF h b pre) x.1 := by simp [accF, List.foldl_append]
theorem accF_up {M : Nat} (h : List Ev) (b : Nat) : ∀ t, t ≤ M → accF h b (up M t) = (List.range t).foldl (chkStep h b) zChecked := by
  intro t
  induction t with
  | zero => intro _; rfl
  | succ t ih =>
    intro ht
    rw [up_succ (by omega), accF_snoc, ih (by omega), List.range_succ, List.foldl_append]
    rfl
theorem checkL_run (h : List Ev) (b : Nat) : ∀ d k out t, t ≤ d → (∀ j, k ≤ j → j < k + t → yesB h b j) → checkL h b d k out = checkL h b (d - t) (k + t) ((List.range' k t).foldl (chkStep h b) out) := by
  intro d
  induction d with
  | zero =>
    intro k out t ht _
    obtain rfl : t = 0 := by omega
    rfl
  | succ d ih =>
    intro k out t ht hy
    cases t with
    | zero => rfl
    | succ t =>
      have h0 : (search (table (h.take k)) b).verdict = 0 := hy k (Nat.le_refl _) (by omega)
      rw [List.range'_succ, List.foldl_cons, show d + 1 - (t + 1) = d - t by omega, show k + (t + 1) = k + 1 + t by omega, ← ih (k + 1) _ t (by omega) (fun j h1 h2 => hy j (by omega) (by omega))]
      conv => lhs; unfold checkL
      simp only [h0, if_true]
      unfold chkStep
      rw [h0]
theorem check_done {h : List Ev} {b : Nat} (hy : ∀ j, j < h.length + 1 → yesB h b j) : checkF h b = accF h b (List.finRange (h.length + 1)) := by
  unfold checkF
  rw [checkL_run h b _ 0 _ (h.length + 1) (Nat.le_refl _) (fun j _ h2 => hy j (by omega)), Nat.sub_self, ← up_all, accF_up _ _ _ (Nat.le_refl _), List.range_eq_range']
  rfl
theorem check_stop {h : List Ev} {b t : Nat} (ht : t < h.length + 1) (hy : ∀ j, j < t → yesB h b j) (hn : ¬ yesB h b t) : checkF h b = chkStop h b (accF h b (up (h.length + 1) t)) t := by
  unfold checkF
  rw [checkL_run h b _ 0 _ t (by omega) (fun j _ h2 => hy j (by omega)), Nat.zero_add, show h.length + 1 - t = (h.length - t) + 1 by omega, accF_up _ _ _ (by omega), ← List.range_eq_range']
  unfold checkL
  have hn2 : ¬ (search (table (h.take t)) b).verdict = 0 := hn
  simp only [hn2, if_false]
  rfl
theorem search_steps (l : List Txn) (b : Nat) : 0 ≤ (search l b).steps ∧ (search l b).steps ≤ b := by
  have h := (searchC_costs l (choices l) b).1
  unfold search
  cases hs : searchC l (choices l) b with
  | mk o q =>
    obtain ⟨c, x⟩ := q
    rw [hs] at h
    simp only at h
    cases o <;> simp only [foundOf] <;> omega
theorem search_verdict (l : List Txn) (b : Nat) : 0 ≤ (search l b).verdict ∧ (search l b).verdict ≤ 2 := by
  unfold search
  cases hs : searchC l (choices l) b with
  | mk o q =>
    obtain ⟨c, x⟩ := q
    cases o <;> simp [foundOf]
theorem accF_steps {M : Nat} (h : List Ev) (b : Nat) (pre : List (Fin M)) : 0 ≤ (accF h b pre).steps ∧ (accF h b pre).steps ≤ (pre.length : Int) * b := by
  induction pre using snocRec with
  | h0 => simp [accF, zChecked]
  | hs l x ih =>
    rw [accF_snoc]
    have := search_steps (table (h.take x.1)) b
    simp only [chkStep, List.length_append, List.length_cons, List.length_nil, Nat.zero_add, Int.natCast_add, Int.add_mul]
    omega
def encChk (x : Checked) (rv : Value) : Array Value := #[.int .i64 x.verdict, .int .i64 x.place, .int .u32 x.commits, rv, .int .i64 x.steps]
def checkOf (h : List Ev) (budget : Int) : Checked := if mayB h budget = 0 then checkF h budget.toNat else zChecked
def RetK (w0 w : World) (f : Checked) (bad : Int) (e : Ending) : Prop := ∃ rv, e = .returned (.tuple #[.agg (encChk f rv), .int .i64 bad]) ∧ Own (Kd.int .i64) 3 w0 w rv f.row
/-! ### what a round keeps -/
theorem keeps_below {B : Nat} {W W' : World} (h : Below W.heap.size W W') : KeepsFrom B W W' := ⟨h.size, fun _ _ _ h2 _ => blk_below h2 h⟩
theorem from_ex {β : Type} {B b : Nat} {t : TypeId} {w : World} {d : Kd Int} {e : Nat} (f : β → Value → Array Value) (g : β → List Int) :
    OwnFrom B (fun (s : β) W => ∃ rv, W.heap[b]? = some (.cells (f s rv) t (0, 0)) ∧ Own d e w W rv (g s)) := by
  rintro s W W' row ⟨rv, h1, h2⟩ hg hr
  have e1 := (blk_from (β := Unit) (b := b) (cs := f s rv) (t := t) (fr := (0, 0)) (B := B)) () W W' row h1 hg hr
  have e2 := (own_from (β := Unit) (d := d) (e := e) (w0 := w) (v := rv) (f := fun _ => g s) (B := B)) () W W' row h2 hg hr
  exact ⟨rv, e1, e2⟩
theorem In.take {α : Type} {d : Kd α} {w : World} {A : Option Addr} {n c k : Nat} {xs : List α} (h : In d w (.slice A n c) xs) (hk : k ≤ n) : In d w (.slice A k c) (xs.take k) := by
  obtain ⟨A', c', e, hle, h1, h2, h3⟩ := h
  cases e
  have hl : (xs.take k).length = k := by simp; omega
  refine ⟨A, c, by rw [hl], by omega, hl.trans hl.symm, by omega, fun hp => ?_⟩
  obtain ⟨ad, ea, hc⟩ := h3 (by omega)
  refine ⟨ad, ea, fun j p hj => hc j p ?_⟩
  rw [List.getElem?_take] at hj
  split at hj
  · exact hj
  · cases hj
theorem from_size {β : Type} {B : Nat} (n : Nat) : OwnFrom B (fun (_ : β) W => n ≤ W.heap.size) := fun _ _ _ _ h hg _ => Nat.le_trans h hg.size
theorem from_pure {β : Type} {B : Nat} (p : β → Prop) : OwnFrom B (fun (s : β) _ => p s) := fun _ _ _ _ h _ _ => h
theorem rf_own {F : Fence} {n : Nat} {P : Program} {α : Type} {g : Operand} {ps : Array Tmp} {assign body : Code} {Q : Exit → Act → World → Prop} {a : Act} {w : World}
    (hro : F.round = none) (h1 : 1 ≤ n) {gf : Nat} {lb : Array Value} (hg : a.eval g = .func (.func gf) #[] lb) (hFg : F.fn gf) (eg : ∀ args w, (callFunc gf args).run P w = .ok (.enter gf args) w)
    {encs : α → Array Value} {Kp : World → World → Prop} {S Sp : List α → Prop} {N : Nat} {w0 : World} (hseq : SeqStopsK F (n - 1) P gf lb encs Kp S Sp N w0)
    (hKt : ∀ {A B C : World}, Kp A B → Kp B C → Kp A C) (hKb : ∀ (W : World) (l : Nat) (o o' : Obj), w.heap.size ≤ l → W.heap[l]? = some o → o.isCells = false → o.isWalk = false → Kp W (W.putObj l o')) (hb0 : Below w0.heap.size w0 w) (hps : ∀ x, (encs x).size = ps.size)
    (I : List α → World → Prop) (Ix : Code → List α → World → Prop) (hI : OwnFrom w.heap.size I) (hIx : ∀ c, OwnFrom w.heap.size (Ix c)) (h0 : I [] w) (f : Act → α → Act)
    (hassign : ∀ (l : Nat) (x : α) (W : World) (K : Act → World → Prop), K (f a x) W →
      assign.wpIn (F.inRound l) (n - 1 - 1) P (Exit.then K (fun _ _ _ => False)) { tmps := (ps.zip (encs x)).foldl (fun t (p, v) => t.setIfInBounds p v) a.tmps, defers := [] } W)
    (hbody : ∀ (l : Nat) (pre : List α) (x : α) (W : World), I pre W → pre.length < N → body.wpIn (F.inRound l) (n - 1 - 1) P (ownPostG w.heap.size Kp I Ix (pre ++ [x]) W) (f a x) W)
    (hdone : ∀ (D : Nat) (xs : List α) (W : World), w.heap.size ≤ D → S xs → I xs W → W.heap[D]? = some (.deferred (some [])) → Q .normal { a with defers := { target := .collected D, args := #[] } :: a.defers } W)
    (hstop : ∀ (D : Nat) (c : Code) (pre : List α) (W : World), w.heap.size ≤ D → Sp pre → Ix c pre W → W.heap[D]? = some (.deferred (some [])) → c.wpIn F n P Q { a with defers := { target := .collected D, args := #[] } :: a.defers } W) :
    (Code.rangeFunc g ps assign body).wpIn F n P Q a w :=
  wpIn_rangeFunc_ownG hro h1 hg hFg eg hseq hKt hKb hb0 hps I Ix hI hIx h0 (f a) hassign hbody hdone hstop
theorem mem_up {M t j : Nat} (hj : j < t) (ht : t ≤ M) : (⟨j, by omega⟩ : Fin M) ∈ up M t := by
  unfold up
  refine List.mem_iff_getElem?.2 ⟨j, ?_⟩
  have hl : j < (List.finRange M).length := by rw [List.length_finRange]; omega
  rw [List.getElem?_take, if_pos hj, List.getElem?_eq_getElem hl]
  simp
/-- The last of a list, as a number. -/
def lastN {M : Nat} (s : List (Fin M)) : Nat := (s.getLast?.map Fin.val).getD 0
theorem lastN_snoc {M : Nat} (s : List (Fin M)) (x : Fin M) : lastN (s ++ [x]) = x.1 := by simp [lastN]
theorem blk_set5 {w : World} {g : Nat} {t : TypeId} {a0 a1 a2 a3 a4 : Value} (h : w.heap[g]? = some (.cells #[a0, a1, a2, a3, a4] t (0, 0))) (b0 b1 b2 b3 b4 : Value) :
    (((((w.setCell ⟨g, 0, none⟩ b0).setCell ⟨g, 1, none⟩ b1).setCell ⟨g, 2, none⟩ b2).setCell ⟨g, 3, none⟩ b3).setCell ⟨g, 4, none⟩ b4).heap[g]? = some (.cells #[b0, b1, b2, b3, b4] t (0, 0)) :=
  blk_put (blk_put (blk_put (blk_put (blk_put h 0 b0 rfl) 1 b1 rfl) 2 b2 rfl) 3 b3 rfl) 4 b4 rfl
theorem below_set5 {B g : Nat} {w0 w : World} (h : Below B w0 w) (hg : B ≤ g) (b0 b1 b2 b3 b4 : Value) :
    Below B w0 (((((w.setCell ⟨g, 0, none⟩ b0).setCell ⟨g, 1, none⟩ b1).setCell ⟨g, 2, none⟩ b2).setCell ⟨g, 3, none⟩ b3).setCell ⟨g, 4, none⟩ b4) :=
  ((((h.setCell (p := ⟨g, 0, none⟩) hg b0).setCell (p := ⟨g, 1, none⟩) hg b1).setCell (p := ⟨g, 2, none⟩) hg b2).setCell (p := ⟨g, 3, none⟩) hg b3).setCell (p := ⟨g, 4, none⟩) hg b4
theorem own_set5 {α : Type} {d : Kd α} {e : Nat} {w0 W : World} {v : Value} {xs : List α} {g : Nat} {t : Nat} {cs : Array Value} (h : Own d e w0 W v xs) (hb : W.heap[g]? = some (.cells cs t (0, 0))) (ht : ∀ q, q ∈ e :: d.E → q ≠ t) (b0 b1 b2 b3 b4 : Value) :
    Own d e w0 (((((W.setCell ⟨g, 0, none⟩ b0).setCell ⟨g, 1, none⟩ b1).setCell ⟨g, 2, none⟩ b2).setCell ⟨g, 3, none⟩ b3).setCell ⟨g, 4, none⟩ b4) v xs :=
  h.is (b := g) (only_set (only_set (only_set (only_set (only_set (Only.refl _ _) _ _) _ _) _ _) _ _) _ _) hb ht
set_option maxRecDepth 100000 in
set_option maxHeartbeats 1000000 in
theorem Check_c (h : List Ev) (budget : Int) (v : Value) (w : World) (hv : In kEv w v h) (hk : Kinds w) :
    Calls Tryd.prog 13 #[v, .int .i64 budget] w fun e w' => RetK w w' (checkOf h budget) (mayB h budget) e ∧ Below w.heap.size w w' := by
  have hm := Aside0.mk (fun W hb => Row_c h 0 0 budget v W (hv.below (w1 := W) hb) (hk.below hb) (by decide) (by decide))
  obtain ⟨vA, vc, ev⟩ : ∃ A c, v = .slice A h.length c := by obtain ⟨A, c, e, _⟩ := hv; exact ⟨A, c, e⟩
  subst ev
  have hrb : rowB h 0 0 budget = mayB h budget := by
    unfold rowB
    split
    · rfl
    · rename_i h1
      rw [if_pos (by simpa using Nat.two_pow_pos _)]
      simp at h1
      exact h1.symm
  rw [hrb] at hm
  replace hrb := Aside0.mk hrb
  replace hv := Aside0.mk hv
  replace hk := Aside0.mk hk
  refine (callsIn_wide (n := 9)).1 ?_
  refine callsIn_of_wp_marks Tryd.func13 rfl trivial ?_ rfl
  simp only [Tryd.ntmps13, List.size_toArray, List.length_cons, List.length_nil, Nat.reduceAdd, Nat.reduceSub, Array.replicate_succ, Array.replicate_zero, List.push_toArray, List.append_toArray, List.nil_append, List.cons_append]
  refine wpIn_wide.2 ?_
  cases hw : (mayB h budget == 0) with
  | false =>
    have hw1 : mayB h budget ≠ 0 := by simpa using hw
    have hx := Aside0.mk (show checkOf h budget = zChecked by unfold checkOf; rw [if_neg hw1])
    rw [hx.out]
    replace hw1 : (mayB h budget != 0) = true := by simpa using hw1
    go_wp2_with (go_at_call 43; refine (hm.out _ (below_alloc (below_alloc (Below.refl _ _) _) _)).mono ?_; clear hm; rintro e w1 ⟨⟨rv, rfl, hOf⟩, hb⟩; obtain ⟨rA, rc, erv⟩ := Kd.R_slice hOf; subst erv; have hbk := Aside0.mk (blk_below (blk_new (w.alloc (.cells #[.int .i64 budget] 3)) (.cells #[.int .i64 0, .int .i64 0, .int .u32 0, .slice none 0 0, .int .i64 0] 38)) hb); rw [World.size_alloc] at hbk; have f0 := fun o j => blk_frozen (blk_alloc hbk.out o) j; have q0 := fun o => blk_cell (blk_alloc hbk.out o) 0; have q1 := fun o => blk_cell (blk_alloc hbk.out o) 1; have q2 := fun o => blk_cell (blk_alloc hbk.out o) 2; have q3 := fun o => blk_cell (blk_alloc hbk.out o) 3; have q4 := fun o => blk_cell (blk_alloc hbk.out o) 4; simp only [List.getElem?_toArray, List.getElem?_cons_zero, List.getElem?_cons_succ] at q0 q1 q2 q3 q4; replace hb := Aside0.mk hb; replace hOf := Aside0.mk hOf; unfold encFound)
    refine ⟨_, results_ct rfl _ _ (w.heap.size + 1) _ _ _ _ rfl (blk_set5 (blk_alloc hbk.out _) _ _ _ _ _) Tryd.underlying38 rfl (by kernel_rfl), ?_⟩
    exact ⟨⟨.slice none 0 0, rfl, Own.nil _ _ _ _⟩, below_set5 ((below_step (below_alloc (below_alloc (Below.refl _ _) _) _) hb.out).alloc (Nat.le_trans (by simp; omega) hb.out.size) _) (by omega) _ _ _ _ _⟩
  | true =>
    have hm0 : mayB h budget = 0 := by simpa using hw
    obtain ⟨hw0, hb0, hb1⟩ := mayB_ok hm0
    obtain ⟨bn, rfl⟩ : ∃ bn : Nat, budget = bn := ⟨budget.toNat, by omega⟩
    have hbn : bn ≤ 1000000 := by omega
    have hx := Aside0.mk (show checkOf h (bn : Int) = checkF h bn by unfold checkOf; rw [if_pos hm0, Int.toNat_natCast])
    have hl60 : h.length ≤ 60 := by
      obtain ⟨hr, _⟩ := WF_of_why hw0
      simp [RightB] at hr
      omega
    have hvc : h.length ≤ vc := by obtain ⟨A, c, e, hle, _⟩ := hv.out; cases e; exact hle
    rw [hx.out, hm0]
    rw [hm0] at hm
    clear hw
    replace hm0 := Aside0.mk hm0
    go_wp2_with first
      | (go_at_call 43; refine (hm.out _ (below_alloc (below_alloc (Below.refl _ _) _) _)).mono ?_; clear hm; rintro e w1 ⟨⟨rv, rfl, hOf⟩, hb⟩; obtain ⟨rA, rc, erv⟩ := Kd.R_slice hOf; subst erv; have hbk := Aside0.mk (blk_below (blk_new (w.alloc (.cells #[.int .i64 bn] 3)) (.cells #[.int .i64 0, .int .i64 0, .int .u32 0, .slice none 0 0, .int .i64 0] 38)) hb); have hbk0 := Aside0.mk (blk_below (blk_alloc (blk_new w (.cells #[.int .i64 bn] 3)) (.cells #[.int .i64 0, .int .i64 0, .int .u32 0, .slice none 0 0, .int .i64 0] 38)) hb); rw [World.size_alloc] at hbk; have hB1 := Aside0.mk (below_step (below_alloc (below_alloc (Below.refl _ _) (.cells #[.int .i64 bn] 3)) (.cells #[.int .i64 0, .int .i64 0, .int .u32 0, .slice none 0 0, .int .i64 0] 38)) hb); replace hb := Aside0.mk hb; replace hOf := Aside0.mk hOf; unfold encFound)
      | (go_at_call 44; refine (prefixes_c vA h.length vc _).mono ?_; rintro e w2 ⟨rfl, rfl⟩)
    have hz := blk_new (w1.alloc (.cells #[.int .i64 (rowOf h 0 0 (bn : Int)).verdict, .int .u32 (rowOf h 0 0 (bn : Int)).commits, .slice rA (rowOf h 0 0 (bn : Int)).row.length rc, .int .i64 (rowOf h 0 0 (bn : Int)).steps] 43)) (.cells #[.int .i64 0, .int .i64 0, .int .u32 0, .slice none 0 0, .int .i64 0] 38)
    rw [World.size_alloc] at hz
    obtain ⟨W2, hW2⟩ : ∃ W2, W2 = (w1.alloc (.cells #[.int .i64 (rowOf h 0 0 (bn : Int)).verdict, .int .u32 (rowOf h 0 0 (bn : Int)).commits, .slice rA (rowOf h 0 0 (bn : Int)).row.length rc, .int .i64 (rowOf h 0 0 (bn : Int)).steps] 43)).alloc (.cells #[.int .i64 0, .int .i64 0, .int .u32 0, .slice none 0 0, .int .i64 0] 38) := ⟨_, rfl⟩
    rw [← hW2] at hz ⊢
    have hB2 := Aside0.mk (show Below w.heap.size w W2 by rw [hW2]; exact below_step hB1.out (below_alloc (below_alloc (Below.refl _ _) _) _))
    have hk0 := Aside0.mk (show W2.heap[w.heap.size]? = some (.cells #[.int .i64 bn] 3 (0, 0)) by rw [hW2]; exact blk_alloc (blk_alloc hbk0.out _) _)
    have hk1 := Aside0.mk (show W2.heap[w.heap.size + 1]? = some (.cells #[.int .i64 0, .int .i64 0, .int .u32 0, .slice none 0 0, .int .i64 0] 38 (0, 0)) by rw [hW2]; exact blk_alloc (blk_alloc hbk.out _) _)
    have hs2 : W2.heap.size = w1.heap.size + 1 + 1 := by rw [hW2]; simp
    have hs1 : w.heap.size + 2 ≤ w1.heap.size := by have := hb.out.size; simpa using this
    replace hz := Aside0.mk hz
    replace hW2 := Aside0.mk hW2
    have d2 := blk_cell (blk_new W2 (.cells #[.slice vA h.length vc] 22)) 0
    simp only [List.getElem?_toArray, List.getElem?_cons_zero] at d2
    rw [hs2] at d2
    refine (wpIn_wide (n := 9)).1 ?_
    refine rf_own rfl (by decide) (gf := 71) (lb := #[.pointer (some ⟨w1.heap.size + 1 + 1, 0, none⟩)]) rfl trivial (enters_of Tryd.func71 (by kernel_rfl) rfl)
      (prefixes_stops (9 - 1) (w1.heap.size + 1 + 1) h.length vc vA (by decide) (by omega) hvc _ (by simp; omega) d2) SameAt.tr (SameAt.put (by simp; omega)) (Below.refl _ _) (fun _ => rfl)
      (fun pre W => (∃ rv, W.heap[w1.heap.size + 1]? = some (.cells (encChk (accF h bn pre) rv) 38 (0, 0)) ∧ Own (Kd.int .i64) 3 w W rv (accF h bn pre).row) ∧ (W.heap[w.heap.size]? = some (.cells #[.int .i64 bn] 3 (0, 0)) ∧ W.heap[w.heap.size + 1]? = some (.cells #[.int .i64 0, .int .i64 0, .int .u32 0, .slice none 0 0, .int .i64 0] 38 (0, 0))) ∧ Below w.heap.size w W ∧ w1.heap.size + 3 ≤ W.heap.size ∧ (∀ x, x ∈ pre → yesB h bn x.1))
      (fun c pre W => (∃ rv, W.heap[w1.heap.size + 1]? = some (.cells (encChk (chkStop h bn (accF h bn pre.dropLast) (lastN pre)) rv) 38 (0, 0)) ∧ Own (Kd.int .i64) 3 w W rv (accF h bn pre.dropLast).row) ∧ (W.heap[w.heap.size]? = some (.cells #[.int .i64 bn] 3 (0, 0)) ∧ W.heap[w.heap.size + 1]? = some (.cells #[.int .i64 0, .int .i64 0, .int .u32 0, .slice none 0 0, .int .i64 0] 38 (0, 0))) ∧ Below w.heap.size w W ∧ (c = .exit 0 ∧ (∀ x, x ∈ pre.dropLast → yesB h bn x.1) ∧ ¬ yesB h bn (lastN pre)))
      (OwnFrom.and (from_ex (fun pre rv => encChk (accF h bn pre) rv) (fun pre => (accF h bn pre).row)) (OwnFrom.and (OwnFrom.and blk_from blk_from) (OwnFrom.and (ownFrom_below (Nat.le_refl _) (by simp; omega)) (OwnFrom.and (from_size _) (from_pure _)))))
      (fun c => OwnFrom.and (from_ex (fun pre rv => encChk (chkStop h bn (accF h bn pre.dropLast) (lastN pre)) rv) (fun pre => (accF h bn pre.dropLast).row)) (OwnFrom.and (OwnFrom.and blk_from blk_from) (OwnFrom.and (ownFrom_below (Nat.le_refl _) (by simp; omega)) (from_pure _))))
      ⟨⟨.slice none 0 0, blk_alloc hz.out _, Own.nil _ _ _ _⟩, ⟨blk_alloc hk0.out _, blk_alloc hk1.out _⟩, hB2.out.alloc hB2.out.size _, by simp; omega, fun x hx => by cases hx⟩
      (fun a x => { tmps := (((a.tmps.setIfInBounds 25 (.int .i64 ((x.1 : Nat) : Int))).setIfInBounds 26 (.slice vA x.1 vc)).setIfInBounds 9 (.int .i64 ((x.1 : Nat) : Int))).setIfInBounds 10 (.slice vA x.1 vc), defers := [] }) ?assign ?body ?done ?stop
    case assign =>
      intro _ x W K hK
      simp only [encPre]
      gi_wp2
      exact hK
    case done =>
      rintro D xs W hD rfl ⟨⟨rv, h1, h2⟩, ⟨h3, h4⟩, h5, hsz, h6⟩ hK
      have hF : accF h bn (List.finRange (h.length + 1)) = checkF h bn := (check_done (fun j hj => h6 ⟨j, hj⟩ (List.mem_finRange _))).symm
      obtain ⟨rA2, rc2, e2⟩ := Kd.R_slice h2
      subst e2
      rw [hF] at h1 h2
      clear hF
      have o0 := blk_cell h1 0
      have o1 := blk_cell h1 1
      have o2 := blk_cell h1 2
      have o3 := blk_cell h1 3
      have o4 := blk_cell h1 4
      have q0 := blk_cell h4 0
      have q1 := blk_cell h4 1
      have q2 := blk_cell h4 2
      have q3 := blk_cell h4 3
      have q4 := blk_cell h4 4
      have g0 := fun j => blk_frozen h4 j
      simp only [encChk, List.getElem?_toArray, List.getElem?_cons_zero, List.getElem?_cons_succ] at o0 o1 o2 o3 o4 q0 q1 q2 q3 q4
      replace h1 := Aside0.mk h1
      replace h2 := Aside0.mk h2
      replace h4 := Aside0.mk h4
      go_wp2
      have hOn := only_set (only_set (only_set (only_set (only_set (Only.refl (Is (w.heap.size + 1)) W) 0 (.int .i64 (checkF h bn).verdict)) 1 (.int .i64 (checkF h bn).place)) 2 (.int .u32 (checkF h bn).commits)) 3 (.slice rA2 (checkF h bn).row.length rc2)) 4 (.int .i64 (checkF h bn).steps)
      have hb4 := blk_set5 h4.out (.int .i64 (checkF h bn).verdict) (.int .i64 (checkF h bn).place) (.int .u32 (checkF h bn).commits) (.slice rA2 (checkF h bn).row.length rc2) (.int .i64 (checkF h bn).steps)
      have hown := own_set5 h2.out h4.out (by simp [Kd.int, Kd.scalar]) (.int .i64 (checkF h bn).verdict) (.int .i64 (checkF h bn).place) (.int .u32 (checkF h bn).commits) (.slice rA2 (checkF h bn).row.length rc2) (.int .i64 (checkF h bn).steps)
      have hbel := below_set5 h5 (by omega : w.heap.size ≤ w.heap.size + 1) (.int .i64 (checkF h bn).verdict) (.int .i64 (checkF h bn).place) (.int .u32 (checkF h bn).commits) (.slice rA2 (checkF h bn).row.length rc2) (.int .i64 (checkF h bn).steps)
      simp only [World.size_alloc] at hD
      have hDne : ¬ D = w.heap.size + 1 := by omega
      have hK2 := (hOn.block D (blk_lt hK) (fun e => hDne e)).trans hK
      generalize (((((W.setCell ⟨w.heap.size + 1, 0, none⟩ (.int .i64 (checkF h bn).verdict)).setCell ⟨w.heap.size + 1, 1, none⟩ (.int .i64 (checkF h bn).place)).setCell ⟨w.heap.size + 1, 2, none⟩ (.int .u32 (checkF h bn).commits)).setCell ⟨w.heap.size + 1, 3, none⟩ (.slice rA2 (checkF h bn).row.length rc2)).setCell ⟨w.heap.size + 1, 4, none⟩ (.int .i64 (checkF h bn).steps)) = V at *
      refine ⟨by simp, .inl ⟨_, _, rfl, run_takeDeferred hK2, ?_⟩⟩
      refine ⟨_, results_ct rfl _ _ (w.heap.size + 1) _ _ _ _ rfl ((World.putObj_heap_other (by omega)).trans hb4) Tryd.underlying38 rfl (by kernel_rfl), ?_⟩
      exact ⟨⟨_, rfl, own_from (β := Unit) (f := fun _ => (checkF h bn).row) (B := 0) () V _ (some D) hown (grownBy_putObj' _ D (.deferred none)) (fun r e => by cases e; exact ⟨Nat.zero_le _, _, hK2, rfl⟩)⟩, hbel.trans (belowK_b (Nat.le_refl _) V D _ _ (by omega) hK2 rfl rfl)⟩
    case stop =>
      rintro D c xs W hD ⟨tt, htt, rfl⟩ ⟨⟨rv, h1, h2⟩, ⟨h3, h4⟩, h5, rfl, h6, h7⟩ hK
      rw [up_succ htt, List.dropLast_concat] at h1 h2 h6
      rw [up_succ htt, lastN_snoc] at h7
      rw [lastN_snoc] at h1
      have hst := check_stop (h := h) (b := bn) htt (fun j hj => h6 ⟨j, by omega⟩ (mem_up hj (by omega))) h7
      have hF : chkStop h bn (accF h bn (up (h.length + 1) tt)) tt = checkF h bn := hst.symm
      have hF2 : (accF h bn (up (h.length + 1) tt)).row = (checkF h bn).row := by rw [hst]; rfl
      rw [hF2] at h2
      obtain ⟨rA2, rc2, e2⟩ := Kd.R_slice h2
      subst e2
      rw [hF] at h1
      clear hF hF2 hst
      have o0 := blk_cell h1 0
      have o1 := blk_cell h1 1
      have o2 := blk_cell h1 2
      have o3 := blk_cell h1 3
      have o4 := blk_cell h1 4
      have q0 := blk_cell h4 0
      have q1 := blk_cell h4 1
      have q2 := blk_cell h4 2
      have q3 := blk_cell h4 3
      have q4 := blk_cell h4 4
      have g0 := fun j => blk_frozen h4 j
      simp only [encChk, List.getElem?_toArray, List.getElem?_cons_zero, List.getElem?_cons_succ] at o0 o1 o2 o3 o4 q0 q1 q2 q3 q4
      replace h1 := Aside0.mk h1
      replace h2 := Aside0.mk h2
      replace h4 := Aside0.mk h4
      refine wpIn_wide.2 ?_
      go_wp2
      have hOn := only_set (only_set (only_set (only_set (only_set (Only.refl (Is (w.heap.size + 1)) W) 0 (.int .i64 (checkF h bn).verdict)) 1 (.int .i64 (checkF h bn).place)) 2 (.int .u32 (checkF h bn).commits)) 3 (.slice rA2 (checkF h bn).row.length rc2)) 4 (.int .i64 (checkF h bn).steps)
      have hb4 := blk_set5 h4.out (.int .i64 (checkF h bn).verdict) (.int .i64 (checkF h bn).place) (.int .u32 (checkF h bn).commits) (.slice rA2 (checkF h bn).row.length rc2) (.int .i64 (checkF h bn).steps)
      have hown := own_set5 h2.out h4.out (by simp [Kd.int, Kd.scalar]) (.int .i64 (checkF h bn).verdict) (.int .i64 (checkF h bn).place) (.int .u32 (checkF h bn).commits) (.slice rA2 (checkF h bn).row.length rc2) (.int .i64 (checkF h bn).steps)
      have hbel := below_set5 h5 (by omega : w.heap.size ≤ w.heap.size + 1) (.int .i64 (checkF h bn).verdict) (.int .i64 (checkF h bn).place) (.int .u32 (checkF h bn).commits) (.slice rA2 (checkF h bn).row.length rc2) (.int .i64 (checkF h bn).steps)
      simp only [World.size_alloc] at hD
      have hDne : ¬ D = w.heap.size + 1 := by omega
      have hK2 := (hOn.block D (blk_lt hK) (fun e => hDne e)).trans hK
      generalize (((((W.setCell ⟨w.heap.size + 1, 0, none⟩ (.int .i64 (checkF h bn).verdict)).setCell ⟨w.heap.size + 1, 1, none⟩ (.int .i64 (checkF h bn).place)).setCell ⟨w.heap.size + 1, 2, none⟩ (.int .u32 (checkF h bn).commits)).setCell ⟨w.heap.size + 1, 3, none⟩ (.slice rA2 (checkF h bn).row.length rc2)).setCell ⟨w.heap.size + 1, 4, none⟩ (.int .i64 (checkF h bn).steps)) = V at *
      refine ⟨by simp, .inl ⟨_, _, rfl, run_takeDeferred hK2, ?_⟩⟩
      refine ⟨_, results_ct rfl _ _ (w.heap.size + 1) _ _ _ _ rfl ((World.putObj_heap_other (by omega)).trans hb4) Tryd.underlying38 rfl (by kernel_rfl), ?_⟩
      exact ⟨⟨_, rfl, own_from (β := Unit) (f := fun _ => (checkF h bn).row) (B := 0) () V _ (some D) hown (grownBy_putObj' _ D (.deferred none)) (fun r e => by cases e; exact ⟨Nat.zero_le _, _, hK2, rfl⟩)⟩, hbel.trans (belowK_b (Nat.le_refl _) V D _ _ (by omega) hK2 rfl rfl)⟩
    case body =>
      rintro q pre x W ⟨⟨rv, h1, h2⟩, ⟨h3, h4⟩, h5, hsz, h6⟩ hlen
      simp only [List.setIfInBounds_toArray, List.set_cons_succ, List.set_cons_zero]
      have hxl : x.1 ≤ h.length := by have := x.2; omega
      have hin : ∀ V, Below W.heap.size W V → In kEv V (.slice vA x.1 vc) (h.take x.1) := fun V hV => (hv.out.take hxl).below (below_step h5 hV)
      have hsea := Aside0.mk (fun V hV => Search_c (h.take x.1) (bn : Int) (.slice vA x.1 vc) V (hin V hV) (hk.out.below (below_step h5 hV)))
      have hmt : mayB (h.take x.1) (bn : Int) = 0 := by
        unfold mayB
        rw [if_neg (by simp [why_take hw0]), if_neg (by omega)]
      have hso : searchOf (h.take x.1) (bn : Int) = search (table (h.take x.1)) bn := by unfold searchOf; rw [if_pos hmt, Int.toNat_natCast]
      rw [hmt, hso] at hsea
      have hss := search_steps (table (h.take x.1)) bn
      have hvs := search_verdict (table (h.take x.1)) bn
      have hacc := accF_steps h bn pre
      have hyes : yesB h bn x.1 ↔ (search (table (h.take x.1)) bn).verdict = 0 := Iff.rfl
      have hstep := accF_snoc h bn pre x
      unfold chkStep at hstep
      have hstp : chkStop h bn (accF h bn pre) x.1 = chkStop h bn (accF h bn pre) x.1 := rfl
      conv at hstp => rhs; unfold chkStop
      generalize search (table (h.take x.1)) bn = f at *
      have b0 := blk_cell h3 0
      simp only [List.getElem?_toArray, List.getElem?_cons_zero] at b0
      replace hstep := Aside0.mk hstep
      replace hstp := Aside0.mk hstp
      replace hyes := Aside0.mk hyes
      replace hin := Aside0.mk hin
      gi_wp2_with (gi_at_call 16; fail)
      refine ⟨trivial, (CallsIn.inRound q (callsIn_wide.2 (hsea.out _ (Below.refl _ _)))).mono ?_⟩
      clear hsea
      rintro e w3 ⟨⟨rv3, rfl, hOf3⟩, hb3⟩
      obtain ⟨fA, fc, ef⟩ := Kd.R_slice hOf3
      subst ef
      unfold encFound
      gi_wp2
      have hfn := blk_new w3 (.cells #[.int .i64 f.verdict, .int .u32 f.commits, .slice fA f.row.length fc, .int .i64 f.steps] 43)
      have hon := blk_alloc (blk_below h1 hb3) (.cells #[.int .i64 f.verdict, .int .u32 f.commits, .slice fA f.row.length fc, .int .i64 f.steps] 43)
      have hB4 := Aside0.mk (below_alloc hb3 (.cells #[.int .i64 f.verdict, .int .u32 f.commits, .slice fA f.row.length fc, .int .i64 f.steps] 43))
      obtain ⟨w4, hw4⟩ : ∃ w4, w4 = w3.alloc (.cells #[.int .i64 f.verdict, .int .u32 f.commits, .slice fA f.row.length fc, .int .i64 f.steps] 43) := ⟨_, rfl⟩
      rw [← hw4] at hfn hon hB4 ⊢
      have hof := Aside0.mk (show Own (Kd.int .i64) 3 W w4 (.slice fA f.row.length fc) f.row by rw [hw4]; exact hOf3.below (below_alloc (Below.refl _ _) _))
      have hne : ¬ w3.heap.size = w1.heap.size + 1 := by have := blk_lt (blk_below h1 hb3); omega
      unfold encChk at hon
      have o0 := blk_cell hon 0
      have o1 := blk_cell hon 1
      have o2 := blk_cell hon 2
      have o3 := blk_cell hon 3
      have o4 := blk_cell hon 4
      have g0 := fun j => blk_frozen hon j
      have f0 := blk_cell hfn 0
      have f1 := blk_cell hfn 1
      have f2 := blk_cell hfn 2
      have f3 := blk_cell hfn 3
      simp only [List.getElem?_toArray, List.getElem?_cons_zero, List.getElem?_cons_succ] at o0 o1 o2 o3 o4 f0 f1 f2 f3
      replace hfn := Aside0.mk hfn
      replace hon := Aside0.mk hon
      replace hw4 := Aside0.mk hw4
      replace hOf3 := Aside0.mk hOf3
      replace h1 := Aside0.mk h1
      replace h2 := Aside0.mk h2
      replace h3 := Aside0.mk h3
      replace h4 := Aside0.mk h4
      replace h5 := Aside0.mk h5
      replace h6 := Aside0.mk h6
      replace hb3 := Aside0.mk hb3
      refine region_any_post (fun _ _ h => h) (by kernel_rfl) (by kernel_rfl) ?_
      apply Exists.intro
      apply Exists.intro
      refine ⟨?_, ?_⟩
      focus
        refine wpAny_take (i := 0) (v := ?_) rfl (by kernel_rfl) (by kernel_rfl) (by kernel_rfl) (fun _ _ _ h => nomatch h.1) (Or.inl ⟨by rfl, ?_⟩) ?_
        rotate_left 1
        focus (intro w; go_simp; try (with_reducible rfl))
        refine wpAny_take (i := 2) (v := ?_) rfl (by kernel_rfl) (by kernel_rfl) (by kernel_rfl) (fun _ _ _ h => nomatch h.1) (Or.inl ⟨by rfl, ?_⟩) ?_
        rotate_left 1
        focus (intro w; go_simp; try (with_reducible rfl))
        refine wpAny_take (i := 3) (v := ?_) rfl (by kernel_rfl) (by kernel_rfl) (by kernel_rfl) (fun _ _ _ h => nomatch h.1) (Or.inl ⟨by rfl, ?_⟩) ?_
        rotate_left 1
        focus (intro w; go_simp; try (with_reducible rfl))
        refine wpAny_take (i := 5) (v := ?_) rfl (by kernel_rfl) (by kernel_rfl) (by kernel_rfl) (fun _ _ _ h => nomatch h.1) (Or.inl ⟨by rfl, ?_⟩) ?_
        rotate_left 1
        focus (intro w; go_simp; try (with_reducible rfl))
        refine wpAny_ready (rs := [1, 4, 6]) (by kernel_rfl) (by simp) ?_
        refine AllReady.cons rfl (fun K hK => ?_) ?_
        · go_simp
          refine hK _ _ ?_
          clear hK K
          refine wpAny_ready (rs := [4, 6]) (by kernel_rfl) (by simp) ?_
          refine AllReady.cons rfl (fun K hK => ?_) ?_
          · go_simp
            refine hK _ _ ?_
            clear hK K
            refine wpAny_take (i := 8) (v := ?_) rfl (by kernel_rfl) (by kernel_rfl) (by kernel_rfl) (fun _ _ _ h => nomatch h.1) (Or.inl ⟨by rfl, ?_⟩) ?_
            rotate_left 1
            focus (intro w; go_simp; try (with_reducible rfl))
            refine wpAny_ready (rs := [6, 9]) (by kernel_rfl) (by simp) ?_
            refine AllReady.cons rfl (fun K hK => ?_) ?_
            · go_simp
              refine hK _ _ ?_
              clear hK K
              refine wpAny_take (i := 7) (v := ?_) rfl (by kernel_rfl) (by kernel_rfl) (by kernel_rfl) (fun _ _ _ h => nomatch h.1) (Or.inl ⟨by rfl, ?_⟩) ?_
              rotate_left 1
              focus (intro w; go_simp; try (with_reducible rfl))
              refine wpAny_ready (rs := [9]) (by kernel_rfl) (by simp) ?_
              refine AllReady.cons rfl (fun K hK => ?_) ?_
              · go_simp
                refine hK _ _ ?_
                clear hK K
                refine wpAny_take (i := 10) (v := ?_) rfl (by kernel_rfl) (by kernel_rfl) (by kernel_rfl) (fun _ _ _ h => nomatch h.1) (Or.inl ⟨by rfl, ?_⟩) ?_
                rotate_left 1
                focus (intro w; go_simp; try (with_reducible rfl))
                refine wpAny_ready (rs := [11]) (by kernel_rfl) (by simp) ?_
                refine AllReady.cons rfl (fun K hK => ?_) ?_
                · go_simp
                  refine hK _ _ ?_
                  clear hK K
                  refine wpAny_take (i := 12) (v := ?_) rfl (by kernel_rfl) (by kernel_rfl) (by kernel_rfl) (fun _ _ _ h => nomatch h.1) (Or.inl ⟨by rfl, ?_⟩) ?_
                  rotate_left 1
                  focus (intro w; go_simp; try (with_reducible rfl))
                  refine wpAny_ready (rs := [13]) (by kernel_rfl) (by simp) ?_
                  refine AllReady.cons rfl (fun K hK => ?_) ?_
                  · go_simp
                    refine hK _ _ ?_
                    clear hK K
                    refine wpAny_done (by kernel_rfl) ?_ _
                    exact ⟨rfl, rfl, rfl⟩
                  exact AllReady.nil
                exact AllReady.nil
              exact AllReady.nil
            refine AllReady.cons rfl (fun K hK => ?_) ?_
            · go_simp
              refine hK _ _ ?_
              clear hK K
              refine wpAny_take (i := 10) (v := ?_) rfl (by kernel_rfl) (by kernel_rfl) (by kernel_rfl) (fun _ _ _ h => nomatch h.1) (Or.inl ⟨by rfl, ?_⟩) ?_
              rotate_left 1
              focus (intro w; go_simp; try (with_reducible rfl))
              refine wpAny_ready (rs := [6, 11]) (by kernel_rfl) (by simp) ?_
              refine AllReady.cons rfl (fun K hK => ?_) ?_
              · go_simp
                refine hK _ _ ?_
                clear hK K
                refine wpAny_take (i := 7) (v := ?_) rfl (by kernel_rfl) (by kernel_rfl) (by kernel_rfl) (fun _ _ _ h => nomatch h.1) (Or.inl ⟨by rfl, ?_⟩) ?_
                rotate_left 1
                focus (intro w; go_simp; try (with_reducible rfl))
                refine wpAny_ready (rs := [11]) (by kernel_rfl) (by simp) ?_
                refine AllReady.cons rfl (fun K hK => ?_) ?_
                · go_simp
                  refine hK _ _ ?_
                  clear hK K
                  refine wpAny_take (i := 12) (v := ?_) rfl (by kernel_rfl) (by kernel_rfl) (by kernel_rfl) (fun _ _ _ h => nomatch h.1) (Or.inl ⟨by rfl, ?_⟩) ?_
                  rotate_left 1
                  focus (intro w; go_simp; try (with_reducible rfl))
                  refine wpAny_ready (rs := [13]) (by kernel_rfl) (by simp) ?_
                  refine AllReady.cons rfl (fun K hK => ?_) ?_
                  · go_simp
                    refine hK _ _ ?_
                    clear hK K
                    refine wpAny_done (by kernel_rfl) ?_ _
                    exact ⟨rfl, rfl, rfl⟩
                  exact AllReady.nil
                exact AllReady.nil
              refine AllReady.cons rfl (fun K hK => ?_) ?_
              · go_simp
                refine hK _ _ ?_
                clear hK K
                refine wpAny_ready (rs := [6]) (by kernel_rfl) (by simp) ?_
                refine AllReady.cons rfl (fun K hK => ?_) ?_
                · go_simp
                  refine hK _ _ ?_
                  clear hK K
                  refine wpAny_take (i := 7) (v := ?_) rfl (by kernel_rfl) (by kernel_rfl) (by kernel_rfl) (fun _ _ _ h => nomatch h.1) (Or.inl ⟨by rfl, ?_⟩) ?_
                  rotate_left 1
                  focus (intro w; go_simp; try (with_reducible rfl))
                  refine wpAny_take (i := 12) (v := ?_) rfl (by kernel_rfl) (by kernel_rfl) (by kernel_rfl) (fun _ _ _ h => nomatch h.1) (Or.inl ⟨by rfl, ?_⟩) ?_
                  rotate_left 1
                  focus (intro w; go_simp; try (with_reducible rfl))
                  refine wpAny_ready (rs := [13]) (by kernel_rfl) (by simp) ?_
                  refine AllReady.cons rfl (fun K hK => ?_) ?_
                  · go_simp
                    refine hK _ _ ?_
                    clear hK K
                    refine wpAny_done (by kernel_rfl) ?_ _
                    exact ⟨rfl, rfl, rfl⟩
                  exact AllReady.nil
                exact AllReady.nil
              exact AllReady.nil
            exact AllReady.nil
          refine AllReady.cons rfl (fun K hK => ?_) ?_
          · go_simp
            refine hK _ _ ?_
            clear hK K
            refine wpAny_ready (rs := [4]) (by kernel_rfl) (by simp) ?_
            refine AllReady.cons rfl (fun K hK => ?_) ?_
            · go_simp
              refine hK _ _ ?_
              clear hK K
              refine wpAny_take (i := 7) (v := ?_) rfl (by kernel_rfl) (by kernel_rfl) (by kernel_rfl) (fun _ _ _ h => nomatch h.1) (Or.inl ⟨by rfl, ?_⟩) ?_
              rotate_left 1
              focus (intro w; go_simp; try (with_reducible rfl))
              refine wpAny_take (i := 8) (v := ?_) rfl (by kernel_rfl) (by kernel_rfl) (by kernel_rfl) (fun _ _ _ h => nomatch h.1) (Or.inl ⟨by rfl, ?_⟩) ?_
              rotate_left 1
              focus (intro w; go_simp; try (with_reducible rfl))
              refine wpAny_ready (rs := [9]) (by kernel_rfl) (by simp) ?_
              refine AllReady.cons rfl (fun K hK => ?_) ?_
              · go_simp
                refine hK _ _ ?_
                clear hK K
                refine wpAny_take (i := 10) (v := ?_) rfl (by kernel_rfl) (by kernel_rfl) (by kernel_rfl) (fun _ _ _ h => nomatch h.1) (Or.inl ⟨by rfl, ?_⟩) ?_
                rotate_left 1
                focus (intro w; go_simp; try (with_reducible rfl))
                refine wpAny_ready (rs := [11]) (by kernel_rfl) (by simp) ?_
                refine AllReady.cons rfl (fun K hK => ?_) ?_
                · go_simp
                  refine hK _ _ ?_
                  clear hK K
                  refine wpAny_take (i := 12) (v := ?_) rfl (by kernel_rfl) (by kernel_rfl) (by kernel_rfl) (fun _ _ _ h => nomatch h.1) (Or.inl ⟨by rfl, ?_⟩) ?_
                  rotate_left 1
                  focus (intro w; go_simp; try (with_reducible rfl))
                  refine wpAny_ready (rs := [13]) (by kernel_rfl) (by simp) ?_
                  refine AllReady.cons rfl (fun K hK => ?_) ?_
                  · go_simp
                    refine hK _ _ ?_
                    clear hK K
                    refine wpAny_done (by kernel_rfl) ?_ _
                    exact ⟨rfl, rfl, rfl⟩
                  exact AllReady.nil
                exact AllReady.nil
              exact AllReady.nil
            exact AllReady.nil
          exact AllReady.nil
        refine AllReady.cons rfl (fun K hK => ?_) ?_
        · go_simp
          refine hK _ _ ?_
          clear hK K
          refine wpAny_ready (rs := [1, 6]) (by kernel_rfl) (by simp) ?_
          refine AllReady.cons rfl (fun K hK => ?_) ?_
          · go_simp
            refine hK _ _ ?_
            clear hK K
            refine wpAny_take (i := 8) (v := ?_) rfl (by kernel_rfl) (by kernel_rfl) (by kernel_rfl) (fun _ _ _ h => nomatch h.1) (Or.inl ⟨by rfl, ?_⟩) ?_
            rotate_left 1
            focus (intro w; go_simp; try (with_reducible rfl))
            refine wpAny_ready (rs := [6, 9]) (by kernel_rfl) (by simp) ?_
            refine AllReady.cons rfl (fun K hK => ?_) ?_
            · go_simp
              refine hK _ _ ?_
              clear hK K
              refine wpAny_take (i := 7) (v := ?_) rfl (by kernel_rfl) (by kernel_rfl) (by kernel_rfl) (fun _ _ _ h => nomatch h.1) (Or.inl ⟨by rfl, ?_⟩) ?_
              rotate_left 1
              focus (intro w; go_simp; try (with_reducible rfl))
              refine wpAny_ready (rs := [9]) (by kernel_rfl) (by simp) ?_
              refine AllReady.cons rfl (fun K hK => ?_) ?_
              · go_simp
                refine hK _ _ ?_
                clear hK K
                refine wpAny_take (i := 10) (v := ?_) rfl (by kernel_rfl) (by kernel_rfl) (by kernel_rfl) (fun _ _ _ h => nomatch h.1) (Or.inl ⟨by rfl, ?_⟩) ?_
                rotate_left 1
                focus (intro w; go_simp; try (with_reducible rfl))
                refine wpAny_ready (rs := [11]) (by kernel_rfl) (by simp) ?_
                refine AllReady.cons rfl (fun K hK => ?_) ?_
                · go_simp
                  refine hK _ _ ?_
                  clear hK K
                  refine wpAny_take (i := 12) (v := ?_) rfl (by kernel_rfl) (by kernel_rfl) (by kernel_rfl) (fun _ _ _ h => nomatch h.1) (Or.inl ⟨by rfl, ?_⟩) ?_
                  rotate_left 1
                  focus (intro w; go_simp; try (with_reducible rfl))
                  refine wpAny_ready (rs := [13]) (by kernel_rfl) (by simp) ?_
                  refine AllReady.cons rfl (fun K hK => ?_) ?_
                  · go_simp
                    refine hK _ _ ?_
                    clear hK K
                    refine wpAny_done (by kernel_rfl) ?_ _
                    exact ⟨rfl, rfl, rfl⟩
                  exact AllReady.nil
                exact AllReady.nil
              exact AllReady.nil
            refine AllReady.cons rfl (fun K hK => ?_) ?_
            · go_simp
              refine hK _ _ ?_
              clear hK K
              refine wpAny_take (i := 10) (v := ?_) rfl (by kernel_rfl) (by kernel_rfl) (by kernel_rfl) (fun _ _ _ h => nomatch h.1) (Or.inl ⟨by rfl, ?_⟩) ?_
              rotate_left 1
              focus (intro w; go_simp; try (with_reducible rfl))
              refine wpAny_ready (rs := [6, 11]) (by kernel_rfl) (by simp) ?_
              refine AllReady.cons rfl (fun K hK => ?_) ?_
              · go_simp
                refine hK _ _ ?_
                clear hK K
                refine wpAny_take (i := 7) (v := ?_) rfl (by kernel_rfl) (by kernel_rfl) (by kernel_rfl) (fun _ _ _ h => nomatch h.1) (Or.inl ⟨by rfl, ?_⟩) ?_
                rotate_left 1
                focus (intro w; go_simp; try (with_reducible rfl))
                refine wpAny_ready (rs := [11]) (by kernel_rfl) (by simp) ?_
                refine AllReady.cons rfl (fun K hK => ?_) ?_
                · go_simp
                  refine hK _ _ ?_
                  clear hK K
                  refine wpAny_take (i := 12) (v := ?_) rfl (by kernel_rfl) (by kernel_rfl) (by kernel_rfl) (fun _ _ _ h => nomatch h.1) (Or.inl ⟨by rfl, ?_⟩) ?_
                  rotate_left 1
                  focus (intro w; go_simp; try (with_reducible rfl))
                  refine wpAny_ready (rs := [13]) (by kernel_rfl) (by simp) ?_
                  refine AllReady.cons rfl (fun K hK => ?_) ?_
                  · go_simp
                    refine hK _ _ ?_
                    clear hK K
                    refine wpAny_done (by kernel_rfl) ?_ _
                    exact ⟨rfl, rfl, rfl⟩
                  exact AllReady.nil
                exact AllReady.nil
              refine AllReady.cons rfl (fun K hK => ?_) ?_
              · go_simp
                refine hK _ _ ?_
                clear hK K
                refine wpAny_ready (rs := [6]) (by kernel_rfl) (by simp) ?_
                refine AllReady.cons rfl (fun K hK => ?_) ?_
                · go_simp
                  refine hK _ _ ?_
                  clear hK K
                  refine wpAny_take (i := 7) (v := ?_) rfl (by kernel_rfl) (by kernel_rfl) (by kernel_rfl) (fun _ _ _ h => nomatch h.1) (Or.inl ⟨by rfl, ?_⟩) ?_
                  rotate_left 1
                  focus (intro w; go_simp; try (with_reducible rfl))
                  refine wpAny_take (i := 12) (v := ?_) rfl (by kernel_rfl) (by kernel_rfl) (by kernel_rfl) (fun _ _ _ h => nomatch h.1) (Or.inl ⟨by rfl, ?_⟩) ?_
                  rotate_left 1
                  focus (intro w; go_simp; try (with_reducible rfl))
                  refine wpAny_ready (rs := [13]) (by kernel_rfl) (by simp) ?_
                  refine AllReady.cons rfl (fun K hK => ?_) ?_
                  · go_simp
                    refine hK _ _ ?_
                    clear hK K
                    refine wpAny_done (by kernel_rfl) ?_ _
                    exact ⟨rfl, rfl, rfl⟩
                  exact AllReady.nil
                exact AllReady.nil
              exact AllReady.nil
            exact AllReady.nil
          refine AllReady.cons rfl (fun K hK => ?_) ?_
          · go_simp
            refine hK _ _ ?_
            clear hK K
            refine wpAny_take (i := 7) (v := ?_) rfl (by kernel_rfl) (by kernel_rfl) (by kernel_rfl) (fun _ _ _ h => nomatch h.1) (Or.inl ⟨by rfl, ?_⟩) ?_
            rotate_left 1
            focus (intro w; go_simp; try (with_reducible rfl))
            refine wpAny_ready (rs := [1]) (by kernel_rfl) (by simp) ?_
            refine AllReady.cons rfl (fun K hK => ?_) ?_
            · go_simp
              refine hK _ _ ?_
              clear hK K
              refine wpAny_take (i := 8) (v := ?_) rfl (by kernel_rfl) (by kernel_rfl) (by kernel_rfl) (fun _ _ _ h => nomatch h.1) (Or.inl ⟨by rfl, ?_⟩) ?_
              rotate_left 1
              focus (intro w; go_simp; try (with_reducible rfl))
              refine wpAny_ready (rs := [9]) (by kernel_rfl) (by simp) ?_
              refine AllReady.cons rfl (fun K hK => ?_) ?_
              · go_simp
                refine hK _ _ ?_
                clear hK K
                refine wpAny_take (i := 10) (v := ?_) rfl (by kernel_rfl) (by kernel_rfl) (by kernel_rfl) (fun _ _ _ h => nomatch h.1) (Or.inl ⟨by rfl, ?_⟩) ?_
                rotate_left 1
                focus (intro w; go_simp; try (with_reducible rfl))
                refine wpAny_ready (rs := [11]) (by kernel_rfl) (by simp) ?_
                refine AllReady.cons rfl (fun K hK => ?_) ?_
                · go_simp
                  refine hK _ _ ?_
                  clear hK K
                  refine wpAny_take (i := 12) (v := ?_) rfl (by kernel_rfl) (by kernel_rfl) (by kernel_rfl) (fun _ _ _ h => nomatch h.1) (Or.inl ⟨by rfl, ?_⟩) ?_
                  rotate_left 1
                  focus (intro w; go_simp; try (with_reducible rfl))
                  refine wpAny_ready (rs := [13]) (by kernel_rfl) (by simp) ?_
                  refine AllReady.cons rfl (fun K hK => ?_) ?_
                  · go_simp
                    refine hK _ _ ?_
                    clear hK K
                    refine wpAny_done (by kernel_rfl) ?_ _
                    exact ⟨rfl, rfl, rfl⟩
                  exact AllReady.nil
                exact AllReady.nil
              exact AllReady.nil
            exact AllReady.nil
          exact AllReady.nil
        refine AllReady.cons rfl (fun K hK => ?_) ?_
        · go_simp
          refine hK _ _ ?_
          clear hK K
          refine wpAny_ready (rs := [1, 4]) (by kernel_rfl) (by simp) ?_
          refine AllReady.cons rfl (fun K hK => ?_) ?_
          · go_simp
            refine hK _ _ ?_
            clear hK K
            refine wpAny_ready (rs := [4]) (by kernel_rfl) (by simp) ?_
            refine AllReady.cons rfl (fun K hK => ?_) ?_
            · go_simp
              refine hK _ _ ?_
              clear hK K
              refine wpAny_take (i := 7) (v := ?_) rfl (by kernel_rfl) (by kernel_rfl) (by kernel_rfl) (fun _ _ _ h => nomatch h.1) (Or.inl ⟨by rfl, ?_⟩) ?_
              rotate_left 1
              focus (intro w; go_simp; try (with_reducible rfl))
              refine wpAny_take (i := 8) (v := ?_) rfl (by kernel_rfl) (by kernel_rfl) (by kernel_rfl) (fun _ _ _ h => nomatch h.1) (Or.inl ⟨by rfl, ?_⟩) ?_
              rotate_left 1
              focus (intro w; go_simp; try (with_reducible rfl))
              refine wpAny_ready (rs := [9]) (by kernel_rfl) (by simp) ?_
              refine AllReady.cons rfl (fun K hK => ?_) ?_
              · go_simp
                refine hK _ _ ?_
                clear hK K
                refine wpAny_take (i := 10) (v := ?_) rfl (by kernel_rfl) (by kernel_rfl) (by kernel_rfl) (fun _ _ _ h => nomatch h.1) (Or.inl ⟨by rfl, ?_⟩) ?_
                rotate_left 1
                focus (intro w; go_simp; try (with_reducible rfl))
                refine wpAny_ready (rs := [11]) (by kernel_rfl) (by simp) ?_
                refine AllReady.cons rfl (fun K hK => ?_) ?_
                · go_simp
                  refine hK _ _ ?_
                  clear hK K
                  refine wpAny_take (i := 12) (v := ?_) rfl (by kernel_rfl) (by kernel_rfl) (by kernel_rfl) (fun _ _ _ h => nomatch h.1) (Or.inl ⟨by rfl, ?_⟩) ?_
                  rotate_left 1
                  focus (intro w; go_simp; try (with_reducible rfl))
                  refine wpAny_ready (rs := [13]) (by kernel_rfl) (by simp) ?_
                  refine AllReady.cons rfl (fun K hK => ?_) ?_
                  · go_simp
                    refine hK _ _ ?_
                    clear hK K
                    refine wpAny_done (by kernel_rfl) ?_ _
                    exact ⟨rfl, rfl, rfl⟩
                  exact AllReady.nil
                exact AllReady.nil
              exact AllReady.nil
            exact AllReady.nil
          refine AllReady.cons rfl (fun K hK => ?_) ?_
          · go_simp
            refine hK _ _ ?_
            clear hK K
            refine wpAny_take (i := 7) (v := ?_) rfl (by kernel_rfl) (by kernel_rfl) (by kernel_rfl) (fun _ _ _ h => nomatch h.1) (Or.inl ⟨by rfl, ?_⟩) ?_
            rotate_left 1
            focus (intro w; go_simp; try (with_reducible rfl))
            refine wpAny_ready (rs := [1]) (by kernel_rfl) (by simp) ?_
            refine AllReady.cons rfl (fun K hK => ?_) ?_
            · go_simp
              refine hK _ _ ?_
              clear hK K
              refine wpAny_take (i := 8) (v := ?_) rfl (by kernel_rfl) (by kernel_rfl) (by kernel_rfl) (fun _ _ _ h => nomatch h.1) (Or.inl ⟨by rfl, ?_⟩) ?_
              rotate_left 1
              focus (intro w; go_simp; try (with_reducible rfl))
              refine wpAny_ready (rs := [9]) (by kernel_rfl) (by simp) ?_
              refine AllReady.cons rfl (fun K hK => ?_) ?_
              · go_simp
                refine hK _ _ ?_
                clear hK K
                refine wpAny_take (i := 10) (v := ?_) rfl (by kernel_rfl) (by kernel_rfl) (by kernel_rfl) (fun _ _ _ h => nomatch h.1) (Or.inl ⟨by rfl, ?_⟩) ?_
                rotate_left 1
                focus (intro w; go_simp; try (with_reducible rfl))
                refine wpAny_ready (rs := [11]) (by kernel_rfl) (by simp) ?_
                refine AllReady.cons rfl (fun K hK => ?_) ?_
                · go_simp
                  refine hK _ _ ?_
                  clear hK K
                  refine wpAny_take (i := 12) (v := ?_) rfl (by kernel_rfl) (by kernel_rfl) (by kernel_rfl) (fun _ _ _ h => nomatch h.1) (Or.inl ⟨by rfl, ?_⟩) ?_
                  rotate_left 1
                  focus (intro w; go_simp; try (with_reducible rfl))
                  refine wpAny_ready (rs := [13]) (by kernel_rfl) (by simp) ?_
                  refine AllReady.cons rfl (fun K hK => ?_) ?_
                  · go_simp
                    refine hK _ _ ?_
                    clear hK K
                    refine wpAny_done (by kernel_rfl) ?_ _
                    exact ⟨rfl, rfl, rfl⟩
                  exact AllReady.nil
                exact AllReady.nil
              exact AllReady.nil
            exact AllReady.nil
          exact AllReady.nil
        exact AllReady.nil

      have hwr : IntKind.i64.wrap ((accF h bn pre).steps + f.steps) = (accF h bn pre).steps + f.steps := by
        have h8 : (pre.length : Int) ≤ 60 := by omega
        have h9 : (pre.length : Int) * bn ≤ 60 * 1000000 := Int.mul_le_mul h8 (by omega) (by omega) (by omega)
        rw [IntKind.wrap_i64]
        omega
      rw [hwr]
      have k5 := blk_put (blk_put (blk_put hon.out 0 (.int .i64 f.verdict) rfl) 1 (.int .i64 ((x.1 : Nat) : Int)) rfl) 4 (.int .i64 ((accF h bn pre).steps + f.steps)) rfl
      have hO5 := Aside0.mk (only_set (only_set (only_set (Only.refl (Is (w1.heap.size + 1)) w4) 0 (.int .i64 f.verdict)) 1 (.int .i64 ((x.1 : Nat) : Int))) 4 (.int .i64 ((accF h bn pre).steps + f.steps)))
      have hO5d := Aside0.mk (hO5.out.drew)
      replace k5 := blk_drew k5
      generalize ((((w4.setCell ⟨w1.heap.size + 1, 0, none⟩ (.int .i64 f.verdict)).setCell ⟨w1.heap.size + 1, 1, none⟩ (.int .i64 ((x.1 : Nat) : Int))).setCell ⟨w1.heap.size + 1, 4, none⟩ (.int .i64 ((accF h bn pre).steps + f.steps))).drew) = w5 at *
      have hfn5 := (hO5d.out.block _ (blk_lt hfn.out) hne).trans hfn.out
      clear o0 o1 o2 o3 o4 f0 f1 f2 f3 g0 b0 hO5 hwr
      have o2 := blk_cell k5 2
      have o3 := blk_cell k5 3
      have g0 := fun j => blk_frozen k5 j
      have f0 := blk_cell hfn5 0
      have f1 := blk_cell hfn5 1
      have f2 := blk_cell hfn5 2
      simp only [List.getElem?_toArray, List.getElem?_cons_zero, List.getElem?_cons_succ] at o2 o3 f0 f1 f2
      have hB5 := Aside0.mk (below_is (below_step h5.out hB4.out) hO5d.out (by omega) (by have := h5.out.size; have := hB4.out.size; omega))
      have keep5 : ∀ k o, W.heap[k]? = some o → k ≠ w1.heap.size + 1 → w5.heap[k]? = some o := fun k o hk hne2 => (hO5d.out.block k (Nat.lt_of_lt_of_le (blk_lt hk) hB4.out.size) hne2).trans (blk_below hk hB4.out)
      have hbox5 : SameAt (w1.heap.size + 1 + 1) W w5 := by
        unfold SameAt World.cell?
        rw [(hO5d.out.block (w1.heap.size + 1 + 1) (by have := hB4.out.size; omega) (fun e => by have e2 : w1.heap.size + 1 + 1 = w1.heap.size + 1 := e; omega)), hB4.out.block _ (by omega)]
      have hkf5 : KeepsFrom (W2.alloc (.cells #[.slice vA h.length vc] 22)).heap.size W w5 := ⟨Nat.le_trans hB4.out.size hO5d.out.size, fun c o hB hk _ => keep5 c o hk (by simp at hB; omega)⟩
      have hrow5 := ((h2.out.below hB4.out).is hO5d.out hon.out (by simp [Kd.int, Kd.scalar]))
      have hof5 := (hof.out.is hO5d.out hon.out (by simp [Kd.int, Kd.scalar])).lower h5.out.size
      replace hkf5 := Aside0.mk hkf5
      replace hrow5 := Aside0.mk hrow5
      replace hof5 := Aside0.mk hof5
      replace hfn5 := Aside0.mk hfn5
      replace k5 := Aside0.mk k5
      replace keep5 := Aside0.mk keep5
      replace hbox5 := Aside0.mk hbox5
      by_cases hv0 : f.verdict = 0
      · have hvb : (f.verdict != 0) = false := by simp [hv0]
        gi_wp2
        refine region_any_post (fun _ _ h => h) (by kernel_rfl) (by kernel_rfl) ?_
        apply Exists.intro
        apply Exists.intro
        refine ⟨?_, ?_⟩
        focus
          refine wpAny_take (i := 0) (v := ?_) rfl (by kernel_rfl) (by kernel_rfl) (by kernel_rfl) (fun _ _ _ h => nomatch h.1) (Or.inl ⟨by rfl, ?_⟩) ?_
          rotate_left 1
          focus (intro w; go_simp; try (with_reducible rfl))
          refine wpAny_take (i := 2) (v := ?_) rfl (by kernel_rfl) (by kernel_rfl) (by kernel_rfl) (fun _ _ _ h => nomatch h.1) (Or.inl ⟨by rfl, ?_⟩) ?_
          rotate_left 1
          focus (intro w; go_simp; try (with_reducible rfl))
          refine wpAny_ready (rs := [1, 3]) (by kernel_rfl) (by simp) ?_
          refine AllReady.cons rfl (fun K hK => ?_) ?_
          · go_simp
            refine hK _ _ ?_
            clear hK K
            refine wpAny_take (i := 4) (v := ?_) rfl (by kernel_rfl) (by kernel_rfl) (by kernel_rfl) (fun _ _ _ h => nomatch h.1) (Or.inl ⟨by rfl, ?_⟩) ?_
            rotate_left 1
            focus (intro w; go_simp; try (with_reducible rfl))
            refine wpAny_ready (rs := [3, 5]) (by kernel_rfl) (by simp) ?_
            refine AllReady.cons rfl (fun K hK => ?_) ?_
            · go_simp
              refine hK _ _ ?_
              clear hK K
              refine wpAny_ready (rs := [5]) (by kernel_rfl) (by simp) ?_
              refine AllReady.cons rfl (fun K hK => ?_) ?_
              · go_simp
                refine hK _ _ ?_
                clear hK K
                refine wpAny_take (i := 6) (v := ?_) rfl (by kernel_rfl) (by kernel_rfl) (by kernel_rfl) (fun _ _ _ h => nomatch h.1) (Or.inl ⟨by rfl, ?_⟩) ?_
                rotate_left 1
                focus (intro w; go_simp; try (with_reducible rfl))
                refine wpAny_ready (rs := [7]) (by kernel_rfl) (by simp) ?_
                refine AllReady.cons rfl (fun K hK => ?_) ?_
                · go_simp
                  refine hK _ _ ?_
                  clear hK K
                  refine wpAny_done (by kernel_rfl) ?_ _
                  exact ⟨rfl, rfl, rfl⟩
                exact AllReady.nil
              exact AllReady.nil
            refine AllReady.cons rfl (fun K hK => ?_) ?_
            · go_simp
              refine hK _ _ ?_
              clear hK K
              refine wpAny_ready (rs := [3]) (by kernel_rfl) (by simp) ?_
              refine AllReady.cons rfl (fun K hK => ?_) ?_
              · go_simp
                refine hK _ _ ?_
                clear hK K
                refine wpAny_take (i := 6) (v := ?_) rfl (by kernel_rfl) (by kernel_rfl) (by kernel_rfl) (fun _ _ _ h => nomatch h.1) (Or.inl ⟨by rfl, ?_⟩) ?_
                rotate_left 1
                focus (intro w; go_simp; try (with_reducible rfl))
                refine wpAny_ready (rs := [7]) (by kernel_rfl) (by simp) ?_
                refine AllReady.cons rfl (fun K hK => ?_) ?_
                · go_simp
                  refine hK _ _ ?_
                  clear hK K
                  refine wpAny_done (by kernel_rfl) ?_ _
                  exact ⟨rfl, rfl, rfl⟩
                exact AllReady.nil
              exact AllReady.nil
            exact AllReady.nil
          refine AllReady.cons rfl (fun K hK => ?_) ?_
          · go_simp
            refine hK _ _ ?_
            clear hK K
            refine wpAny_ready (rs := [1]) (by kernel_rfl) (by simp) ?_
            refine AllReady.cons rfl (fun K hK => ?_) ?_
            · go_simp
              refine hK _ _ ?_
              clear hK K
              refine wpAny_take (i := 4) (v := ?_) rfl (by kernel_rfl) (by kernel_rfl) (by kernel_rfl) (fun _ _ _ h => nomatch h.1) (Or.inl ⟨by rfl, ?_⟩) ?_
              rotate_left 1
              focus (intro w; go_simp; try (with_reducible rfl))
              refine wpAny_ready (rs := [5]) (by kernel_rfl) (by simp) ?_
              refine AllReady.cons rfl (fun K hK => ?_) ?_
              · go_simp
                refine hK _ _ ?_
                clear hK K
                refine wpAny_take (i := 6) (v := ?_) rfl (by kernel_rfl) (by kernel_rfl) (by kernel_rfl) (fun _ _ _ h => nomatch h.1) (Or.inl ⟨by rfl, ?_⟩) ?_
                rotate_left 1
                focus (intro w; go_simp; try (with_reducible rfl))
                refine wpAny_ready (rs := [7]) (by kernel_rfl) (by simp) ?_
                refine AllReady.cons rfl (fun K hK => ?_) ?_
                · go_simp
                  refine hK _ _ ?_
                  clear hK K
                  refine wpAny_done (by kernel_rfl) ?_ _
                  exact ⟨rfl, rfl, rfl⟩
                exact AllReady.nil
              exact AllReady.nil
            exact AllReady.nil
          exact AllReady.nil

        have k6 := blk_drew (blk_put (blk_put k5.out 2 (.int .u32 f.commits) rfl) 3 (.slice fA f.row.length fc) rfl)
        have hO6 := (only_set (only_set (Only.refl (Is (w1.heap.size + 1)) w5) 2 (.int .u32 f.commits)) 3 (.slice fA f.row.length fc)).drew
        generalize ((w5.setCell ⟨w1.heap.size + 1, 2, none⟩ (.int .u32 f.commits)).setCell ⟨w1.heap.size + 1, 3, none⟩ (.slice fA f.row.length fc)).drew = w6 at *
        have keep6 : ∀ k o, W.heap[k]? = some o → k ≠ w1.heap.size + 1 → w6.heap[k]? = some o := fun k o hk hne2 => (hO6.block k (blk_lt (keep5.out k o hk hne2)) hne2).trans (keep5.out k o hk hne2)
        refine ⟨⟨Nat.le_trans hkf5.out.size hO6.size, fun c o hB hk _ => keep6 c o hk (by simp at hB; omega)⟩, ?_, ⟨.slice fA f.row.length fc, ?_, ?_⟩, ⟨keep6 _ _ h3.out (by omega), keep6 _ _ h4.out (by omega)⟩, below_is hB5.out hO6 (by omega) hB5.out.size, ?_, ?_⟩
        · refine SameAt.tr hbox5.out ?_
          unfold SameAt World.cell?
          rw [hO6.block (w1.heap.size + 1 + 1) (by have := hkf5.out.size; omega) (fun e => by have e2 : w1.heap.size + 1 + 1 = w1.heap.size + 1 := e; omega)]
        · rw [hstep.out]
          exact k6
        · rw [hstep.out]
          exact hof5.out.is hO6 k5.out (by simp [Kd.int, Kd.scalar])
        · have := hkf5.out.size; have := hO6.size; omega
        · intro y hy
          rcases List.mem_append.1 hy with hy | hy
          · exact h6.out y hy
          · have : y = x := by simpa using hy
            subst this
            exact hyes.out.2 hv0
      · have hvb : (f.verdict != 0) = true := by simpa using hv0
        gi_wp2
        refine ⟨hkf5.out, ⟨rv, ?_, ?_⟩, ⟨keep5.out _ _ h3.out (by omega), keep5.out _ _ h4.out (by omega)⟩, hB5.out, rfl, ?_, ?_⟩
        · rw [List.dropLast_concat, lastN_snoc, hstp.out]
          exact k5.out
        · rw [List.dropLast_concat]
          exact hrow5.out
        · rw [List.dropLast_concat]
          exact h6.out
        · rw [lastN_snoc]
          exact fun e => hv0 (hyes.out.1 e)
end Go.Proofs.YtnogalajfccioaaDoor
