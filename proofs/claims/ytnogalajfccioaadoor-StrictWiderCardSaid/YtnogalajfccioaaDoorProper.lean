/- Layer 5 (proper): the table of moves, the run through events. -/
import Derived.Test.YtnogalajfccioaaDoorText
import Derived.Test.YtnogalajfccioaaDoorMaps
namespace Go.Proofs.YtnogalajfccioaaDoor
open Go.RowKit Go.Proofs.YtnogalajfccioaaDoorW.PrintWords
/-- Maps of whole numbers, made one behind the other since w0. -/
structure MapsL (w0 W : World) (L : List (Int → Option Value)) : Prop where
  size : W.heap.size = w0.heap.size + L.length
  maps : ∀ (i : Nat) f, L[i]? = some f → MapF (Value.int .i64) W (w0.heap.size + i) f
  below : Below w0.heap.size w0 W
theorem MapsL.start (w0 : World) : MapsL w0 w0 [] := ⟨rfl, fun i f h => by simp at h, Below.refl _ _⟩
section
variable {P : Program} {ops : Array Oper} {rest : List Oper} {o : Oper} {a : Act} {Q : Exit → Act → World → Prop}
theorem wpList_mkL {w0 W : World} {L : List (Int → Option Value)} (H : MapsL w0 W L) (hgd : o.guard = none) (T : TypeId) (ho : o.op = .makeMap T none)
    (h : ∀ w1, MapsL w0 w1 (L ++ [fun _ => none]) → wpList P ops Q rest (a.put o.dst (.map (some (w0.heap.size + L.length)))) w1) : wpList P ops Q (o :: rest) a W := by
  refine Kd.event_run hgd (v := .map (some (w0.heap.size + L.length))) (w1 := W.alloc (.map #[] 0)) ?_ (h _ ⟨?_, fun i f hi => ?_, H.below.alloc (by have := H.size; omega) _⟩)
  · rw [← H.size]; simp [execOp, ho, run_makeMap, Result.andThen]
  · simp [H.size]; omega
  · rcases Nat.lt_or_ge i L.length with h1 | h1
    · rw [List.getElem?_append_left h1] at hi
      exact (H.maps i f hi).below (below_alloc (Below.refl _ _) _)
    · have hi2 := hi
      rw [List.getElem?_append_right h1] at hi
      have : i = L.length := by
        have := (List.getElem?_eq_some_iff.1 hi2).1
        simp at this; omega
      subst this
      simp at hi
      subst hi
      rw [← H.size]
      exact MapF.empty _ (heap_alloc_new W _)
theorem wpList_putL {kt et : TypeId} (K : KeyLaw P kt (Value.int .i64)) {T : TypeId} (hT : P.underlying T = some (.map kt et)) {w0 W : World} {L : List (Int → Option Value)} (H : MapsL w0 W L)
    (hgd : o.guard = none) (m k x : Operand) (ho : o.op = .mapUpdate T m k x ∨ o.op = .insert T m k x) {r : Nat} (hmv : a.eval m = .map (some r)) (n : Int) (hk : a.eval k = .int .i64 n) (v : Value) (hx : a.eval x = v)
    (i : Nat) (hi : r = w0.heap.size + i) (f : Int → Option Value) (hf : L[i]? = some f)
    (h : ∀ w1, MapsL w0 w1 (L.set i (putF f n v)) → wpList P ops Q rest (a.put o.dst undef) w1) : wpList P ops Q (o :: rest) a W := by
  subst hi
  refine wpList_put K hT (H.maps i f hf) hgd m k x ho hmv n hk v hx fun w1 hm hg hs => h w1 ⟨by simp [hs, H.size], fun j g hj => ?_, pw_below_grown H.below _ (by have := H.size; omega) hg (fun k hk => by cases hk; omega)⟩
  by_cases hji : j = i
  · subst hji
    have hl := (List.getElem?_eq_some_iff.1 hf).1
    rw [List.getElem?_set_self hl] at hj
    cases hj
    exact hm
  · rw [List.getElem?_set_ne (Ne.symm hji)] at hj
    exact (H.maps j g hj).grown hg (fun e => by injection e with e; omega)
end
/-- A map of whole numbers, or nil. -/
def MapV (w : World) (v : Value) (f : Int → Option Value) : Prop := (v = .map none ∧ ∀ k, f k = none) ∨ ∃ r, v = .map (some r) ∧ MapF (Value.int .i64) w r f
/-- The table of moves. -/
def Moves (w : World) (v : Value) : Prop := ∃ r g, v = .map (some r) ∧ MapF (Value.int .i64) w r g ∧ ∀ s, MapV w ((g s).getD (.map none)) (fun k => (mv s k).map (Value.int .i64))
theorem moves_of {w0 W : World} {f0 f1 f2 f3 f4 f5 f6 f7 : Int → Option Value} (H : MapsL w0 W [f0, f1, f2, f3, f4, f5, f6, f7])
    (h0 : ∀ s, f0 s = if s = 6 then some (.map (some (w0.heap.size + 7))) else if s = 5 then some (.map (some (w0.heap.size + 6))) else if s = 4 then some (.map (some (w0.heap.size + 5))) else if s = 3 then some (.map (some (w0.heap.size + 4))) else if s = 2 then some (.map (some (w0.heap.size + 3))) else if s = 1 then some (.map (some (w0.heap.size + 2))) else if s = 0 then some (.map (some (w0.heap.size + 1))) else none)
    (h1 : ∀ k, f1 k = (mv 0 k).map (Value.int .i64)) (h2 : ∀ k, f2 k = (mv 1 k).map (Value.int .i64)) (h3 : ∀ k, f3 k = (mv 2 k).map (Value.int .i64)) (h4 : ∀ k, f4 k = (mv 3 k).map (Value.int .i64)) (h5 : ∀ k, f5 k = (mv 4 k).map (Value.int .i64)) (h6 : ∀ k, f6 k = (mv 5 k).map (Value.int .i64)) (h7 : ∀ k, f7 k = (mv 6 k).map (Value.int .i64)) :
    Moves W (.map (some w0.heap.size)) := by
  have m : ∀ (i : Nat) (f : Int → Option Value) (s : Int), [f0, f1, f2, f3, f4, f5, f6, f7][i]? = some f → (∀ k, f k = (mv s k).map (Value.int .i64)) → MapV W (.map (some (w0.heap.size + i))) (fun k => (mv s k).map (Value.int .i64)) := by
    intro i f s hi hf
    have := H.maps i f hi
    rw [funext hf] at this
    exact .inr ⟨_, rfl, this⟩
  refine ⟨w0.heap.size, f0, rfl, H.maps 0 f0 rfl, fun s => ?_⟩
  rw [h0]
  split
  · next h => subst h; exact m 7 f7 6 rfl h7
  split
  · next h => subst h; exact m 6 f6 5 rfl h6
  split
  · next h => subst h; exact m 5 f5 4 rfl h5
  split
  · next h => subst h; exact m 4 f4 3 rfl h4
  split
  · next h => subst h; exact m 3 f3 2 rfl h3
  split
  · next h => subst h; exact m 2 f2 1 rfl h2
  split
  · next h => subst h; exact m 1 f1 0 rfl h1
  · refine .inl ⟨rfl, fun k => ?_⟩
    simp [mv, *]
theorem Tryd.keysState : KeyLaw Tryd.prog 158 (Value.int .i64) := intKeys (by kernel_rfl)
theorem Tryd.keysInt : KeyLaw Tryd.prog 3 (Value.int .i64) := intKeys (by kernel_rfl)
set_option maxRecDepth 100000 in
set_option maxHeartbeats 4000000 in
theorem moves_c (w : World) : Calls Tryd.prog 96 #[] w fun e w' => ∃ v, e = .returned v ∧ Moves w' v ∧ Below w.heap.size w w' := by
  have H := MapsL.start w
  go_enter Tryd.func96, Tryd.ntmps96
  go_wp2_with (first | (refine wpList_mkL H rfl _ rfl ?_; clear H; intro w1 H; simp only [List.nil_append, List.cons_append] at H; simp only [List.length_nil, List.length_cons, Nat.zero_add, Nat.add_zero, Nat.reduceAdd]; go_simp) | (refine wpList_putL Tryd.keysInt Tryd.underlying118 H rfl _ _ _ (.inr rfl) rfl _ rfl _ rfl _ (by first | exact (Nat.add_zero _).symm | rfl) _ rfl ?_; clear H; intro w1 H; simp only [List.set_cons_zero, List.set_cons_succ] at H; go_simp) | (refine wpList_putL Tryd.keysState Tryd.underlying156 H rfl _ _ _ (.inr rfl) rfl _ rfl _ rfl _ (by first | exact (Nat.add_zero _).symm | rfl) _ rfl ?_; clear H; intro w1 H; simp only [List.set_cons_zero] at H; go_simp))
  go_ret
  have hf : ∀ k, putF (fun _ => none) 0 (.int .i64 1) k = (mv 0 k).map (Value.int .i64) := fun k => by simp [putF, mv]
  refine ⟨_, rfl, moves_of H (fun _ => rfl) hf ?_ ?_ ?_ ?_ ?_ ?_, H.below⟩
  all_goals
    intro k
    simp [putF, mv, Act.eval]
    repeat' split
  all_goals first | rfl | omega
theorem Tryd.zeroInt (w : World) : (zeroValue 3).run Tryd.prog w = .ok (.int .i64 0) w := by kernel_rfl
theorem Tryd.zeroState (w : World) : (zeroValue 158).run Tryd.prog w = .ok (.int .i64 0) w := by kernel_rfl
theorem Tryd.zeroStates (w : World) : (zeroValue 118).run Tryd.prog w = .ok (.map none) w := by kernel_rfl
theorem run_lookup_V {P : Program} {kt et : TypeId} (K : KeyLaw P kt (Value.int .i64)) {T : TypeId} (hT : P.underlying T = some (.map kt et)) {z : Value} (hz : ∀ w, (zeroValue et).run P w = .ok z w)
    {w : World} {v : Value} {f : Int → Option Value} (h : MapV w v f) (k : Int) (b : Bool) :
    (Instr.lookup T v (.int .i64 k) b).run P w = .ok (if b then .tuple #[(f k).getD z, .bool (f k).isSome] else (f k).getD z) w := by
  rcases h with ⟨rfl, h⟩ | ⟨r, rfl, h⟩
  · rw [h k, run_lookup_nil K hT hz]; rfl
  · exact run_lookup_F K hT hz h k b
theorem MapV.below {w w1 : World} {v : Value} {f : Int → Option Value} (h : MapV w v f) (hb : Below w.heap.size w w1) : MapV w1 v f := by
  rcases h with h | ⟨r, e, h⟩
  · exact .inl h
  · exact .inr ⟨r, e, h.below hb⟩
theorem Moves.below {w w1 : World} {v : Value} (h : Moves w v) (hb : Below w.heap.size w w1) : Moves w1 v := by
  obtain ⟨r, g, e, hm, hs⟩ := h
  exact ⟨r, g, e, hm.below hb, fun s => (hs s).below hb⟩
/-- The block of states, by their names. -/
def NowIs (w : World) (r : Nat) (now : Int → Int) : Prop := ∃ f, MapF (Value.int .i64) w r f ∧ ∀ t, (f t).getD (.int .i64 0) = .int .i64 (now t)
theorem NowIs.below {w w1 : World} {r : Nat} {now : Int → Int} (h : NowIs w r now) (hb : Below w.heap.size w w1) : NowIs w1 r now := by
  obtain ⟨f, hm, hf⟩ := h
  exact ⟨f, hm.below hb, hf⟩
/-- A pair whose second part is not told. -/
def Fst (a : Value) (e : Ending) : Prop := ∃ m, e = .returned (.tuple #[a, m])
set_option maxRecDepth 100000 in
set_option maxHeartbeats 1000000 in
theorem run_c (h : List Ev) (v : Value) (w : World) (hv : In kEv w v h) :
    Calls Tryd.prog 69 #[v] w fun e w' => Fst (.int .i64 (first h)) e ∧ Below w.heap.size w w' := by
  obtain ⟨A, c, rfl, hc, hC0⟩ := hv
  have hm : h.length ≤ 9223372036854775807 := hC0.2.1
  have hC := Aside0.mk hC0
  clear hC0
  have hmm := @run_makeMap Tryd.prog
  go_enter Tryd.func69, Tryd.ntmps69
  go_wp2_with (go_at_call 96; refine (moves_c _).mono ?_; rintro e w1 ⟨u, rfl, hu, hb1⟩)
  have hb2 : Below w.heap.size w (w1.alloc (.map #[] 0)) := below_alloc hb1 _
  have hu2 : Below w1.heap.size w1 (w1.alloc (.map #[] 0)) := below_alloc (Below.refl _ _) _
  replace hu := Aside0.mk hu
  have hn : NowIs (w1.alloc (.map #[] 0)) w1.heap.size (fun _ => 0) := ⟨_, MapF.empty _ (heap_alloc_new _ _), fun _ => rfl⟩
  replace hn := Aside0.mk hn
  have hB : w.heap.size ≤ w1.heap.size := hb1.size
  go_loopw [6, 7, 8, 9, 14] (fun _ _ _ _ i wr => ∃ j : Nat, j ≤ h.length ∧ i = .int .i64 j ∧ Below w.heap.size w wr ∧ Below w1.heap.size w1 wr ∧ w1.heap.size < wr.heap.size ∧ Aside0 (∃ now, NowIs wr w1.heap.size now ∧ first h = j + runF now (h.drop j))) (fun _ _ _ _ i _ => h.length - (intOf i).toNat)
  case atStart => exact ⟨0, Nat.zero_le _, rfl, hb2, hu2, by simp, ⟨_, hn.out, by simp [first]⟩⟩
  case round =>
    obtain ⟨j, hj, rfl, hb, hmv, hlt1, hnow⟩ := hrel
    by_cases hlt : j < h.length
    · obtain ⟨ad, x, rfl, hx, h0, h1, h2, h3⟩ := get_Ev (Kd.C_below hC.out hb) j hlt
      obtain ⟨now, ⟨f, hf, hfn⟩, hfirst⟩ := hnow.out
      obtain ⟨r, g, rfl, hg, hgs⟩ := hu.out.below hmv
      have hd : h.drop j = x :: h.drop (j + 1) := by
        obtain ⟨hl, he⟩ := List.getElem?_eq_some_iff.1 hx.out
        rw [List.drop_eq_getElem_cons hl, he]
      rw [hd, runF] at hfirst
      have hal : ∀ o, Below wr.heap.size wr (wr.alloc o) := fun o => below_alloc (Below.refl _ _) o
      have e1 : ∀ o, (Instr.lookup 118 (.map (some w1.heap.size)) (.int .i64 x.tx) false).run Tryd.prog (wr.alloc o) = .ok (.int .i64 (now x.tx)) (wr.alloc o) := fun o => by
        rw [run_lookup_F Tryd.keysInt Tryd.underlying118 Tryd.zeroState (hf.below (hal o))]; simp [hfn]
      have hs := hgs (now x.tx)
      have e2 : ∀ o, (Instr.lookup 156 (.map (some r)) (.int .i64 (now x.tx)) false).run Tryd.prog (wr.alloc o) = .ok ((g (now x.tx)).getD (.map none)) (wr.alloc o) := fun o => by
        rw [run_lookup_F Tryd.keysState Tryd.underlying156 Tryd.zeroStates (hg.below (hal o))]; rfl
      have hfn2 := Aside0.mk hfn
      generalize (g (now x.tx)).getD (.map none) = u at hs e2
      have e3 : ∀ o, (Instr.lookup 118 u (.int .i64 x.kind) true).run Tryd.prog (wr.alloc o) = .ok (.tuple #[((mv (now x.tx) x.kind).map (Value.int .i64)).getD (.int .i64 0), .bool (mv (now x.tx) x.kind).isSome]) (wr.alloc o) := fun o => by
        rw [run_lookup_V Tryd.keysInt Tryd.underlying118 Tryd.zeroState (hs.below (hal o))]; cases mv (now x.tx) x.kind <;> rfl
      clear hfn hgs hnow hs
      cases hmk : mv (now x.tx) x.kind with
      | none =>
        rw [hmk] at hfirst e3
        replace hfirst := Aside0.mk hfirst
        clear hmk
        go_wp2
        go_ret2
        exact ⟨⟨_, by rw [hfirst.out]; rfl⟩, below_alloc hb _⟩
      | some s =>
        rw [hmk] at hfirst e3
        have hfirst2 := Aside0.mk (show first h = (j + 1) + runF (upd now x.tx s) (h.drop (j + 1)) by rw [hfirst]; simp; omega)
        clear hmk hfirst
        have hf2 := Aside0.mk (hf.below (hal (.cells #[.int .i64 x.kind, .int .i64 x.tx, .int .i64 x.var, .int .i64 x.val] 49)))
        clear hf hg
        go_wp2_with (refine wpList_put Tryd.keysInt Tryd.underlying118 hf2.out rfl _ _ _ (.inl rfl) rfl _ rfl _ rfl ?_; intro w3 hm3 hg3 hz3; replace hm3 := Aside0.mk hm3; replace hg3 := Aside0.mk hg3; replace hz3 := Aside0.mk hz3)
        go_roundw
        case rel =>
          refine ⟨j + 1, by omega, by go_num, pw_below_grown (below_alloc hb _) _ (by simp; omega) hg3.out (fun k hk => by cases hk; omega), pw_below_grown (below_alloc hmv _) _ (by simp; omega) hg3.out (fun k hk => by cases hk; exact Nat.le_refl _), by rw [hz3.out]; simp; omega, ⟨upd now x.tx s, ⟨_, hm3.out, fun t => ?_⟩, hfirst2.out⟩⟩
          unfold putF upd
          split
          · rfl
          · exact hfn2.out t
        case measure => simp [intOf]; omega
    · go_wp2
      go_ret2
      obtain rfl : j = h.length := by omega
      obtain ⟨now, _, hfirst⟩ := hnow.out
      exact ⟨⟨_, by rw [hfirst]; simp [runF]; rfl⟩, hb⟩
theorem runF_le (h : List Ev) : ∀ now, runF now h ≤ h.length := by
  induction h with
  | nil => intro _; exact Nat.le_refl _
  | cons e h ih =>
    intro now
    unfold runF
    split
    · exact Nat.zero_le _
    · exact Nat.succ_le_succ (ih _)
set_option maxHeartbeats 1000000 in
theorem check_c (h : List Ev) (v : Value) (w : World) (hv : In kEv w v h) (hk : Kinds w) :
    Calls Tryd.prog 38 #[v] w fun e w' => e = .returned (.tuple #[.int .i64 (checkAt h), .int .i64 (why h)]) ∧ Below w.heap.size w w' := by
  have hv0 := Aside0.mk hv
  replace hk := Aside0.mk hk
  obtain ⟨A, c, rfl, hc, hC0⟩ := hv
  have hm : h.length ≤ 9223372036854775807 := hC0.2.1
  clear hC0
  have hle := runF_le h (fun _ => 0)
  cases hr : RightB h with
  | false =>
    have ha : checkAt h = 0 := by simp [checkAt, hr]
    have hw : why h = 1 := by simp [why, hr]
    replace ha := Aside0.mk ha
    replace hw := Aside0.mk hw
    replace hr := Aside0.mk hr
    go_enter Tryd.func38, Tryd.ntmps38
    go_wp2_with (go_at_call 68; refine (Right_c h _ _ hv0.out hk.out).mono ?_; rintro e w' ⟨rfl, hb⟩; rw [hr.out])
    go_ret2
    exact ⟨by rw [ha.out, hw.out]; rfl, hb⟩
  | true =>
    have ha : checkAt h = first h := by simp [checkAt, hr]
    have hw : why h = if first h < h.length then 6 else 0 := by simp [why, hr]
    replace ha := Aside0.mk ha
    replace hw := Aside0.mk hw
    replace hr := Aside0.mk hr
    by_cases hlt : first h < h.length
    all_goals
      go_enter Tryd.func38, Tryd.ntmps38
      go_wp2_with (first | (go_at_call 68; refine (Right_c h _ _ hv0.out hk.out).mono ?_; rintro e w' ⟨rfl, hb⟩; rw [hr.out]) | (go_at_call 69; refine (run_c h _ _ (hv0.out.below hb)).mono ?_; rintro e w2 ⟨⟨m, rfl⟩, hb2⟩))
      go_ret2
      exact ⟨by rw [ha.out, hw.out]; (first | rw [if_pos hlt] | rw [if_neg hlt]); rfl, below_step hb hb2⟩
end Go.Proofs.YtnogalajfccioaaDoor
