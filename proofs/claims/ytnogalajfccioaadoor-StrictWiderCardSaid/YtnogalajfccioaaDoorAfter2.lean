/- Layer 7 (order): after. -/
import Derived.Test.YtnogalajfccioaaDoorBits
namespace Go.Proofs.YtnogalajfccioaaDoor
open Go.RowKit Go.Shelf Go.Proofs.YtnogalajfccioaaDoorW.PrintWords
attribute [local go_sem] Oper.semAt_some
theorem own_from {β α : Type} {d : Kd α} {e : Nat} {w0 : World} {v : Value} {f : β → List α} {B : Nat} : OwnFrom B (fun s W => Own d e w0 W v (f s)) :=
  fun s W W' row h hg hr => Own.only2 h (Only.of_grown hg) (fun k hk cells q _ he => by obtain ⟨_, o, ho, hc⟩ := hr k hk.symm; rw [ho] at he; cases he; cases hc)
theorem blk_from {β : Type} {b : Nat} {cs : Array Value} {t : TypeId} {fr : Nat × Nat} {B : Nat} : OwnFrom B (fun (_ : β) W => W.heap[b]? = some (.cells cs t fr)) :=
  fun s W W' row (h : W.heap[b]? = _) hg hr => (hg.block b (blk_lt h) (fun e => by obtain ⟨_, o, ho, hc⟩ := hr b e.symm; rw [ho] at h; cases h; cases hc)).trans h
theorem after_same {l : List Txn} {pre : List (Fin (l.length * l.length))} {x : Fin (l.length * l.length)} {w W : World} {v v2 : Value} {b B m t1 t2 nq : Nat}
    (hz : midA l (pre ++ [x]) = midA l pre)
    (hI : (Own kU32 30 w W v (midA l pre) ∧ W.heap[w.heap.size]? = some (.cells #[v2] t1 (0, 0))) ∧ (W.heap[b]? = some (.cells #[v] t2 (0, 0)) ∧ Below w.heap.size w W)) :
    KeepsFrom B W (W.drewN nq) ∧ SameAt m W (W.drewN nq) ∧ (Own kU32 30 w (W.drewN nq) v (midA l (pre ++ [x])) ∧ (W.drewN nq).heap[w.heap.size]? = some (.cells #[v2] t1 (0, 0))) ∧ ((W.drewN nq).heap[b]? = some (.cells #[v] t2 (0, 0)) ∧ Below w.heap.size w (W.drewN nq)) :=
  ⟨⟨Nat.le_refl _, fun _ _ _ h _ => h⟩, rfl, ⟨by rw [hz]; exact Kd.R_drewN hI.1.1 nq, hI.1.2⟩, hI.2.1, pw_below_drewN hI.2.2 nq⟩
theorem midA_lt (l : List Txn) (pre) (i : Nat) (hl : l.length ≤ 32) : (midA l pre).getD i 0 < 2 ^ 32 := by
  rw [List.getD_eq_getElem?_getD]
  by_cases hi : i < l.length
  · have : (midA l pre)[i]? = some (mask l.length fun k => before l i k && pre.any (fun x => x.1 == i * l.length + k)) := by simp [midA, hi]
    rw [this]
    exact Nat.lt_of_lt_of_le (mask_lt _ _) (Nat.pow_le_pow_right (by decide) hl)
  · rw [List.getElem?_eq_none (by rw [midA_len]; omega)]
    decide
theorem after_put {l : List Txn} {pre : List (Fin (l.length * l.length))} {x : Fin (l.length * l.length)} {w W : World} {g n cap ia y : Nat} {v2 : Value} {b B m t1 t2 nq : Nat}
    (h1 : w.heap.size < g) (h2 : g ≠ b) (h3 : g ≠ m) (hn : n = l.length)
    (hz : midA l (pre ++ [x]) = (midA l pre).set ia y)
    (hI : (Own kU32 30 w W (.slice (some ⟨g, 0, none⟩) n cap) (midA l pre) ∧ W.heap[w.heap.size]? = some (.cells #[v2] t1 (0, 0))) ∧ (W.heap[b]? = some (.cells #[.slice (some ⟨g, 0, none⟩) n cap] t2 (0, 0)) ∧ Below w.heap.size w W)) :
    KeepsFrom B W ((W.drewN nq).drew.setCell ⟨g, ia, none⟩ (.int .u32 (y : Int))) ∧ SameAt m W ((W.drewN nq).drew.setCell ⟨g, ia, none⟩ (.int .u32 (y : Int))) ∧ (Own kU32 30 w ((W.drewN nq).drew.setCell ⟨g, ia, none⟩ (.int .u32 (y : Int))) (.slice (some ⟨g, 0, none⟩) n cap) (midA l (pre ++ [x])) ∧ ((W.drewN nq).drew.setCell ⟨g, ia, none⟩ (.int .u32 (y : Int))).heap[w.heap.size]? = some (.cells #[v2] t1 (0, 0))) ∧ (((W.drewN nq).drew.setCell ⟨g, ia, none⟩ (.int .u32 (y : Int))).heap[b]? = some (.cells #[.slice (some ⟨g, 0, none⟩) n cap] t2 (0, 0)) ∧ Below w.heap.size w ((W.drewN nq).drew.setCell ⟨g, ia, none⟩ (.int .u32 (y : Int)))) := by
  subst hn
  have ho : Own kU32 30 w (W.drewN nq).drew (.slice (some ⟨g, 0, none⟩) l.length cap) (midA l pre) := Kd.R_drew (Kd.R_drewN hI.1.1 nq)
  have hp := (Kd.R_put (enc := fun n : Nat => .int .u32 n) (h1 := fun _ => rfl) (show (Kd.scalar (fun n : Nat => .int .u32 n) (fun _ => rfl)).R 30 (W.drewN nq).drew w.heap.size (fun _ => True) (.slice (some ⟨g, 0, none⟩) (midA l pre).length cap) (midA l pre) by rw [midA_len]; exact ho) (ia : Int) y).1
  simp only [Int.toNat_natCast] at hp
  rw [midA_len, ← hz] at hp
  refine ⟨?_, ?_, ⟨hp, ?_⟩, ?_, ?_⟩
  · have k := (KeepsOthers.setCell (W.drewN nq).drew ⟨g, ia, none⟩ (.int .u32 (y : Int))).from B
    exact ⟨k.size, fun c o a1 a2 a3 => k.same c o a1 a2 a3⟩
  · show World.cell? _ _ = _
    unfold World.cell?
    rw [Below.heap_setCell _ _ _ m (Ne.symm h3)]
    rfl
  · rw [Below.heap_setCell _ _ _ w.heap.size (by show w.heap.size ≠ g; omega)]; exact hI.1.2
  · rw [Below.heap_setCell _ _ _ b (Ne.symm h2)]; exact hI.2.1
  · exact (below_drew (pw_below_drewN hI.2.2 nq)).setCell (p := ⟨g, ia, none⟩) (by show w.heap.size ≤ g; omega) _
theorem Tryd.info_U32 : (Tryd.prog.info? 30).map (fun i => (i.zero, i.size, i.bytes)) = some (some (.int .u32 0), 1, 4) := by kernel_rfl
set_option maxRecDepth 100000 in
set_option maxHeartbeats 4000000 in
theorem after1_c (l : List Txn) (v : Value) (w : World) (hv : In kTxn w v l) (hl : l.length ≤ 32) :
    Calls Tryd.prog 55 #[v] w fun e w' => RetR kU32 30 w w' (after l) e ∧ Below w.heap.size w w' := by
  obtain ⟨A, c, rfl, hc, hC⟩ := hv
  replace hC := Aside0.mk hC
  refine (callsIn_wide (n := 9)).1 ?_
  refine callsIn_of_wp_marks Tryd.func55 rfl trivial ?_ rfl
  simp only [Tryd.ntmps55, List.size_toArray, List.length_cons, List.length_nil, Nat.reduceAdd, Nat.reduceSub, Array.replicate_succ, Array.replicate_zero, List.push_toArray, List.append_toArray, List.nil_append, List.cons_append]
  refine wpIn_wide.2 ?_
  go_wp2_with first
    | (at_make; refine Kd.R_make kU32 (w0 := w) w.heap.size 30 rfl rfl 55 (.tmp 7) (.tmp 7) rfl l.length rfl rfl Tryd.underlying55 (.int .u32 0) 4 Tryd.info_U32 rfl (by decide) (by decide) 0 (ok := fun _ => True) (okp := fun _ => True) rfl (fun _ _ => trivial) trivial (by omega) (by simp; omega) (below_alloc (Below.refl _ _) _) (by simp) ?_; intro v1 w1 hO hB hg hat; rw [Int.toNat_natCast, ← midA_nil] at hO; obtain ⟨oA, oc, hs⟩ := Kd.R_slice hO; rw [midA_len] at hs; subst hs; have hb1 := blk_grown (blk_new w (.cells #[.slice A l.length c] 27)) hg (fun e => by cases e); have hlt : w.heap.size < w1.heap.size := (by have := blk_lt hb1; omega); have hne : w.heap.size ≠ w1.heap.size := (by omega); have d1 := blk_cell hb1 0; simp only [List.getElem?_toArray, List.getElem?_cons_zero] at d1; replace hb1 := Aside0.mk hb1; replace hO := Aside0.mk hO; replace hg := Aside0.mk hg; replace hB := Aside0.mk hB; replace hat := Aside0.mk hat)
    | (go_at_call 78; refine (pairs_c l.length _).mono ?_; rintro e w2 ⟨rfl, rfl⟩)
  have d2 := blk_cell (blk_new (w1.alloc (.cells #[.slice oA l.length oc] 55)) (.cells #[.int .i64 l.length] 3)) 0
  rw [World.size_alloc] at d2
  simp only [List.getElem?_toArray, List.getElem?_cons_zero] at d2
  have hT := Aside0.mk (Kd.R_alloc (Kd.R_alloc hO.out (.cells #[.slice oA l.length oc] 55)) (.cells #[.int .i64 l.length] 3))
  have hB2 := Aside0.mk (below_alloc (below_alloc hB.out (.cells #[.slice oA l.length oc] 55)) (.cells #[.int .i64 l.length] 3))
  have hbo := Aside0.mk (blk_alloc (blk_new w1 (.cells #[.slice oA l.length oc] 55)) (.cells #[.int .i64 l.length] 3))
  have hbi := Aside0.mk (blk_alloc (blk_alloc hb1.out (.cells #[.slice oA l.length oc] 55)) (.cells #[.int .i64 l.length] 3))
  refine (wpIn_wide (n := 9)).1 ?_
  refine wpIn_rangeFunc_ownG rfl (by decide) (gf := 100) (lb := #[.pointer (some ⟨w1.heap.size + 1, 0, none⟩)]) rfl trivial (enters_of Tryd.func100 (by kernel_rfl) rfl)
    (pairs_stops (9 - 1) (w1.heap.size + 1) l.length (by decide) (by omega) _ (by simp) d2) SameAt.tr (SameAt.put (by simp)) (Below.refl _ _) (fun _ => rfl)
    (fun pre W => (Own kU32 30 w W (.slice oA l.length oc) (midA l pre) ∧ W.heap[w.heap.size]? = some (.cells #[.slice A l.length c] 27 (0, 0))) ∧ (W.heap[w1.heap.size]? = some (.cells #[.slice oA l.length oc] 55 (0, 0)) ∧ Below w.heap.size w W))
    (fun _ _ _ => False)
    (OwnFrom.and (OwnFrom.and own_from blk_from) (OwnFrom.and blk_from (ownFrom_below (Nat.le_refl _) (by simp; omega)))) (fun _ _ _ _ _ hs _ _ => hs)
    ⟨⟨hT.out, hbi.out⟩, hbo.out, hB2.out⟩
    (fun x => { tmps := #[.slice A l.length c, .pointer (some ⟨w.heap.size, 0, none⟩), .slice none 0 0, .pointer (some ⟨w1.heap.size, 0, none⟩), .int .i64 ((x.1 / l.length : Nat) : Int), .int .i64 ((x.1 % l.length : Nat) : Int), .slice A l.length c, .int .i64 l.length, .slice oA l.length oc, .slice A l.length c, .int .i64 l.length, .func (.func 100) #[] #[.pointer (some ⟨w1.heap.size + 1, 0, none⟩)], .int .i64 ((x.1 / l.length : Nat) : Int), .int .i64 ((x.1 % l.length : Nat) : Int), undef, undef, undef, undef, undef, undef, undef, undef, undef, undef, undef, undef, undef, undef, undef, undef, undef, undef, undef, undef, undef, undef, undef, undef, undef, undef, undef, undef], defers := [] }) ?assign ?body ?done ?stop
  case assign =>
    intro _ x W K hK
    simp only [encPair]
    gi_wp2
    exact hK
  case stop =>
    rintro D c pre W _ _ h _
    exact h.elim
  case done =>
    rintro D ys W hD rfl ⟨⟨h1, h2⟩, h3, h4⟩ hK
    have e3 := blk_cell h3 0
    simp only [List.getElem?_toArray, List.getElem?_cons_zero] at e3
    rw [midA_all] at h1
    go_wp2
    refine ⟨by simp, .inl ⟨_, _, rfl, run_takeDeferred hK, ?_⟩⟩
    refine ⟨_, results_tmp rfl _ _ _, ⟨_, rfl, ?_⟩, ?_⟩
    · exact own_from (β := Unit) (f := fun _ => after l) (B := 0) () W _ (some D) h1 (grownBy_putObj' _ D (.deferred none)) (fun r e => by cases e; exact ⟨Nat.zero_le _, _, hK, rfl⟩)
    · exact h4.trans (belowK_b (Nat.le_refl _) W D _ _ (by simp at hD; omega) hK rfl rfl)
  case body =>
    rintro q pre x W ⟨⟨h1, h2⟩, h3, h4⟩ hlen
    clear hlen
    have hn : 0 < l.length := Nat.pos_of_ne_zero fun e => absurd x.2 (by simp [e])
    have hi : x.1 / l.length < l.length := Nat.div_lt_of_lt_mul x.2
    have hk : x.1 % l.length < l.length := Nat.mod_lt _ hn
    have hst := midA_step l pre x hi hk
    obtain ⟨ad, xi, Ai, ci, rfl, hxi, a0, a1, a2, a3, a4, a5⟩ := get_Txn (Kd.C_below hC.out h4) _ hi
    obtain ⟨ad2, xk, Ak, ck, e, hxk, b0, b1, b2, b3, b4, b5⟩ := get_Txn (Kd.C_below hC.out h4) _ hk
    cases e
    have hbf := Aside0.mk (show before l (x.1 / l.length) (x.1 % l.length) = (decide (2 ≤ xi.state) && decide (xi.last < xk.first)) by
      have f1 := hxi.out
      have f2 := hxk.out
      simp only [before, at_, List.getD_eq_getElem?_getD, f1, f2, Option.getD_some])
    obtain ⟨g, cap, eg, hg0, hg1, gc, hgc⟩ := Kd.R_form h1 (by rw [midA_len]; exact hn)
    have eg1 : oA = some ⟨g, 0, none⟩ := by injection eg
    subst eg1
    clear eg
    obtain ⟨m1, m2⟩ := Kd.R_cell (enc := fun n : Nat => .int .u32 n) (h1 := fun _ => rfl) 0 (show (Kd.scalar (fun n : Nat => .int .u32 n) (fun _ => rfl)).R 30 W w.heap.size (fun _ => True) (.slice (some ⟨g, 0, none⟩) (midA l pre).length oc) (midA l pre) by rw [midA_len]; exact h1) ((x.1 / l.length : Nat) : Int) (Int.natCast_nonneg _) (Int.ofNat_lt.2 (by rw [midA_len]; exact hi))
    generalize x.1 / l.length = ia at *
    generalize x.1 % l.length = ka at *
    simp only [Int.toNat_natCast] at m1 m2
    have hrd : rdOf 0 (midA l pre) (ia : Int) = (midA l pre).getD ia 0 := rfl
    rw [hrd] at m1
    clear hrd
    obtain ⟨old, hold⟩ : ∃ o, (midA l pre).getD ia 0 = o := ⟨_, rfl⟩
    rw [hold] at m1 hst
    replace hold := Aside0.mk hold
    have e1 := blk_cell h2 0
    have e2 := blk_cell h3 0
    simp only [List.getElem?_toArray, List.getElem?_cons_zero] at e1 e2
    have hI := Aside0.mk (And.intro (And.intro h1 h2) (And.intro h3 h4))
    cases hsd : decide (2 ≤ xi.state) with
    | false =>
      rw [hsd] at hbf
      have hz := Aside0.mk (hst.trans (if_neg (by rw [hbf.out]; simp)))
      clear h1 h2 h3 h4 hst hbf m1 m2 hgc
      replace hsd := Aside0.mk hsd
      gi_wp2
      refine region_quiet_round (F := Fence.wide) rfl (by kernel_rfl) (by kernel_rfl) (by kernel_rfl) ?_
      repeat (gi_big_quiet_step (fail))
      rw [hsd.out]
      repeat (gi_big_quiet_step (fail))
      refine wpQuietIn_nil ?_
      rintro _ ⟨nq, rfl⟩
      gi_wp2
      exact after_same hz.out hI.out
    | true =>
      rw [hsd] at hbf
      cases hld : decide (xi.last < xk.first) with
      | false =>
        rw [hld] at hbf
        have hz := Aside0.mk (hst.trans (if_neg (by rw [hbf.out]; simp)))
        clear h1 h2 h3 h4 hst hbf m1 m2 hgc
        replace hsd := Aside0.mk hsd
        replace hld := Aside0.mk hld
        gi_wp2
        refine region_quiet_round (F := Fence.wide) rfl (by kernel_rfl) (by kernel_rfl) (by kernel_rfl) ?_
        repeat (gi_big_quiet_step (fail))
        rw [hsd.out]
        repeat (gi_big_quiet_step (fail))
        rw [hld.out]
        repeat (gi_big_quiet_step (fail))
        refine wpQuietIn_nil ?_
        rintro _ ⟨nq, rfl⟩
        gi_wp2
        exact after_same hz.out hI.out
      | true =>
        rw [hld] at hbf
        have hz := Aside0.mk (hst.trans (if_pos (by rw [hbf.out]; rfl)))
        clear h1 h2 h3 h4 hst hbf
        replace hsd := Aside0.mk hsd
        replace hld := Aside0.mk hld
        gi_wp2
        refine region_quiet_round (F := Fence.wide) rfl (by kernel_rfl) (by kernel_rfl) (by kernel_rfl) ?_
        repeat (gi_big_quiet_step (fail))
        rw [hsd.out]
        repeat (gi_big_quiet_step (fail))
        rw [hld.out]
        repeat (gi_big_quiet_step (fail))
        refine wpQuietIn_nil ?_
        rintro _ ⟨nq, rfl⟩
        gi_wp2
        refine region_tail_round 7 (fun _ _ h => h) (by kernel_rfl) (by kernel_rfl) (by kernel_rfl) ?_
        simp only [List.take_succ_cons, List.take_zero, List.drop_succ_cons, List.drop_zero]
        repeat still_step
        try refine wpStill_nil ?_
        have hol := hold.out
        have hlt2 : old < 2 ^ 32 := by rw [← hol]; exact midA_lt l pre ia hl
        rw [u32_shl1 (Nat.lt_of_lt_of_le hk hl), u32_or hlt2 (u32_pow (Nat.lt_of_lt_of_le hk hl))]
        clear hol
        replace hlt2 := Aside0.mk hlt2
        go_wp2
        have hgl : g < w1.heap.size := Kd.R_lt hO.out g rfl
        have hgw : w.heap.size < g := by obtain ⟨b, hb, hb2⟩ := hat.out; cases hb; simp at hb2; omega
        exact after_put (ia := ia) (by omega) (by omega) (by omega) (by omega) hz.out hI.out
end Go.Proofs.YtnogalajfccioaaDoor
