/- slices.DeleteFunc of events. -/
import Derived.Test.YtnogalajfccioaaDoorDelete
import Derived.Laws.IdiomCopy
namespace Go.Proofs.YtnogalajfccioaaDoor
open Go.RowKit Go.Proofs.YtnogalajfccioaaDoorW.PrintWords
/-- A block that holds events, and maybe more behind them. -/
def EvRow (W : World) (g c : Nat) (ys : List Ev) : Prop :=
  ∃ cur : Array Value, W.heap[g]? = some (.cells cur 49 (0, 0)) ∧ cur.size = c * 4 ∧ ys.length ≤ c ∧ ∀ j x, ys[j]? = some x → cur[j * 4]? = some (.int .i64 x.kind) ∧ cur[j * 4 + 1]? = some (.int .i64 x.tx) ∧ cur[j * 4 + 2]? = some (.int .i64 x.var) ∧ cur[j * 4 + 3]? = some (.int .i64 x.val)
theorem EvRow.lt {W : World} {g c : Nat} {ys : List Ev} (h : EvRow W g c ys) : g < W.heap.size := by obtain ⟨_, h, _⟩ := h; exact blk_lt h
theorem EvRow.below {W W1 : World} {g c : Nat} {ys : List Ev} (h : EvRow W g c ys) (hb : Below W.heap.size W W1) : EvRow W1 g c ys := by
  obtain ⟨cur, h1, r⟩ := h
  exact ⟨cur, blk_below h1 hb, r⟩
theorem EvRow.frozen {W : World} {g c : Nat} {ys : List Ev} (h : EvRow W g c ys) (j : Nat) : W.frozen? ⟨g, j, none⟩ = false := by obtain ⟨_, h, _⟩ := h; exact blk_frozen h j
theorem EvRow.cells {W : World} {g c : Nat} {ys : List Ev} (h : EvRow W g c ys) {j : Nat} {x : Ev} (hx : ys[j]? = some x) :
    W.cell? ⟨g, j * 4, none⟩ = some (.int .i64 x.kind) ∧ W.cell? ⟨g, j * 4 + 1, none⟩ = some (.int .i64 x.tx) ∧ W.cell? ⟨g, j * 4 + 2, none⟩ = some (.int .i64 x.var) ∧ W.cell? ⟨g, j * 4 + 3, none⟩ = some (.int .i64 x.val) := by
  obtain ⟨cur, h1, h2, h3, h4⟩ := h
  obtain ⟨a, b, c, d⟩ := h4 j x hx
  exact ⟨(blk_cell h1 _).trans a, (blk_cell h1 _).trans b, (blk_cell h1 _).trans c, (blk_cell h1 _).trans d⟩
theorem drop_take4 {cs : List Value} {k : Nat} {a b c d : Value} (h : (cs.drop k).take 4 = [a, b, c, d]) : cs[k]? = some a ∧ cs[k + 1]? = some b ∧ cs[k + 2]? = some c ∧ cs[k + 3]? = some d := by
  have key : ∀ i, i < 4 → cs[k + i]? = [a, b, c, d][i]? := fun i hi => by
    rw [← h, List.getElem?_take, if_pos hi, List.getElem?_drop]
  exact ⟨key 0 (by omega), key 1 (by omega), key 2 (by omega), key 3 (by omega)⟩
theorem EvRow.of_own {e0 W : World} {g n c : Nat} {ys : List Ev} (h : Own kEv 49 e0 W (.slice (some ⟨g, 0, none⟩) n c) ys) : EvRow W g c ys ∧ ys.length = n ∧ e0.heap.size ≤ g := by
  obtain ⟨_, inner, ⟨hlen, ho⟩, hr⟩ := h
  rcases ho with ⟨h1, _⟩ | ⟨g', cap, cur, hv, hb, hh, h1, h2, h3, h4⟩
  · cases h1
  · cases hv
    refine ⟨⟨cur, hh, h3, h1, fun j x hx => ?_⟩, rfl, hb⟩
    have hK := kEv.K_of_M (hr.2 j x hx)
    have hj : j < ys.length := (List.getElem?_eq_some_iff.1 hx).1
    obtain ⟨a, b, c', d⟩ := drop_take4 (kEv_open hK)
    have key : ∀ i v, inner[i]? = some v → cur[i]? = some v := fun i v hv => by
      rw [← h4, List.getElem?_take] at hv
      split at hv
      · rw [← Array.getElem?_toList]; exact hv
      · cases hv
    exact ⟨key _ _ a, key _ _ b, key _ _ c', key _ _ d⟩
theorem EvRow.own {e0 W : World} {g c m : Nat} {ys : List Ev} (h : EvRow W g c ys) (hb : e0.heap.size ≤ g) (hm : m ≤ ys.length) (hc : c ≤ 9223372036854775807) : Own kEv 49 e0 W (.slice (some ⟨g, 0, none⟩) m c) (ys.take m) := by
  obtain ⟨cur, h1, h2, h3, h4⟩ := h
  have hl : (ys.take m).length = m := by simp; omega
  refine ⟨fun _ _ => trivial, cur.toList.take (m * 4), ?_, ?_, ?_⟩
  · rw [hl]
    exact ⟨by show (cur.toList.take (m * 4)).length = m * 4; simp [h2]; omega, .inr ⟨g, c, cur, rfl, hb, h1, by omega, by simpa [maxLen] using hc, h2, rfl⟩⟩
  · rw [hl]
    show (cur.toList.take (m * 4)).length = m * 4
    simp [h2]
    omega
  · intro j x hx
    have hjm : j < m := by have := (List.getElem?_eq_some_iff.1 hx).1; omega
    rw [List.getElem?_take, if_pos hjm] at hx
    obtain ⟨a, b, c', d⟩ := h4 j x hx
    have e1 : ((cur.toList.take (m * 4)).drop (j * 4)).take 4 = [.int .i64 x.kind, .int .i64 x.tx, .int .i64 x.var, .int .i64 x.val] := by
      apply List.ext_getElem?
      intro i
      rw [List.getElem?_take]
      by_cases hi : i < 4
      · rw [if_pos hi, List.getElem?_drop, List.getElem?_take, if_pos (by omega), Array.getElem?_toList]
        match i, hi with
        | 0, _ => exact a
        | 1, _ => exact b
        | 2, _ => exact c'
        | 3, _ => exact d
      · rw [if_neg hi, List.getElem?_eq_none (by simp; omega)]
    rw [show kEv.sz = 4 from rfl, e1]
    exact kEv_mkM _ _ _ x
def setEv (W : World) (g i : Nat) (x : Ev) : World := (((W.setCell ⟨g, i * 4, none⟩ (.int .i64 x.kind)).setCell ⟨g, i * 4 + 1, none⟩ (.int .i64 x.tx)).setCell ⟨g, i * 4 + 2, none⟩ (.int .i64 x.var)).setCell ⟨g, i * 4 + 3, none⟩ (.int .i64 x.val)
theorem setEv_only (W : World) (g i : Nat) (x : Ev) : Only (Is g) W (setEv W g i x) := only_set (only_set (only_set (only_set (Only.refl _ _) _ _) _ _) _ _) _ _
theorem EvRow.set {W : World} {g c i : Nat} {ys : List Ev} (h : EvRow W g c ys) (hi : i < ys.length) (x : Ev) : EvRow (setEv W g i x) g c (ys.set i x) := by
  obtain ⟨cur, h1, h2, h3, h4⟩ := h
  refine ⟨(((cur.setIfInBounds (i * 4) (.int .i64 x.kind)).setIfInBounds (i * 4 + 1) (.int .i64 x.tx)).setIfInBounds (i * 4 + 2) (.int .i64 x.var)).setIfInBounds (i * 4 + 3) (.int .i64 x.val), blk_set (blk_set (blk_set (blk_set h1 _ _) _ _) _ _) _ _, by simp [h2], by simpa using h3, fun j y hy => ?_⟩
  rw [List.getElem?_set] at hy
  split at hy
  · rename_i e
    subst e
    cases hy
    simp only [Array.getElem?_setIfInBounds, Array.size_setIfInBounds]
    refine ⟨?_, ?_, ?_, ?_⟩
    · rw [if_neg (by omega), if_neg (by omega), if_neg (by omega), if_pos trivial, if_pos (by omega)]
    · rw [if_neg (by omega), if_neg (by omega), if_pos trivial, if_pos (by omega)]
    · rw [if_neg (by omega), if_pos trivial, if_pos (by omega)]
    · rw [if_pos trivial, if_pos (by omega)]
  · rename_i e
    simp only [Array.getElem?_setIfInBounds, Array.size_setIfInBounds]
    obtain ⟨a, b, c', d⟩ := h4 j y hy
    refine ⟨?_, ?_, ?_, ?_⟩
    all_goals rw [if_neg (by omega), if_neg (by omega), if_neg (by omega), if_neg (by omega)]
    · exact a
    · exact b
    · exact c'
    · exact d
/-- clear(s[i:]). -/
theorem EvRow.clear {W : World} {g c i n k : Nat} {ys : List Ev} (h : EvRow W g c ys) (hn : i + n ≤ c) (hi : i ≤ ys.length) (hn0 : 0 < n) (ty : TypeId) :
    ∃ W', (Builtin.clear_ #[22] ty #[.slice (some ⟨g, i * 4, none⟩) n k]).run Tryd.prog W = .ok (.tuple #[]) W' ∧ EvRow W' g c (ys.take i) ∧ Only (Is g) W W' := by
  obtain ⟨cur, h1, h2, h3, h4⟩ := h
  obtain ⟨m, rfl⟩ : ∃ m, n = m + 1 := ⟨n - 1, by omega⟩
  obtain ⟨vs, hvs⟩ : ∃ vs, vs = (Builtin.zeroCells (Value.agg #[.int .i64 0, .int .i64 0, .int .i64 0, .int .i64 0]).cells (m + 1)).toList := ⟨_, rfl⟩
  have hvl : vs.length = (m + 1) * 4 := by rw [hvs]; simp [Builtin.zeroCells, Value.cells]
  have hv1 : ∀ v ∈ vs, v.oneCell' = true := by
    intro v hv
    rw [hvs] at hv
    simp only [Builtin.zeroCells, Value.cells, Array.toList_map, List.mem_map] at hv
    obtain ⟨j, _, rfl⟩ := hv
    have h4 : j % 4 = 0 ∨ j % 4 = 1 ∨ j % 4 = 2 ∨ j % 4 = 3 := by omega
    have h5 : (#[Value.int .i64 0, .int .i64 0, .int .i64 0, .int .i64 0] : Array Value).size = 4 := rfl
    rw [h5]
    rcases h4 with h4 | h4 | h4 | h4 <;> rw [h4] <;> rfl
  have hst := run_storeCells_cells (P := Tryd.prog) g (i * 4) vs 0 W (fun j hj => by rw [Nat.add_zero, blk_cell h1]; simp; omega) (fun j hj => blk_frozen h1 _) hv1
  rw [Nat.add_zero] at hst
  refine ⟨W.setCells g (i * 4) vs, ?_, ?_, ?_⟩
  · have hz : ∀ w, (zeroValue 49).run Tryd.prog w = .ok (.agg #[.int .i64 0, .int .i64 0, .int .i64 0, .int .i64 0]) w := by intro w; kernel_rfl
    rw [hvs] at hst ⊢
    simp only [Builtin.clear_]
    simp [run_underlying Tryd.underlying22, hz, hst]
  · obtain ⟨cur', k1, k2, k3⟩ := setCells_row vs (i * 4) W cur h1 (by omega)
    refine ⟨cur', k1, by omega, by simp; omega, fun j x hx => ?_⟩
    rw [List.getElem?_take] at hx
    split at hx
    · rename_i hji
      obtain ⟨a, b, c', d⟩ := h4 j x hx
      have key : ∀ q, q < i * 4 → cur'[q]? = cur[q]? := fun q hq => by
        rw [← Array.getElem?_toList, k3, List.append_assoc, List.getElem?_append_left (by simp; omega), List.getElem?_take, if_pos hq, Array.getElem?_toList]
      exact ⟨(key _ (by omega)).trans a, (key _ (by omega)).trans b, (key _ (by omega)).trans c', (key _ (by omega)).trans d⟩
    · cases hx
  · obtain ⟨e1, e2, e3, e4⟩ := setCells_same g vs (i * 4) W
    exact ⟨e1, e2, e3, by rw [e4]; exact Nat.le_refl _, fun q _ hq => setCells_far vs (i * 4) q (fun e => hq e)⟩
/-! ### DeleteFunc -/
theorem filter_take_step {p : Ev → Bool} {xs : List Ev} {j : Nat} {x : Ev} (hx : xs[j]? = some x) : (xs.take (j + 1)).filter p = if p x then (xs.take j).filter p ++ [x] else (xs.take j).filter p := by
  obtain ⟨hl, he⟩ := List.getElem?_eq_some_iff.1 hx
  rw [List.take_succ_eq_append_getElem hl, List.filter_append, he]
  cases hp : p x <;> simp [hp]
theorem no_del {q : Ev → Bool} {xs : List Ev} (h : xs.any q = false) : xs.filter (fun x => !q x) = xs := by
  rw [List.filter_eq_self]
  intro x hx
  have := List.any_eq_false.1 h x hx
  simpa using this
theorem idx_of_any {q : Ev → Bool} {xs : List Ev} (h : xs.any q = true) : ∃ i x, xs[i]? = some x ∧ q x = true ∧ idx q xs = (i : Nat) ∧ ∀ j y, j < i → xs[j]? = some y → q y = false := by
  have h1 := idx_any q xs
  rw [h] at h1
  unfold idx at h1 ⊢
  cases hf : xs.findIdx? q with
  | none => rw [hf] at h1; simp at h1
  | some i =>
    obtain ⟨hl, hp, hq⟩ := List.findIdx?_eq_some_iff_getElem.1 hf
    refine ⟨i, xs[i], List.getElem?_eq_getElem hl, hp, rfl, fun j y hj hy => ?_⟩
    obtain ⟨hjl, rfl⟩ := List.getElem?_eq_some_iff.1 hy
    simpa using hq j hj
theorem filter_all {p : Ev → Bool} {xs : List Ev} {i : Nat} (h : ∀ j y, j < i → xs[j]? = some y → p y = true) : (xs.take i).filter p = xs.take i := by
  rw [List.filter_eq_self]
  intro x hx
  obtain ⟨j, hj⟩ := List.mem_iff_getElem?.1 hx
  rw [List.getElem?_take] at hj
  split at hj
  · rename_i hji; exact h j x hji hj
  · cases hj
set_option maxRecDepth 100000 in
set_option maxHeartbeats 1000000 in
theorem deleteFunc_c (k : FuncId) (caps : Array Value) (q : Ev → Bool) (xs : List Ev) (v : Value) (e0 w : World) (hv : Own kEv 49 e0 w v xs) (h0 : e0.heap.size ≤ w.heap.size) (hl : xs.length ≤ 1000) (hk : ∀ args W, (callFunc k args).run Tryd.prog W = .ok (.enter k args) W)
    (hf0 : ∀ x ∈ xs, ∀ W, Below e0.heap.size w W → Calls Tryd.prog k (#[.agg #[.int .i64 x.kind, .int .i64 x.tx, .int .i64 x.var, .int .i64 x.val]] ++ caps) W fun e W' => e = .returned (.bool (q x)) ∧ Below W.heap.size W W') :
    Calls Tryd.prog 21 #[v, .func (.func k) #[] caps] w fun e w' => (∃ u, e = .returned u ∧ Own kEv 49 e0 w' u (xs.filter fun x => !q x)) ∧ Below e0.heap.size w w' := by
  have hidx := Aside0.mk (indexFunc_Ev k caps q xs v w hv.inn hk (fun x hx W hb => hf0 x hx W ⟨hb.os, hb.tape, hb.output, hb.size, fun j hj => hb.block j (by omega)⟩))
  have hf := Aside0.mk hf0
  clear hf0
  cases hany : xs.any q with
  | false =>
    have hi : idx q xs = -1 := idx_none (fun i x _ hx => by have := List.any_eq_false.1 hany x (List.mem_of_getElem? hx); simpa using this)
    rw [hi] at hidx
    rw [no_del hany]
    replace hv := Aside0.mk hv
    replace hi := Aside0.mk hi
    go_enter Tryd.func21, Tryd.ntmps21
    go_wp2_with (go_at_call 52; refine hidx.out.mono ?_; clear hidx; rintro e w1 ⟨rfl, hb⟩)
    go_ret
    exact ⟨⟨_, rfl, hv.out.below hb⟩, hb.os, hb.tape, hb.output, hb.size, fun j hj => hb.block j (by omega)⟩
  | true =>
    obtain ⟨i0, y, hi1, hi2, hi3, hi4⟩ := idx_of_any hany
    have hi0 : i0 < xs.length := (List.getElem?_eq_some_iff.1 hi1).1
    rw [hi3] at hidx
    obtain ⟨g, c, rfl, hg1, hg2, _⟩ := Kd.R_form hv (by omega)
    obtain ⟨hrow, _, _⟩ := EvRow.of_own hv
    have hcmax : c ≤ 9223372036854775807 ∧ xs.length ≤ c := by
      obtain ⟨inner, ho⟩ := Kd.R_own hv
      rcases ho.2 with ⟨h1, _⟩ | ⟨g', cap, cur, hv', _, _, h5, h6, _⟩
      · cases h1
      · cases hv'; exact ⟨by simpa [maxLen] using h6, h5⟩
    have hstart := Aside0.mk (show xs.take i0 = (xs.take (i0 + 1)).filter (fun x => !q x) by
      rw [filter_take_step hi1, hi2, filter_all (fun j y hj hy => by rw [hi4 j y hj hy]; rfl)]
      simp)
    have hm1 : (((i0 : Nat) : Int) == -1) = false := by
      rw [beq_eq_false_iff_ne]
      omega
    replace hi1 := Aside0.mk hi1
    replace hi2 := Aside0.mk hi2
    replace hi3 := Aside0.mk hi3
    replace hi4 := Aside0.mk hi4
    replace hrow := Aside0.mk hrow
    replace hv := Aside0.mk hv
    replace hany := Aside0.mk hany
    go_enter Tryd.func21, Tryd.ntmps21
    go_wp2_with (go_at_call 52; refine hidx.out.mono ?_; clear hidx; rintro e w1 ⟨rfl, hb⟩)
    have hb0 : Below e0.heap.size w w1 := ⟨hb.os, hb.tape, hb.output, hb.size, fun j hj => hb.block j (by omega)⟩
    have hrow1 := Aside0.mk (hrow.out.below hb)
    go_loopw [5, 6, 7] (fun i j _ wr => ∃ (a b : Nat) (ys : List Ev), a < b ∧ b ≤ xs.length ∧ i = .int .i64 a ∧ j = .int .i64 b ∧ Below e0.heap.size w wr ∧ Aside0 (EvRow wr g c ys) ∧ Aside0 (ys.length = xs.length) ∧ Aside0 (ys.take a = (xs.take b).filter (fun x => !q x)) ∧ Aside0 (∀ m, b ≤ m → ys[m]? = xs[m]?)) (fun _ j _ _ => xs.length - (intOf j).toNat)
    case atStart => exact ⟨i0, i0 + 1, xs, by omega, by omega, rfl, rfl, hb0, hrow1, ⟨rfl⟩, hstart, ⟨fun _ _ => rfl⟩⟩
    case round =>
      obtain ⟨a, b, ys, hab, hbl, rfl, rfl, hbw, hrw, hyl, hta, hdr⟩ := hrel
      by_cases hlt : b < xs.length
      · obtain ⟨x, hx⟩ : ∃ x, xs[b]? = some x := ⟨_, List.getElem?_eq_getElem hlt⟩
        have hyx : ys[b]? = some x := (hdr.out b (Nat.le_refl _)).trans hx
        obtain ⟨c0, c1, c2, c3⟩ := hrw.out.cells hyx
        have hst := Aside0.mk (filter_take_step (p := fun x => !q x) hx)
        have hcall := Aside0.mk (hf.out x (List.mem_of_getElem? hx))
        replace hx := Aside0.mk hx
        replace hyx := Aside0.mk hyx
        go_wp2_with fail
        have hws : e0.heap.size ≤ wr.heap.size := by have := hbw.size; omega
        have hrw2 := hrw.out.below (below_alloc (Below.refl _ _) (.cells #[.int .i64 x.kind, .int .i64 x.tx, .int .i64 x.var, .int .i64 x.val] 49))
        refine (hcall.out _ (hbw.alloc hws _)).mono ?_
        clear hcall
        rintro e w3 ⟨rfl, hb3⟩
        have hrw3 := Aside0.mk (hrw2.below hb3)
        have hb03 : Below e0.heap.size w w3 := (hbw.alloc hws _).trans ⟨hb3.os, hb3.tape, hb3.output, hb3.size, fun j hj => hb3.block j (by simp; omega)⟩
        have hnb := blk_below (blk_new wr (.cells #[.int .i64 x.kind, .int .i64 x.tx, .int .i64 x.var, .int .i64 x.val] 49)) hb3
        have d0 := blk_cell hnb 0
        have d1 := blk_cell hnb 1
        have d2 := blk_cell hnb 2
        have d3 := blk_cell hnb 3
        simp only [List.getElem?_toArray, List.getElem?_cons_zero, List.getElem?_cons_succ] at d0 d1 d2 d3
        replace hnb := Aside0.mk hnb
        clear c0 c1 c2 c3 hrw2
        cases hq : q x with
        | true =>
          rw [hq] at hst
          go_wp2
          go_roundw
          case rel => exact ⟨a, b + 1, ys, by omega, by omega, rfl, by go_num, hb03, hrw3, hyl, ⟨hta.out.trans (by rw [hst.out]; simp)⟩, ⟨fun m hm => hdr.out m (by omega)⟩⟩
          case measure => simp [intOf]; omega
        | false =>
          rw [hq] at hst
          have hal : a < ys.length := by have := hyl.out; omega
          obtain ⟨z, hz⟩ : ∃ z, ys[a]? = some z := ⟨_, List.getElem?_eq_getElem hal⟩
          obtain ⟨c0, c1, c2, c3⟩ := hrw3.out.cells hz
          have f0 := fun j => hrw3.out.frozen j
          have hset := Aside0.mk (hrw3.out.set hal x)
          have hon := Aside0.mk (setEv_only w3 g a x)
          replace hz := Aside0.mk hz
          unfold setEv at hset hon
          go_wp2
          go_roundw
          case rel =>
            refine ⟨a + 1, b + 1, ys.set a x, by omega, by omega, by go_num, by go_num, below_is hb03 hon.out hg1 (by have := hb03.size; omega), hset, ⟨by rw [List.length_set]; exact hyl.out⟩, ⟨?_⟩, ⟨fun m hm => ?_⟩⟩
            · have hyl2 := hyl.out
              have h1 := hst.out
              simp only [Bool.not_false, if_true] at h1
              rw [h1, ← hta.out, List.take_succ_eq_append_getElem (by simpa using hal), List.getElem_set_self]
              congr 1
              apply List.ext_getElem?
              intro r
              rw [List.getElem?_take, List.getElem?_take]
              split
              · rw [List.getElem?_set_ne (by omega)]
              · rfl
            · rw [List.getElem?_set_ne (by omega)]
              exact hdr.out m (by omega)
          case measure => simp [intOf]; omega
      · obtain rfl : b = xs.length := by omega
        rw [List.take_length] at hta
        obtain ⟨Wc, hrun, hrc, hon⟩ := hrw.out.clear (i := a) (n := xs.length - a) (k := c - a) (by omega) (by have := hyl.out; omega) (by omega) 0
        have hres := Aside0.mk ((hrc.own (e0 := e0) hg1 (m := a) (by have := hyl.out; simp; omega) hcmax.1))
        rw [List.take_take, Nat.min_self, hta.out] at hres
        replace hon := Aside0.mk hon
        replace hrc := Aside0.mk hrc
        have hbf := Aside0.mk (below_is hbw hon.out hg1 (by have := hbw.size; omega))
        go_wp2
        go_ret
        exact ⟨⟨_, rfl, hres.out⟩, hbf.out⟩
end Go.Proofs.YtnogalajfccioaaDoor
