/- Layer 10 (legal): Legal. -/
import Derived.Test.YtnogalajfccioaaDoorLegal2
namespace Go.Proofs.YtnogalajfccioaaDoor
open Go.RowKit Go.Proofs.YtnogalajfccioaaDoorW.PrintWords
theorem right_var {e : Ev} (h : rightB e = true) : 0 ≤ e.var ∧ e.var ≤ 7 := by
  simp [rightB, inB] at h
  omega
theorem vars_keepF (h : List Ev) (hr : ∀ e ∈ h, rightB e = true) : ∀ (l : List Keep) (i : Int), (∀ k ∈ l, VarsIn k.t.ops ∧ 0 ≤ k.a.var ∧ k.a.var ≤ 7) → ∀ k ∈ keepF l i h, VarsIn k.t.ops := by
  induction h with
  | nil => intro l i hl k hk; exact (hl k hk).1
  | cons e h ih =>
    intro l i hl
    simp only [keepF]
    have hev := right_var (hr e (List.mem_cons_self ..))
    have tk : ∀ k : Keep, (VarsIn k.t.ops ∧ 0 ≤ k.a.var ∧ k.a.var ≤ 7) → (VarsIn (k.take i e).t.ops ∧ 0 ≤ (k.take i e).a.var ∧ (k.take i e).a.var ≤ 7) := by
      intro k ⟨h1, h2⟩
      refine ⟨?_, ?_⟩
      · intro o ho
        simp only [Keep.take] at ho
        split at ho
        · rcases List.mem_append.1 ho with ho | ho
          · exact h1 o ho
          · simp at ho; subst ho; exact h2
        · split at ho
          · rcases List.mem_append.1 ho with ho | ho
            · exact h1 o ho
            · simp at ho; subst ho; exact h2
          · exact h1 o ho
      · simp only [Keep.take]
        split
        · exact hev
        · exact h2
    refine ih (fun e' he => hr e' (List.mem_cons_of_mem _ he)) (keepStep l i e) (i + 1) ?_
    intro k hk
    unfold keepStep at hk
    split at hk
    · obtain ⟨n, hn⟩ := List.mem_iff_getElem?.1 hk
      rw [List.getElem?_modify] at hn
      cases hln : l[n]? with
      | none => rw [hln] at hn; simp at hn
      | some y =>
        rw [hln] at hn
        have hy := hl y (List.mem_of_getElem? hln)
        simp only [Option.map_eq_map, Option.map_some, Option.some.injEq] at hn
        subst hn
        split
        · exact tk y hy
        · exact hy
    · rcases List.mem_append.1 hk with hk | hk
      · exact hl k hk
      · have : k = (Keep.new i e).take i e := by simpa using hk
        subst this
        exact tk _ ⟨fun o ho => by simp [Keep.new] at ho, by simp [Keep.new, zEv]⟩
theorem vars_table (h : List Ev) : ∀ t ∈ tableOf h, VarsIn t.ops := by
  intro t ht
  unfold tableOf at ht
  split at ht
  · rename_i hw
    have hr : RightB h = true := by
      unfold why at hw
      split at hw
      · assumption
      · cases hw
    obtain ⟨k, hk, rfl⟩ := List.mem_map.1 ht
    refine vars_keepF h ?_ [] 0 (fun k hk => by simp at hk) k hk
    simp [RightB] at hr
    exact hr.1.2
  · simp at ht
theorem with_len {m : Mem} (h : m.length = 8) (ops : List Op) : (with_ m ops).length = 8 := by
  unfold with_
  induction ops generalizing m with
  | nil => exact h
  | cons o l ih => exact ih (Mem.put_len h o)
def natRow (row : List Int) : List Nat := row.map Int.toNat
def legalN (h : List Ev) (row : List Int) (c : Nat) : Nat := if mayWhy h row = 0 then legal (tableOf h) (natRow row) c else 0
theorem natRow_drop {row : List Int} {j : Nat} {x : Int} (hx : row[j]? = some x) : (natRow row).drop j = x.toNat :: (natRow row).drop (j + 1) := by
  obtain ⟨hl, he⟩ := List.getElem?_eq_some_iff.1 hx
  unfold natRow
  rw [List.drop_eq_getElem_cons (by simpa using hl)]
  simp [he]
theorem below_set8 {B g : Nat} {w0 w : World} (h : Below B w0 w) (hg : B ≤ g) (v0 v1 v2 v3 v4 v5 v6 v7 : Value) :
    Below B w0 ((((((((w.setCell ⟨g, 0, none⟩ v0).setCell ⟨g, 1, none⟩ v1).setCell ⟨g, 2, none⟩ v2).setCell ⟨g, 3, none⟩ v3).setCell ⟨g, 4, none⟩ v4).setCell ⟨g, 5, none⟩ v5).setCell ⟨g, 6, none⟩ v6).setCell ⟨g, 7, none⟩ v7) :=
  (((((((h.setCell (p := ⟨g, 0, none⟩) hg v0).setCell (p := ⟨g, 1, none⟩) hg v1).setCell (p := ⟨g, 2, none⟩) hg v2).setCell (p := ⟨g, 3, none⟩) hg v3).setCell (p := ⟨g, 4, none⟩) hg v4).setCell (p := ⟨g, 5, none⟩) hg v5).setCell (p := ⟨g, 6, none⟩) hg v6).setCell (p := ⟨g, 7, none⟩) hg v7
theorem blk_set8 {w : World} {g : Nat} {t : TypeId} {b0 b1 b2 b3 b4 b5 b6 b7 : Int} (h : w.heap[g]? = some (.cells (memCells [b0, b1, b2, b3, b4, b5, b6, b7]) t (0, 0))) (m0 m1 m2 m3 m4 m5 m6 m7 : Int) :
    ((((((((w.setCell ⟨g, 0, none⟩ (.int .i64 m0)).setCell ⟨g, 1, none⟩ (.int .i64 m1)).setCell ⟨g, 2, none⟩ (.int .i64 m2)).setCell ⟨g, 3, none⟩ (.int .i64 m3)).setCell ⟨g, 4, none⟩ (.int .i64 m4)).setCell ⟨g, 5, none⟩ (.int .i64 m5)).setCell ⟨g, 6, none⟩ (.int .i64 m6)).setCell ⟨g, 7, none⟩ (.int .i64 m7)).heap[g]? = some (.cells (memCells [m0, m1, m2, m3, m4, m5, m6, m7]) t (0, 0)) := by
  have := (blk_mem_set (u := m7) (blk_mem_set (u := m6) (blk_mem_set (u := m5) (blk_mem_set (u := m4) (blk_mem_set (u := m3) (blk_mem_set (u := m2) (blk_mem_set (u := m1) (blk_mem_set (u := m0) h 0) 1) 2) 3) 4) 5) 6) 7)
  simp only [List.set_cons_zero, List.set_cons_succ] at this
  exact this
theorem Legal_step {l : List Txn} {c : Nat} {m : Mem} {row : List Int} {j xn : Nat} {x : Txn} (hj : row[j]? = some (xn : Int)) (hx : l[xn]? = some x) :
    legalF l c m ((natRow row).drop j) = if own x.ops m < x.ops.length then 0 else legalF l c (if c.testBit xn then with_ m x.ops else m) ((natRow row).drop (j + 1)) + 1 := by
  rw [natRow_drop hj]
  have : at_ l (xn : Int).toNat = x := by simp [at_, List.getD_eq_getElem?_getD, hx]
  rw [Int.toNat_natCast] at this ⊢
  simp only [legalF, this]
set_option maxRecDepth 100000 in
set_option maxHeartbeats 4000000 in
theorem Legal_c (h : List Ev) (row : List Int) (c : Nat) (v r : Value) (w : World) (hv : In kEv w v h) (hr : In (Kd.int .i64) w r row) (hc : c < 2 ^ 32) (hk : Kinds w) :
    Calls Tryd.prog 12 #[v, r, .int .u32 c] w fun e w' => e = .returned (.tuple #[.int .i64 (legalN h row c : Nat), .int .i64 (mayWhy h row)]) ∧ Below w.heap.size w w' := by
  have ht := Aside0.mk (mayL_c h row v r w hv hr hk)
  obtain ⟨rA, rc, rfl, hrc, hR0⟩ := hr
  have hmax : row.length ≤ 9223372036854775807 := hR0.2.1
  have hR := Aside0.mk hR0
  clear hR0
  replace hv := Aside0.mk hv
  replace hk := Aside0.mk hk
  replace hc := Aside0.mk hc
  go_enter Tryd.func12, Tryd.ntmps12
  cases hw : (mayWhy h row == 0) with
  | false =>
    have hw1 : mayWhy h row ≠ 0 := by simpa using hw
    have hx := Aside0.mk (show legalN h row c = 0 by simp [legalN, hw1])
    replace hw1 : (mayWhy h row != 0) = true := by simpa using hw1
    go_wp2_with (go_at_call 40; refine ht.out.mono ?_; rintro e w1 ⟨⟨u, rfl, hO⟩, hb⟩; obtain ⟨uA, uc, rfl⟩ := Kd.R_slice hO)
    go_ret2
    exact ⟨by rw [hx.out]; rfl, hb⟩
  | true =>
    have hw0 : mayWhy h row = 0 := by simpa using hw
    have hx := Aside0.mk (show legalN h row c = legalF (tableOf h) c Mem0 (natRow row) by simp [legalN, hw0, legal])
    have hT0 : mayT h row = tableOf h := by simp [mayT, hw0]
    rw [hw0, hT0] at ht
    rw [hw0]
    clear hw hT0
    have hrow := Aside0.mk (show row.any (odd (tableOf h).length) = false by
      cases hany : row.any (odd (tableOf h).length) with
      | false => rfl
      | true =>
        simp only [mayWhy, hany] at hw0
        split at hw0
        · contradiction
        · simp at hw0)
    replace hw0 := Aside0.mk hw0
    have hlen := Aside0.mk (tableOf_len h)
    have hvars := Aside0.mk (vars_table h)
    generalize tableOf h = l at *
    go_wp2_with (go_at_call 40; refine ht.out.mono ?_; clear ht; rintro e w1 ⟨⟨u, rfl, hO⟩, hb⟩; obtain ⟨uA, uc, rfl⟩ := Kd.R_slice hO)
    have hC := Aside0.mk (Kd.C_alloc (Kd.R_reads' hO).2.2 (.cells (memCells Mem0) 84))
    have hB0 := Aside0.mk (blk_new w1 (.cells (memCells Mem0) 84))
    have hb1 := Aside0.mk (below_alloc hb (.cells (memCells Mem0) 84))
    replace hO := Aside0.mk hO
    have hwb := hb.size
    replace hb := Aside0.mk hb
    go_loopw [11, 12, 13, 25] (fun _ _ _ i wr => ∃ j : Nat, j ≤ row.length ∧ i = .int .i64 j ∧ Below w.heap.size w wr ∧ Below w1.heap.size w1 wr ∧ ∃ mem : Mem, Aside0 (mem.length = 8) ∧ Aside0 (legalF l c Mem0 (natRow row) = j + legalF l c mem ((natRow row).drop j)) ∧ Aside0 (wr.heap[w1.heap.size]? = some (.cells (memCells mem) 84 (0, 0)))) (fun _ _ _ i _ => row.length - (intOf i).toNat)
    case atStart => exact ⟨0, Nat.zero_le _, rfl, hb1.out, below_alloc (Below.refl _ _) _, Mem0, ⟨rfl⟩, ⟨by simp⟩, hB0⟩
    case round =>
      obtain ⟨j, hj, rfl, hbw, hbw1, mem, hml, hrun, hblk⟩ := hrel
      by_cases hlt : j < row.length
      · obtain ⟨ad, x, rfl, hxj, e0⟩ := get_int (Kd.C_below hR.out hbw) j hlt
        have hxo : odd l.length x = false := by
          have := List.any_eq_false.1 hrow.out x (List.mem_of_getElem? hxj.out)
          simpa using this
        obtain ⟨xn, rfl⟩ : ∃ xn : Nat, x = xn := ⟨x.toNat, by simp [odd] at hxo; omega⟩
        have hxl : xn < l.length := by simp [odd] at hxo; omega
        clear hxo
        obtain ⟨ad2, t, Ai, ci, rfl, hxt, a0, a1, a2, a3, a4, a5⟩ := get_Txn (Kd.C_below (Kd.R_reads' hO.out).2.2 hbw1) xn hxl
        have hstep := Aside0.mk (Legal_step (c := c) (m := mem) hxj.out hxt.out)
        have hvt := Aside0.mk (hvars.out t (List.mem_of_getElem? hxt.out))
        obtain ⟨b0, b1, b2, b3, b4, b5, b6, b7, rfl⟩ := mem_8 hml.out
        have k0 := blk_cell hblk.out 0
        have k1 := blk_cell hblk.out 1
        have k2 := blk_cell hblk.out 2
        have k3 := blk_cell hblk.out 3
        have k4 := blk_cell hblk.out 4
        have k5 := blk_cell hblk.out 5
        have k6 := blk_cell hblk.out 6
        have k7 := blk_cell hblk.out 7
        simp [memCells] at k0 k1 k2 k3 k4 k5 k6 k7
        have hown := Aside0.mk (own_c t.ops [b0, b1, b2, b3, b4, b5, b6, b7] (.slice Ai t.ops.length ci) wr ⟨Ai, ci, rfl, a5.out⟩ rfl hvt.out)
        simp only [encMem, List.map_cons, List.map_nil] at hown
        have hbr : Below wr.heap.size wr wr := Below.refl _ _
        have hbit := Aside0.mk (u32_bit hc.out xn)
        have hlt32 : xn < 32 := by have := hlen.out; omega
        cases hlg : decide (own t.ops [b0, b1, b2, b3, b4, b5, b6, b7] < t.ops.length) with
        | true =>
          have hlg1 : own t.ops [b0, b1, b2, b3, b4, b5, b6, b7] < t.ops.length := by simpa using hlg
          have hs := Aside0.mk (hstep.out.trans (if_pos hlg1))
          generalize own t.ops [b0, b1, b2, b3, b4, b5, b6, b7] = o at *
          clear hlg
          go_wp2_with (go_at_call 41; refine hown.out.mono ?_; clear hown; rintro e w3 ⟨rfl, hb3⟩)
          go_ret2
          exact ⟨by rw [hx.out, hrun.out, hs.out]; rfl, below_step hbw hb3⟩
        | false =>
          have hlg1 : ¬ own t.ops [b0, b1, b2, b3, b4, b5, b6, b7] < t.ops.length := by simpa using hlg
          have hs := Aside0.mk (hstep.out.trans (if_neg hlg1))
          generalize own t.ops [b0, b1, b2, b3, b4, b5, b6, b7] = o at *
          clear hlg
          cases hcb : c.testBit xn with
          | false =>
            rw [hcb] at hs hbit
            replace hbit : Go.bits BinOp.and IntKind.u32 ((c : Int) / 2 ^ xn) 1 = 0 := hbit.out
            replace hcb := Aside0.mk hcb
            go_wp2_with (go_at_call 41; refine hown.out.mono ?_; clear hown; rintro e w3 ⟨rfl, hb3⟩)
            go_roundw
            case rel => exact ⟨j + 1, by omega, by go_num, below_step hbw hb3, below_step hbw1 hb3, [b0, b1, b2, b3, b4, b5, b6, b7], ⟨rfl⟩, ⟨by rw [hrun.out, hs.out]; simp; omega⟩, ⟨blk_below hblk.out hb3⟩⟩
            case measure => simp [intOf]; omega
          | true =>
            rw [hcb] at hs hbit
            replace hbit : Go.bits BinOp.and IntKind.u32 ((c : Int) / 2 ^ xn) 1 = 1 := hbit.out
            replace hcb := Aside0.mk hcb
            obtain ⟨m0, m1, m2, m3, m4, m5, m6, m7, hwm⟩ := mem_8 (with_len (m := [b0, b1, b2, b3, b4, b5, b6, b7]) rfl t.ops)
            rw [hwm] at hs
            replace hwm := Aside0.mk hwm
            have hwith := Aside0.mk (fun W (hw : Sl kOp W Ai ci t.ops) => with_c t.ops [b0, b1, b2, b3, b4, b5, b6, b7] (.slice Ai t.ops.length ci) W ⟨Ai, ci, rfl, hw⟩ rfl hvt.out)
            rw [hwm.out] at hwith
            simp only [encMem, List.map_cons, List.map_nil] at hwith
            have hlow : w.heap.size ≤ w1.heap.size := hwb
            go_wp2_with (go_at_call 41; refine hown.out.mono ?_; clear hown; rintro e w3 ⟨rfl, hb3⟩; have q0 := blk_cell (blk_below hblk.out hb3) 0; have q1 := blk_cell (blk_below hblk.out hb3) 1; have q2 := blk_cell (blk_below hblk.out hb3) 2; have q3 := blk_cell (blk_below hblk.out hb3) 3; have q4 := blk_cell (blk_below hblk.out hb3) 4; have q5 := blk_cell (blk_below hblk.out hb3) 5; have q6 := blk_cell (blk_below hblk.out hb3) 6; have q7 := blk_cell (blk_below hblk.out hb3) 7; simp [memCells] at q0 q1 q2 q3 q4 q5 q6 q7; replace hb3 := Aside0.mk hb3)
            refine (hwith.out w3 (a5.out.below hb3.out)).mono ?_; clear hwith; rintro e w4 ⟨rfl, hb4⟩; have r0 := blk_cell (blk_below (blk_below hblk.out hb3.out) hb4) 0; have r1 := blk_cell (blk_below (blk_below hblk.out hb3.out) hb4) 1; have r2 := blk_cell (blk_below (blk_below hblk.out hb3.out) hb4) 2; have r3 := blk_cell (blk_below (blk_below hblk.out hb3.out) hb4) 3; have r4 := blk_cell (blk_below (blk_below hblk.out hb3.out) hb4) 4; have r5 := blk_cell (blk_below (blk_below hblk.out hb3.out) hb4) 5; have r6 := blk_cell (blk_below (blk_below hblk.out hb3.out) hb4) 6; have r7 := blk_cell (blk_below (blk_below hblk.out hb3.out) hb4) 7; simp [memCells] at r0 r1 r2 r3 r4 r5 r6 r7; have f4 := fun j => blk_frozen (blk_below (blk_below hblk.out hb3.out) hb4) j; have hz := Aside0.mk (blk_set8 (blk_below (blk_below hblk.out hb3.out) hb4) m0 m1 m2 m3 m4 m5 m6 m7); have hbb := Aside0.mk (below_set8 (below_step (below_step hbw hb3.out) hb4) hlow (.int .i64 m0) (.int .i64 m1) (.int .i64 m2) (.int .i64 m3) (.int .i64 m4) (.int .i64 m5) (.int .i64 m6) (.int .i64 m7)); have hbb1 := Aside0.mk (below_set8 (below_step (below_step hbw1 hb3.out) hb4) (Nat.le_refl w1.heap.size) (.int .i64 m0) (.int .i64 m1) (.int .i64 m2) (.int .i64 m3) (.int .i64 m4) (.int .i64 m5) (.int .i64 m6) (.int .i64 m7)); replace hb4 := Aside0.mk hb4
            go_wp2
            go_roundw
            case rel =>
              refine ⟨j + 1, by omega, by go_num, hbb.out, hbb1.out, [m0, m1, m2, m3, m4, m5, m6, m7], ⟨rfl⟩, ⟨?_⟩, hz⟩
              rw [hrun.out, hs.out]
              simp
              omega
            case measure => simp [intOf]; omega
      · obtain rfl : j = row.length := by omega
        go_wp2
        go_ret2
        exact ⟨by rw [hx.out, hrun.out, List.drop_of_length_le (by simp [natRow])]; rfl, hbw⟩
end Go.Proofs.YtnogalajfccioaaDoor
