/- Layer 10 (legal): own, with. -/
import Derived.Test.YtnogalajfccioaaDoorComplete
import Derived.Deep.QuietTactic
namespace Go.Proofs.YtnogalajfccioaaDoor
open Go.RowKit Go.Proofs.YtnogalajfccioaaDoorW.PrintWords
def encMem (m : Mem) : Value := .agg (m.map (Value.int .i64)).toArray
def memCells (m : Mem) : Array Value := (m.map (Value.int .i64)).toArray
/-- Ops whose variables lie in a memory. -/
def VarsIn (ops : List Op) : Prop := ∀ o ∈ ops, 0 ≤ o.var ∧ o.var ≤ 7
theorem Mem.put_len {m : Mem} (h : m.length = 8) (o : Op) : (m.put o).length = 8 := by
  unfold Mem.put
  split
  · rw [List.length_set]; exact h
  · exact h
theorem mem_cell {w : World} {b : Nat} {m : Mem} (hb : w.heap[b]? = some (.cells (memCells m) 84 (0, 0))) {v : Nat} (hv : v < m.length) : w.cell? ⟨b, v, none⟩ = some (.int .i64 (m.getD v 0)) := by
  have := blk_cell hb v
  rw [this]
  simp [memCells, hv]
theorem blk_mem_set {w : World} {b : Nat} {m : Mem} {t : TypeId} {u : Int} (h : w.heap[b]? = some (.cells (memCells m) t (0, 0))) (v : Nat) : (w.setCell ⟨b, v, none⟩ (.int .i64 u)).heap[b]? = some (.cells (memCells (m.set v u)) t (0, 0)) := by
  rw [blk_set h]
  congr 2
  unfold memCells
  rw [List.map_set, List.setIfInBounds_toArray]
theorem mem_8 {m : Mem} (h : m.length = 8) : ∃ a0 a1 a2 a3 a4 a5 a6 a7, m = [a0, a1, a2, a3, a4, a5, a6, a7] := by
  match m, h with
  | [a0, a1, a2, a3, a4, a5, a6, a7], _ => exact ⟨a0, a1, a2, a3, a4, a5, a6, a7, rfl⟩
set_option maxRecDepth 100000 in
set_option maxHeartbeats 1000000 in
theorem own_c (ops : List Op) (m : Mem) (v : Value) (w : World) (hv : In kOp w v ops) (hm : m.length = 8) (hvs : VarsIn ops) :
    Calls Tryd.prog 41 #[v, encMem m] w fun e w' => e = .returned (.int .i64 (own ops m : Nat)) ∧ Below w.heap.size w w' := by
  obtain ⟨A, c, rfl, hc, hC0⟩ := hv
  have hmax : ops.length ≤ 9223372036854775807 := hC0.2.1
  have hC := Aside0.mk hC0
  clear hC0
  obtain ⟨a0, a1, a2, a3, a4, a5, a6, a7, rfl⟩ := mem_8 hm
  clear hm
  replace hvs := Aside0.mk hvs
  simp only [encMem, List.map_cons, List.map_nil]
  have hB0 := Aside0.mk (blk_new w (.cells (memCells [a0, a1, a2, a3, a4, a5, a6, a7]) 84))
  go_enter Tryd.func41, Tryd.ntmps41
  go_wp2
  go_loopw [5, 6, 9] (fun _ _ i wr => ∃ j : Nat, j ≤ ops.length ∧ i = .int .i64 j ∧ Below w.heap.size w wr ∧ ∃ mem : Mem, Aside0 (mem.length = 8) ∧ Aside0 (own ops [a0, a1, a2, a3, a4, a5, a6, a7] = j + own (ops.drop j) mem) ∧ Aside0 (wr.heap[w.heap.size]? = some (.cells (memCells mem) 84 (0, 0)))) (fun _ _ i _ => ops.length - (intOf i).toNat)
  case atStart => exact ⟨0, Nat.zero_le _, rfl, below_alloc (Below.refl _ _) _, _, ⟨rfl⟩, ⟨by simp⟩, hB0⟩
  case round =>
    obtain ⟨j, hj, rfl, hb, mem, hml, hrun, hblk⟩ := hrel
    by_cases hlt : j < ops.length
    · obtain ⟨ad, x, rfl, hx, c0, c1, c2⟩ := get_Op (Kd.C_below hC.out hb) j hlt
      have hxv := hvs.out x (List.mem_of_getElem? hx.out)
      obtain ⟨vn, hvn⟩ : ∃ vn : Nat, x.var = vn := ⟨x.var.toNat, by omega⟩
      have hd := Aside0.mk (show ops.drop j = x :: ops.drop (j + 1) by
        obtain ⟨hl, he⟩ := List.getElem?_eq_some_iff.1 hx.out
        rw [← he]; exact List.drop_eq_getElem_cons hl)
      rw [hvn] at c1 hxv
      have df := blk_frozen hblk.out vn
      have hlt0 : w.heap.size < wr.heap.size := blk_lt hblk.out
      have hne0 : w.heap.size ≠ wr.heap.size := by omega
      have d := mem_cell (v := vn) hblk.out (by have := hml.out; omega)
      have hv8 : vn < 8 := by omega
      clear hxv
      replace hvn := Aside0.mk hvn
      cases hw : x.write with
      | true =>
        rw [hw] at c0
        replace hw := Aside0.mk hw
        have hstep := Aside0.mk (show own (ops.drop j) mem = own (ops.drop (j + 1)) (mem.put x) + 1 by rw [hd.out, own, if_pos hw.out])
        have hset := Aside0.mk (blk_alloc (blk_mem_set (u := x.val) hblk.out vn) (.cells #[.bool true, .int .i64 vn, .int .i64 x.val] 122))
        have hput := Aside0.mk (show mem.put x = mem.set vn x.val by have := hvn.out; simp [Mem.put, hw.out, this])
        go_wp2
        go_roundw
        case rel => exact ⟨j + 1, by omega, by go_num, below_alloc (Below.setCell (p := ⟨w.heap.size, vn, none⟩) hb (Nat.le_refl _) _) _, mem.put x, ⟨Mem.put_len hml.out x⟩, ⟨by rw [hrun.out, hstep.out]; omega⟩, ⟨by rw [hput.out]; exact hset.out⟩⟩
        case measure => simp [intOf]; omega
      | false =>
        rw [hw] at c0
        replace hw := Aside0.mk hw
        have hget := Aside0.mk (show mem.get x.var = mem.getD vn 0 by have := hvn.out; simp [Mem.get, this])
        generalize mem.getD vn 0 = y at *
        by_cases hy : y = x.val
        · have hstep := Aside0.mk (show own (ops.drop j) mem = own (ops.drop (j + 1)) mem + 1 by rw [hd.out, own, if_neg (by rw [hw.out]; decide), if_pos (by rw [hget.out]; exact hy)])
          go_wp2
          go_region
          all_goals
            go_wp2
            go_roundw
            case rel => exact ⟨j + 1, by omega, by go_num, below_drew (below_alloc hb _), mem, hml, ⟨by rw [hrun.out, hstep.out]; omega⟩, ⟨blk_drew (blk_alloc hblk.out _)⟩⟩
            case measure => simp [intOf]; omega
        · have hstep := Aside0.mk (show own (ops.drop j) mem = 0 by rw [hd.out, own, if_neg (by rw [hw.out]; decide), if_neg (by rw [hget.out]; exact hy)])
          go_wp2
          go_region
          all_goals
            go_wp2
            go_ret
            exact ⟨by rw [hrun.out, hstep.out]; rfl, below_drew (below_alloc hb _)⟩
    · obtain rfl : j = ops.length := by omega
      go_wp2
      go_ret
      exact ⟨by have := hrun.out; rw [List.drop_length] at this; rw [this]; simp [own], hb⟩
set_option maxRecDepth 100000 in
set_option maxHeartbeats 1000000 in
theorem with_c (ops : List Op) (m : Mem) (v : Value) (w : World) (hv : In kOp w v ops) (hm : m.length = 8) (hvs : VarsIn ops) :
    Calls Tryd.prog 42 #[encMem m, v] w fun e w' => e = .returned (encMem (with_ m ops)) ∧ Below w.heap.size w w' := by
  obtain ⟨A, c, rfl, hc, hC0⟩ := hv
  have hmax : ops.length ≤ 9223372036854775807 := hC0.2.1
  have hC := Aside0.mk hC0
  clear hC0
  obtain ⟨a0, a1, a2, a3, a4, a5, a6, a7, rfl⟩ := mem_8 hm
  clear hm
  replace hvs := Aside0.mk hvs
  have he : encMem [a0, a1, a2, a3, a4, a5, a6, a7] = .agg #[.int .i64 a0, .int .i64 a1, .int .i64 a2, .int .i64 a3, .int .i64 a4, .int .i64 a5, .int .i64 a6, .int .i64 a7] := rfl
  rw [he]
  clear he
  have hB0 := Aside0.mk (blk_alloc (blk_new w (.cells (memCells [a0, a1, a2, a3, a4, a5, a6, a7]) 84)) (.cells #[.int .i64 0, .int .i64 0, .int .i64 0, .int .i64 0, .int .i64 0, .int .i64 0, .int .i64 0, .int .i64 0] 84))
  have hB1 := Aside0.mk (blk_new (w.alloc (.cells (memCells [a0, a1, a2, a3, a4, a5, a6, a7]) 84)) (.cells #[.int .i64 0, .int .i64 0, .int .i64 0, .int .i64 0, .int .i64 0, .int .i64 0, .int .i64 0, .int .i64 0] 84))
  rw [World.size_alloc] at hB1
  go_enter Tryd.func42, Tryd.ntmps42
  go_wp2
  go_loopw [6, 9] (fun _ i wr => ∃ j : Nat, j ≤ ops.length ∧ i = .int .i64 j ∧ Below w.heap.size w wr ∧ ∃ mem : Mem, Aside0 (mem.length = 8) ∧ Aside0 (with_ [a0, a1, a2, a3, a4, a5, a6, a7] ops = with_ mem (ops.drop j)) ∧ Aside0 (wr.heap[w.heap.size]? = some (.cells (memCells mem) 84 (0, 0))) ∧ Aside0 (wr.heap[w.heap.size + 1]? = some (.cells #[.int .i64 0, .int .i64 0, .int .i64 0, .int .i64 0, .int .i64 0, .int .i64 0, .int .i64 0, .int .i64 0] 84 (0, 0)))) (fun _ i _ => ops.length - (intOf i).toNat)
  case atStart => exact ⟨0, Nat.zero_le _, rfl, below_alloc (below_alloc (Below.refl _ _) _) _, _, ⟨rfl⟩, ⟨by simp⟩, hB0, hB1⟩
  case round =>
    obtain ⟨j, hj, rfl, hb, mem, hml, hrun, hblk, hblk2⟩ := hrel
    have hlt1 : w.heap.size + 1 < wr.heap.size := blk_lt hblk2.out
    have hne1 : w.heap.size + 1 ≠ wr.heap.size := by omega
    have hlt0 : w.heap.size < wr.heap.size := by omega
    have hne0 : w.heap.size ≠ wr.heap.size := by omega
    by_cases hlt : j < ops.length
    · obtain ⟨ad, x, rfl, hx, c0, c1, c2⟩ := get_Op (Kd.C_below hC.out hb) j hlt
      have hxv := hvs.out x (List.mem_of_getElem? hx.out)
      obtain ⟨vn, hvn⟩ : ∃ vn : Nat, x.var = vn := ⟨x.var.toNat, by omega⟩
      have hd := Aside0.mk (show with_ mem (ops.drop j) = with_ (mem.put x) (ops.drop (j + 1)) by
        obtain ⟨hl, he⟩ := List.getElem?_eq_some_iff.1 hx.out
        rw [List.drop_eq_getElem_cons hl, he]; rfl)
      rw [hvn] at c1 hxv
      have df := blk_frozen hblk.out vn
      have d := mem_cell (v := vn) hblk.out (by have := hml.out; omega)
      have hv8 : vn < 8 := by omega
      clear hxv
      replace hvn := Aside0.mk hvn
      cases hw : x.write with
      | true =>
        rw [hw] at c0
        replace hw := Aside0.mk hw
        have hset := Aside0.mk (blk_alloc (blk_mem_set (u := x.val) hblk.out vn) (.cells #[.bool true, .int .i64 vn, .int .i64 x.val] 122))
        have hset2 := Aside0.mk (blk_alloc (blk_far (p := ⟨w.heap.size, vn, none⟩) hblk2.out (by simp) (.int .i64 x.val)) (.cells #[.bool true, .int .i64 vn, .int .i64 x.val] 122))
        have hput := Aside0.mk (show mem.put x = mem.set vn x.val by have := hvn.out; simp [Mem.put, hw.out, this])
        go_wp2
        go_roundw
        case rel => exact ⟨j + 1, by omega, by go_num, below_alloc (Below.setCell (p := ⟨w.heap.size, vn, none⟩) hb (Nat.le_refl _) _) _, mem.put x, ⟨Mem.put_len hml.out x⟩, ⟨by rw [hrun.out, hd.out]⟩, ⟨by rw [hput.out]; exact hset.out⟩, hset2⟩
        case measure => simp [intOf]; omega
      | false =>
        rw [hw] at c0
        replace hw := Aside0.mk hw
        have hput := Aside0.mk (show mem.put x = mem by simp [Mem.put, hw.out])
        go_wp2
        go_roundw
        case rel => exact ⟨j + 1, by omega, by go_num, below_alloc hb _, mem, hml, ⟨by rw [hrun.out, hd.out, hput.out]⟩, ⟨blk_alloc hblk.out _⟩, ⟨blk_alloc hblk2.out _⟩⟩
        case measure => simp [intOf]; omega
    · obtain rfl : j = ops.length := by omega
      obtain ⟨b0, b1, b2, b3, b4, b5, b6, b7, rfl⟩ := mem_8 hml.out
      have k0 := blk_cell hblk.out 0
      have k1 := blk_cell hblk.out 1
      have k2 := blk_cell hblk.out 2
      have k3 := blk_cell hblk.out 3
      have k4 := blk_cell hblk.out 4
      have k5 := blk_cell hblk.out 5
      have k6 := blk_cell hblk.out 6
      have k7 := blk_cell hblk.out 7
      have l0 := blk_cell hblk2.out 0
      have l1 := blk_cell hblk2.out 1
      have l2 := blk_cell hblk2.out 2
      have l3 := blk_cell hblk2.out 3
      have l4 := blk_cell hblk2.out 4
      have l5 := blk_cell hblk2.out 5
      have l6 := blk_cell hblk2.out 6
      have l7 := blk_cell hblk2.out 7
      have f2 := fun j => blk_frozen hblk2.out j
      simp [memCells] at k0 k1 k2 k3 k4 k5 k6 k7 l0 l1 l2 l3 l4 l5 l6 l7
      have hz := Aside0.mk (blk_set (blk_set (blk_set (blk_set (blk_set (blk_set (blk_set (blk_set hblk2.out 0 (.int .i64 b0)) 1 (.int .i64 b1)) 2 (.int .i64 b2)) 3 (.int .i64 b3)) 4 (.int .i64 b4)) 5 (.int .i64 b5)) 6 (.int .i64 b6)) 7 (.int .i64 b7))
      have hbb := Aside0.mk (show Below w.heap.size w ((((((((wr.setCell ⟨w.heap.size + 1, 0, none⟩ (.int .i64 b0)).setCell ⟨w.heap.size + 1, 1, none⟩ (.int .i64 b1)).setCell ⟨w.heap.size + 1, 2, none⟩ (.int .i64 b2)).setCell ⟨w.heap.size + 1, 3, none⟩ (.int .i64 b3)).setCell ⟨w.heap.size + 1, 4, none⟩ (.int .i64 b4)).setCell ⟨w.heap.size + 1, 5, none⟩ (.int .i64 b5)).setCell ⟨w.heap.size + 1, 6, none⟩ (.int .i64 b6)).setCell ⟨w.heap.size + 1, 7, none⟩ (.int .i64 b7)) by
        repeat (refine Below.setCell (p := ⟨w.heap.size + 1, _, none⟩) ?_ (Nat.le_succ _) _)
        exact hb)
      go_wp2
      refine bodyPost_ret (results_cell_row rfl _ _ (w.heap.size + 1) _ _ _ _ rfl hz.out Tryd.underlying84 rfl (by kernel_rfl)) rfl ?_
      exact ⟨by rw [hrun.out, List.drop_length]; rfl, hbb.out⟩
end Go.Proofs.YtnogalajfccioaaDoor
