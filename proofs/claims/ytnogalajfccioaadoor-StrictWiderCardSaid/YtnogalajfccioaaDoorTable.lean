/- Layer 6 (table): transactions. -/
import Derived.Test.YtnogalajfccioaaDoorProper
namespace Go.Proofs.YtnogalajfccioaaDoor
open Go.RowKit Go.Proofs.YtnogalajfccioaaDoorW.PrintWords
/-- A keeper's cells. -/
def keepCells (k : Keep) (v : Value) : Array Value := #[.int .i64 k.t.name, .int .i64 k.t.first, .int .i64 k.t.last, .int .i64 k.t.state, v, .int .i64 k.a.kind, .int .i64 k.a.tx, .int .i64 k.a.var, .int .i64 k.a.val]
/-- A keeper in memory: its block, its ops' value. -/
structure KeepAt (w0 w : World) (b : Nat) (v : Value) (k : Keep) : Prop where
  blk : w.heap[b]? = some (.cells (keepCells k v) 80 (0, 0))
  ops : Own kOp 122 w0 w v k.t.ops
  low : w0.heap.size ≤ b
def TookP (w0 w : World) (b : Nat) (v : Value) (k : Keep) (w' : World) : Prop := ∃ v1, KeepAt w0 w' b v1 k ∧ (v1.ownBlock = v.ownBlock ∨ ∃ c, v1.ownBlock = some c ∧ w.heap.size ≤ c) ∧ Only (fun c => c = b ∨ some c = v.ownBlock) w w'
theorem Tryd.info_Op : (Tryd.prog.info? 122).map (fun i => (i.zero, i.size, i.bytes)) = some (some (.agg #[.bool false, .int .i64 0, .int .i64 0]), 3, 24) := by kernel_rfl
theorem took_plain {k k' : Keep} {v : Value} {w0 w w' : World} {b : Nat} (h : KeepAt w0 w b v k) (ho : Only (Is b) w w') (hblk : w'.heap[b]? = some (.cells (keepCells k' v) 80 (0, 0))) (hops : k'.t.ops = k.t.ops) : TookP w0 w b v k' w' :=
  ⟨v, ⟨hblk, by rw [hops]; exact h.ops.only ho (fun c hc => by subst hc; exact ⟨_, _, _, h.blk, by decide⟩), h.low⟩, .inl rfl, ho.mono (fun _ _ hk => .inl hk)⟩
theorem took_app {k k' : Keep} {v v1 : Value} {w0 w W w1 : World} {b : Nat} {cs : Array Value} (h : KeepAt w0 w b v k) (ho : Only (Is b) w W) (hW : W.heap[b]? = some (.cells cs 80 (0, 0)))
    (hg : W.grownBy w1 v.ownBlock) (hat : v1.ownBlock = v.ownBlock ∨ ∃ c, v1.ownBlock = some c ∧ W.heap.size ≤ c) (hO : Own kOp 122 w0 w1 v1 k'.t.ops) (hcs : keepCells k' v1 = cs.setIfInBounds 4 v1) (hne : some b ≠ v.ownBlock) :
    TookP w0 w b v k' (w1.setCell ⟨b, 4, none⟩ v1) := by
  have hw1 := blk_grown hW hg hne
  refine ⟨v1, ⟨by rw [hcs]; exact blk_set hw1 4 _, hO.only (Only.setb (S := Is b) (w := w1) rfl (Only.refl _ _)) (fun c hc => by cases hc; exact ⟨_, _, _, hw1, by decide⟩), h.low⟩, ?_, ?_⟩
  · rcases hat with hat | ⟨c, hc, hl⟩
    · exact .inl hat
    · exact .inr ⟨c, hc, Nat.le_trans ho.size hl⟩
  · exact Only.setb (.inl rfl) ((ho.mono (fun _ _ hk => .inl hk)).trans ((Only.of_grown hg).mono (fun _ _ hk => .inr hk)))
set_option maxRecDepth 100000 in
set_option maxHeartbeats 8000000 in
theorem take_c (k : Keep) (i : Int) (x : Ev) (w0 w : World) (b : Nat) (v : Value) (h : KeepAt w0 w b v k) (hb : Below w0.heap.size w0 w) (hl : k.t.ops.length ≤ 1000) :
    Calls Tryd.prog 39 #[.pointer (some ⟨b, 0, none⟩), .int .i64 i, .agg #[.int .i64 x.kind, .int .i64 x.tx, .int .i64 x.var, .int .i64 x.val]] w fun e w' => e = .returned (.tuple #[]) ∧ TookP w0 w b v (k.take i x) w' := by
  have hlt : b < w.heap.size := (Array.getElem?_eq_some_iff.1 h.blk).1
  have hc := fun j => blk_cell h.blk j
  have c0 := hc 0
  have c1 := hc 1
  have c2 := hc 2
  have c3 := hc 3
  have c4 := hc 4
  have c5 := hc 5
  have c6 := hc 6
  have c7 := hc 7
  have c8 := hc 8
  simp only [keepCells, List.getElem?_toArray, List.getElem?_cons_zero, List.getElem?_cons_succ] at c0 c1 c2 c3 c4 c5 c6 c7 c8
  have hf := fun j => blk_frozen h.blk j
  replace h := Aside0.mk h
  clear hc
  obtain ⟨kd, tx, vr, vl⟩ := x
  dsimp only
  by_cases h24 : kd = 2 ∨ kd = 4
  · rcases h24 with rfl | rfl
    · have hk' := Aside0.mk (show keepCells (k.take i ⟨2, tx, vr, vl⟩) v = ((((((keepCells k v).setIfInBounds 2 (.int .i64 i)).setIfInBounds 3 (.int .i64 0)).setIfInBounds 5 (.int .i64 2)).setIfInBounds 6 (.int .i64 tx)).setIfInBounds 7 (.int .i64 vr)).setIfInBounds 8 (.int .i64 vl) by simp [Keep.take, keepCells])
      go_enter Tryd.func39, Tryd.ntmps39
      go_wp2
      go_end0
      have hS : Is b b := rfl
      refine ⟨rfl, took_plain h.out ?_ (by rw [hk'.out]; exact blk_alloc (blk_set (blk_set (blk_set (blk_set (blk_set (blk_set h.out.blk 2 _) 3 _) 5 _) 6 _) 7 _) 8 _) _) (by simp [Keep.take])⟩
      repeat (with_reducible first | apply Only.alloc | apply Only.setb hS | exact Only.refl _ _)
    · have hk' := Aside0.mk (show keepCells (k.take i ⟨4, tx, vr, vl⟩) v = ((((((keepCells k v).setIfInBounds 2 (.int .i64 i)).setIfInBounds 3 (.int .i64 0)).setIfInBounds 5 (.int .i64 4)).setIfInBounds 6 (.int .i64 tx)).setIfInBounds 7 (.int .i64 vr)).setIfInBounds 8 (.int .i64 vl) by simp [Keep.take, keepCells])
      go_enter Tryd.func39, Tryd.ntmps39
      go_wp2
      go_end0
      have hS : Is b b := rfl
      refine ⟨rfl, took_plain h.out ?_ (by rw [hk'.out]; exact blk_alloc (blk_set (blk_set (blk_set (blk_set (blk_set (blk_set h.out.blk 2 _) 3 _) 5 _) 6 _) 7 _) 8 _) _) (by simp [Keep.take])⟩
      repeat (with_reducible first | apply Only.alloc | apply Only.setb hS | exact Only.refl _ _)
  by_cases h679 : kd = 6 ∨ kd = 7 ∨ kd = 9
  · rcases h679 with rfl | rfl | rfl
    · have hk' := Aside0.mk (show keepCells (k.take i ⟨6, tx, vr, vl⟩) v = (((keepCells k v).setIfInBounds 2 (.int .i64 i)).setIfInBounds 3 (.int .i64 0)).setIfInBounds 3 (.int .i64 1) by simp [Keep.take, keepCells])
      go_enter Tryd.func39, Tryd.ntmps39
      go_wp2
      go_end0
      have hS : Is b b := rfl
      refine ⟨rfl, took_plain h.out ?_ (by rw [hk'.out]; exact blk_alloc (blk_set (blk_set (blk_set h.out.blk 2 _) 3 _) 3 _) _) (by simp [Keep.take])⟩
      repeat (with_reducible first | apply Only.alloc | apply Only.setb hS | exact Only.refl _ _)
    · have hk' := Aside0.mk (show keepCells (k.take i ⟨7, tx, vr, vl⟩) v = (((keepCells k v).setIfInBounds 2 (.int .i64 i)).setIfInBounds 3 (.int .i64 0)).setIfInBounds 3 (.int .i64 2) by simp [Keep.take, keepCells])
      go_enter Tryd.func39, Tryd.ntmps39
      go_wp2
      go_end0
      have hS : Is b b := rfl
      refine ⟨rfl, took_plain h.out ?_ (by rw [hk'.out]; exact blk_alloc (blk_set (blk_set (blk_set h.out.blk 2 _) 3 _) 3 _) _) (by simp [Keep.take])⟩
      repeat (with_reducible first | apply Only.alloc | apply Only.setb hS | exact Only.refl _ _)
    · have hk' := Aside0.mk (show keepCells (k.take i ⟨9, tx, vr, vl⟩) v = (((keepCells k v).setIfInBounds 2 (.int .i64 i)).setIfInBounds 3 (.int .i64 0)).setIfInBounds 3 (.int .i64 3) by simp [Keep.take, keepCells])
      go_enter Tryd.func39, Tryd.ntmps39
      go_wp2
      go_end0
      have hS : Is b b := rfl
      refine ⟨rfl, took_plain h.out ?_ (by rw [hk'.out]; exact blk_alloc (blk_set (blk_set (blk_set h.out.blk 2 _) 3 _) 3 _) _) (by simp [Keep.take])⟩
      repeat (with_reducible first | apply Only.alloc | apply Only.setb hS | exact Only.refl _ _)
  by_cases h35 : kd = 3 ∨ kd = 5
  · have hO := Aside0.mk (show ∀ W', Only (Is b) w W' → Own kOp 122 w0 W' v k.t.ops from fun W' ho => h.out.ops.only ho (fun c hc => by cases hc; exact ⟨_, _, _, h.out.blk, by decide⟩))
    have hB := Aside0.mk (show ∀ W', Only (Is b) w W' → Below w0.heap.size w0 W' from fun W' ho => below_weaken hb (Nat.le_refl _) (ho.below hb.size (fun k hk => by cases hk; exact h.out.low)))
    have hne := Aside0.mk (Kd.R_ne h.out.ops h.out.blk (by decide))
    have hS : Is b b := rfl
    rcases h35 with rfl | rfl
    · go_enter Tryd.func39, Tryd.ntmps39
      go_wp2
      go_region_law (refine append_stepD kOp (w0 := w0) (by rfl) (.tmp 31) (.tmp 40) 32 122 (.agg #[.bool false, .int .i64 0, .int .i64 0]) 24 (by rfl) Tryd.underlying32 Tryd.info_Op rfl (by decide) (by decide) v k.t.ops ⟨false, k.a.var, vl⟩ [.bool false, .int .i64 k.a.var, .int .i64 vl] (by rfl) (by simp [Act.eval]) (kOp_mkM _ _ _ ⟨false, k.a.var, vl⟩) (hO.out _ ?o1) (hB.out _ ?o2) (by omega) ?_; (case o1 => repeat (with_reducible first | apply Only.alloc | apply Only.drew | apply Only.setb hS | exact Only.refl _ _)); (case o2 => repeat (with_reducible first | apply Only.alloc | apply Only.drew | apply Only.setb hS | exact Only.refl _ _)); intro v1 w1 hO1 hB1 hg1 hat1; obtain ⟨A1, n1, hv1⟩ := Kd.R_slice hO1; rw [List.length_append, List.length_singleton] at hv1; subst hv1; have hblk1 := blk_grown (blk_drew (blk_alloc (blk_set (blk_set h.out.blk 2 (.int .i64 i)) 3 (.int .i64 0)) (.cells #[.int .i64 3, .int .i64 tx, .int .i64 vr, .int .i64 vl] 49))) hg1 hne.out; have c41 := blk_cell hblk1 4; have f41 := blk_frozen hblk1 4; simp [keepCells] at c41)
      all_goals
        go_wp2
        go_end0
        refine ⟨rfl, took_app h.out (W := (((w.setCell ⟨b, 2, none⟩ (.int .i64 i)).setCell ⟨b, 3, none⟩ (.int .i64 0)).alloc (.cells #[.int .i64 3, .int .i64 tx, .int .i64 vr, .int .i64 vl] 49)).drew) ?_ (blk_drew (blk_alloc (blk_set (blk_set h.out.blk 2 _) 3 _) _)) hg1 hat1 hO1 (by simp [Keep.take, keepCells]) hne.out⟩
        repeat (with_reducible first | apply Only.alloc | apply Only.drew | apply Only.setb hS | exact Only.refl _ _)
    · go_enter Tryd.func39, Tryd.ntmps39
      go_wp2
      go_region_law (refine append_stepD kOp (w0 := w0) (by rfl) (.tmp 52) (.tmp 64) 32 122 (.agg #[.bool false, .int .i64 0, .int .i64 0]) 24 (by rfl) Tryd.underlying32 Tryd.info_Op rfl (by decide) (by decide) v k.t.ops ⟨true, k.a.var, k.a.val⟩ [.bool true, .int .i64 k.a.var, .int .i64 k.a.val] (by rfl) (by simp [Act.eval]) (kOp_mkM _ _ _ ⟨true, k.a.var, k.a.val⟩) (hO.out _ ?o1) (hB.out _ ?o2) (by omega) ?_; (case o1 => repeat (with_reducible first | apply Only.alloc | apply Only.drew | apply Only.setb hS | exact Only.refl _ _)); (case o2 => repeat (with_reducible first | apply Only.alloc | apply Only.drew | apply Only.setb hS | exact Only.refl _ _)); intro v1 w1 hO1 hB1 hg1 hat1; obtain ⟨A1, n1, hv1⟩ := Kd.R_slice hO1; rw [List.length_append, List.length_singleton] at hv1; subst hv1; have hblk1 := blk_grown (blk_drew (blk_alloc (blk_set (blk_set h.out.blk 2 (.int .i64 i)) 3 (.int .i64 0)) (.cells #[.int .i64 5, .int .i64 tx, .int .i64 vr, .int .i64 vl] 49))) hg1 hne.out; have c41 := blk_cell hblk1 4; have f41 := blk_frozen hblk1 4; simp [keepCells] at c41)
      all_goals
        go_wp2
        go_end0
        refine ⟨rfl, took_app h.out (W := (((w.setCell ⟨b, 2, none⟩ (.int .i64 i)).setCell ⟨b, 3, none⟩ (.int .i64 0)).alloc (.cells #[.int .i64 5, .int .i64 tx, .int .i64 vr, .int .i64 vl] 49)).drew) ?_ (blk_drew (blk_alloc (blk_set (blk_set h.out.blk 2 _) 3 _) _)) hg1 hat1 hO1 (by simp [Keep.take, keepCells]) hne.out⟩
        repeat (with_reducible first | apply Only.alloc | apply Only.drew | apply Only.setb hS | exact Only.refl _ _)
  · have e2 : kd ≠ 2 := by omega
    have e4 : kd ≠ 4 := by omega
    have e6 : kd ≠ 6 := by omega
    have e7 : kd ≠ 7 := by omega
    have e9 : kd ≠ 9 := by omega
    have e3 : kd ≠ 3 := by omega
    have e5 : kd ≠ 5 := by omega
    have hk' : keepCells (k.take i ⟨kd, tx, vr, vl⟩) v = ((keepCells k v).setIfInBounds 2 (.int .i64 i)).setIfInBounds 3 (.int .i64 0) := by simp [Keep.take, e2, e3, e4, e5, e6, e7, e9, keepCells]
    have ho' : (k.take i ⟨kd, tx, vr, vl⟩).t.ops = k.t.ops := by simp [Keep.take, e3, e5]
    replace hk' := Aside0.mk hk'
    replace ho' := Aside0.mk ho'
    clear h24 h679 h35
    go_enter Tryd.func39, Tryd.ntmps39
    go_wp2
    go_end0
    have hS : Is b b := rfl
    refine ⟨rfl, took_plain h.out ?_ (by rw [hk'.out]; exact blk_alloc (blk_set (blk_set h.out.blk 2 _) 3 _) _) ho'.out⟩
    repeat (with_reducible first | apply Only.alloc | apply Only.setb hS | exact Only.refl _ _)
end Go.Proofs.YtnogalajfccioaaDoor
