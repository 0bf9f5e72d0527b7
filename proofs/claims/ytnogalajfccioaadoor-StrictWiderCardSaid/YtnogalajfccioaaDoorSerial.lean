/- Layer 12 (serial): Clip, append to what is clipped, free. -/
import Derived.Test.YtnogalajfccioaaDoorComplete3
import Derived.ArgAppend
namespace Go.Proofs.YtnogalajfccioaaDoor
open Go.RowKit Go.Proofs.YtnogalajfccioaaDoorW.PrintWords
theorem clip_c (A : Option Addr) (n c : Nat) (w : World) (hc : n ≤ c) :
    Calls Tryd.prog 84 #[.slice A n c] w fun e w' => e = .returned (.slice A n n) ∧ w' = w := by
  go_enter Tryd.func84, Tryd.ntmps84
  go_wp2
  go_ret
  exact ⟨rfl, rfl⟩
section
variable {P : Program} {ops : Array Oper} {rest : List Oper} {o : Oper} {a : Act} {Q : Exit → Act → World → Prop}
/-- append(clipped, x): a row of its own. -/
theorem append_clip {W : World} (hgd : o.guard = none) (s x : Operand) (t e : TypeId)
    (ho : o.op = .call { callee := .builtin .append, args := #[s, x], argTypes := #[t, t] })
    (ht : P.underlying t = some (.slice e)) (hinfo : (P.info? e).map (fun i => (i.zero, i.size, i.bytes)) = some (some (.int .i64 0), 1, 8))
    (A : Option Addr) (n : Nat) (xs : List Int) (p : Int) (hs : a.eval s = .slice A n n) (hx : a.eval x = .slice (some ⟨W.heap.size, 0, none⟩) 1 1)
    (hC : Kd.C (Kd.int .i64) W A xs.length xs) (hn : xs.length = n) (hA : A = none → n = 0) (hl : n ≤ 1000)
    (h : ∀ v1 w1, Own (Kd.int .i64) e W w1 v1 (xs ++ [p]) → Below W.heap.size W w1 → wpList P ops Q rest (a.put o.dst v1) w1) :
    wpList P ops Q (o :: rest) a (W.alloc (.cells #[.int .i64 p] e)) := by
  subst hn
  cases hi : P.info? e with
  | none => rw [hi] at hinfo; simp at hinfo
  | some i =>
    rw [hi] at hinfo
    simp only [Option.map_some, Option.some.injEq, Prod.mk.injEq] at hinfo
    obtain ⟨hz, hsz, hby⟩ := hinfo
    refine wpList_append_grows _ hgd s x t ho e i (.int .i64 0) 1 8 ht hi hz hsz hby rfl (by decide) A xs.length xs.length (encs (Value.int .i64) xs) hs (fun hn => ⟨hA hn, hA hn⟩) (by simp [encs]) ?_ ⟨W.heap.size, 0, none⟩ 1 1 [.int .i64 p] hx rfl ?_ (by simp [Value.oneCell']) (by omega) (by simp [maxLen]; omega) (by omega) ?_
    · intro b hb j u hj
      subst hb
      have hjl : j < xs.length := by have := (List.getElem?_eq_some_iff.1 hj).1; simpa [encs] using this
      obtain ⟨ad, y, e1, hy, hc⟩ := get_int hC j hjl
      cases e1
      have hu : u = .int .i64 y := by
        have h1 := hy.out
        simp only [encs, List.getElem?_map, h1, Option.map_some, Option.some.injEq] at hj
        exact hj.symm
      subst hu
      exact pw_cell_below (below_alloc (Below.refl _ _) _) hc
    · intro j u hj
      cases j with
      | zero =>
        simp only [List.getElem?_cons_zero, Option.some.injEq] at hj
        subst hj
        have := blk_cell (blk_new W (.cells #[.int .i64 p] e)) 0
        simp [Addr.add]
      | succ j => simp at hj
    · intro v1 w1 hown hg
      have hsz1 : (W.alloc (.cells #[.int .i64 p] e)).heap.size = W.heap.size + 1 := by simp
      refine h v1 w1 ?_ ?_
      · have e2 : encs (Value.int .i64) xs ++ [.int .i64 p] = encs (Value.int .i64) (xs ++ [p]) := by simp [encs]
        have e3 : xs.length + 1 = (xs ++ [p]).length := by simp
        rw [e2, e3] at hown
        exact Own.lower (w1 := W.alloc (.cells #[.int .i64 p] e)) (Kd.R_of_own hown (fun _ _ => trivial)) (by rw [hsz1]; omega)
      · exact pw_below_grown (below_alloc (Below.refl _ _) _) none (by simp) hg (fun k hk => by cases hk)
end
/-- Of a searcher, in memory. -/
def SB (b : Nat) (hv av : Value) (who c : Nat) (left steps : Int) (w : World) : Prop :=
  w.heap[b]? = some (.cells #[hv, av, .int .u32 who, .int .u32 c, .int .i64 left, .int .i64 steps] 94 (0, 0))
def freeA (aft : List Nat) (who inn k : Nat) : Bool := (List.range aft.length).all fun i => !((who.testBit i && !inn.testBit i) && (aft.getD i 0).testBit k)
theorem freeA_false {aft : List Nat} {who inn k i a : Nat} (h : aft[i]? = some a) (h1 : who.testBit i = true) (h2 : inn.testBit i = false) (h3 : a.testBit k = true) : freeA aft who inn k = false := by
  cases hf : freeA aft who inn k with
  | false => rfl
  | true =>
    have := List.all_eq_true.1 hf i (List.mem_range.2 (List.getElem?_eq_some_iff.1 h).1)
    rw [List.getD_eq_getElem?_getD, h] at this
    simp [h1, h2, h3] at this
set_option maxRecDepth 100000 in
set_option maxHeartbeats 4000000 in
theorem free_c (aft : List Nat) (who inn k : Nat) (b : Nat) (hv av : Value) (c : Nat) (left steps : Int) (w : World) (ha : ∀ a, a ∈ aft → a < 2 ^ 32) (hwho : who < 2 ^ 32) (hinn : inn < 2 ^ 32)
    (hb : SB b hv av who c left steps w) (hav : In kU32 w av aft) (hl : aft.length ≤ 6) (hk : k < 6) :
    Calls Tryd.prog 97 #[.pointer (some ⟨b, 0, none⟩), .int .u32 inn, .int .i64 k] w fun e w' => e = .returned (.bool (freeA aft who inn k)) ∧ w' = w := by
  obtain ⟨A, ac, rfl, hac, hC⟩ := hav
  replace hC := Aside0.mk hC
  replace ha := Aside0.mk ha
  have c1 := blk_cell hb 1
  have c2 := blk_cell hb 2
  simp only [List.getElem?_toArray, List.getElem?_cons_zero, List.getElem?_cons_succ] at c1 c2
  have hnot := u32_andNot hwho hinn
  have hbit := Aside0.mk (fun i => u32_bit (bnot_lt (b := inn) hwho) i)
  have hbb := Aside0.mk (fun i => bnot_bit hinn hwho i)
  clear hb
  replace hwho := Aside0.mk hwho
  replace hinn := Aside0.mk hinn
  go_enter Tryd.func97, Tryd.ntmps97
  go_wp2
  go_loopw [6, 7, 8, 14] (fun _ _ _ i wr => ∃ j : Nat, j ≤ aft.length ∧ i = .int .i64 j ∧ wr = w ∧ Aside0 (∀ i, i < j → ((who.testBit i && !inn.testBit i) && (aft.getD i 0).testBit k) = false)) (fun _ _ _ i _ => aft.length - (intOf i).toNat)
  case atStart => exact ⟨0, Nat.zero_le _, rfl, rfl, ⟨fun i hi => absurd hi (Nat.not_lt_zero _)⟩⟩
  case round =>
    obtain ⟨j, hj, rfl, rfl, hno⟩ := hrel
    by_cases hlt : j < aft.length
    · obtain ⟨ad, x, rfl, hx, c0⟩ := get_u32 hC.out j hlt
      have hx32 := Aside0.mk (ha.out x (List.mem_of_getElem? hx.out))
      have hbj := hbit.out j
      have hbj2 := Aside0.mk (hbb.out j)
      have hxb := u32_bit hx32.out k
      cases hw : (bnot who inn).testBit j with
      | false =>
        rw [hw] at hbj
        replace hbj : Go.bits BinOp.and IntKind.u32 (((bnot who inn : Nat) : Int) / 2 ^ j) 1 = 0 := hbj
        have hnext := Aside0.mk (show ((who.testBit j && !inn.testBit j) && (aft.getD j 0).testBit k) = false by rw [← hbj2.out, hw]; rfl)
        replace hw := Aside0.mk hw
        replace hxb := Aside0.mk hxb
        go_wp2
        go_roundw
        case rel =>
          refine ⟨j + 1, by omega, by go_num, by simp, ⟨fun i hi => ?_⟩⟩
          rcases Nat.lt_succ_iff_lt_or_eq.1 hi with h | rfl
          · exact hno.out i h
          · exact hnext.out
        case measure => simp [intOf]; omega
      | true =>
        rw [hw] at hbj
        replace hbj : Go.bits BinOp.and IntKind.u32 (((bnot who inn : Nat) : Int) / 2 ^ j) 1 = 1 := hbj
        cases hxk : x.testBit k with
        | false =>
          rw [hxk] at hxb
          replace hxb : Go.bits BinOp.and IntKind.u32 (((x : Nat) : Int) / 2 ^ k) 1 = 0 := hxb
          have hnext := Aside0.mk (show ((who.testBit j && !inn.testBit j) && (aft.getD j 0).testBit k) = false by rw [List.getD_eq_getElem?_getD, hx.out]; simp [hxk])
          replace hw := Aside0.mk hw
          replace hxk := Aside0.mk hxk
          go_wp2
          go_roundw
          case rel =>
            refine ⟨j + 1, by omega, by go_num, by simp, ⟨fun i hi => ?_⟩⟩
            rcases Nat.lt_succ_iff_lt_or_eq.1 hi with h | rfl
            · exact hno.out i h
            · exact hnext.out
          case measure => simp [intOf]; omega
        | true =>
          rw [hxk] at hxb
          replace hxb : Go.bits BinOp.and IntKind.u32 (((x : Nat) : Int) / 2 ^ k) 1 = 1 := hxb
          have hres := Aside0.mk (show freeA aft who inn k = false by
            rw [hw] at hbj2
            have h2 := hbj2.out
            have h3 : who.testBit j = true ∧ inn.testBit j = false := by simpa using h2.symm
            exact freeA_false hx.out h3.1 h3.2 hxk)
          replace hw := Aside0.mk hw
          replace hxk := Aside0.mk hxk
          go_wp2
          go_ret
          (rw [hres.out]; exact ⟨rfl, rfl⟩)
    · obtain rfl : j = aft.length := by omega
      have hres := Aside0.mk (show freeA aft who inn k = true by
        unfold freeA
        refine List.all_eq_true.2 fun i hi => ?_
        rw [hno.out i (List.mem_range.1 hi)]
        rfl)
      go_wp2
      go_ret
      (rw [hres.out]; exact ⟨rfl, rfl⟩)
end Go.Proofs.YtnogalajfccioaaDoor
