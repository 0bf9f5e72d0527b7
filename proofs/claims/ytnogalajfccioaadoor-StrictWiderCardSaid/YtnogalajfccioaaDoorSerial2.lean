/- Layer 12 (serial): from. -/
import Derived.Test.YtnogalajfccioaaDoorSerial
import Derived.Test.YtnogalajfccioaaDoorQuietB
import Derived.StillTailTactics
namespace Go.Proofs.YtnogalajfccioaaDoor
open Go.RowKit Go.Proofs.YtnogalajfccioaaDoorW.PrintWords
theorem natRow_of (row : List Nat) : natRow (row.map Int.ofNat) = row := by
  unfold natRow
  rw [List.map_map]
  have : (Int.toNat ∘ Int.ofNat) = id := by funext x; simp
  rw [this, List.map_id]
theorem dup_none {row : List Nat} (h : row.Nodup) : dup (row.map Int.ofNat) = false := by
  unfold dup
  rw [List.any_eq_false]
  intro i hi hc
  have hi2 : i < row.length := by simpa using hi
  rw [List.contains_iff_mem] at hc
  have e1 : (row.map Int.ofNat).getD i 0 = Int.ofNat row[i] := by simp [List.getD_eq_getElem?_getD, hi2]
  rw [e1, ← List.map_take] at hc
  obtain ⟨x, hx, hxe⟩ := List.mem_map.1 hc
  have hxe2 : x = row[i] := Int.ofNat.inj hxe
  obtain ⟨j, hj⟩ := List.mem_iff_getElem?.1 hx
  rw [List.getElem?_take] at hj
  split at hj
  · rename_i hji
    obtain ⟨hjl, he⟩ := List.getElem?_eq_some_iff.1 hj
    have := List.pairwise_iff_getElem.1 h j i hjl hi2 hji
    exact this (he.trans hxe2)
  · cases hj
theorem mayWhy_ok {h : List Ev} (hw : why h = 0) {row : List Nat} (hr : ∀ k, k ∈ row → k < (table h).length) (hn : row.Nodup) : mayWhy h (row.map Int.ofNat) = 0 := by
  have ht : tableOf h = table h := by simp [tableOf, hw]
  unfold mayWhy
  rw [if_neg (by simp [hw]), ht, if_neg, dup_none hn]
  · rfl
  · rw [Bool.not_eq_true, List.any_eq_false]
    intro x hx
    obtain ⟨k, hk, rfl⟩ := List.mem_map.1 hx
    have := hr k hk
    simp [odd]
    omega
theorem legalN_ok {h : List Ev} (hw : why h = 0) {row : List Nat} (hr : ∀ k, k ∈ row → k < (table h).length) (hn : row.Nodup) (c : Nat) : legalN h (row.map Int.ofNat) c = legal (table h) row c := by
  have ht : tableOf h = table h := by simp [tableOf, hw]
  unfold legalN
  rw [if_pos (mayWhy_ok hw hr hn), natRow_of, ht]
theorem after_get {l : List Txn} {i : Nat} (hi : i < l.length) : (after l)[i]? = some (mask l.length (before l i)) := by simp [after, hi]
theorem after_len (l : List Txn) : (after l).length = l.length := by simp [after]
theorem after_lt {l : List Txn} (hl : l.length ≤ 6) : ∀ a, a ∈ after l → a < 2 ^ 32 := fun a ha => by
  unfold after at ha
  obtain ⟨i, _, rfl⟩ := List.mem_map.1 ha
  exact Nat.lt_of_lt_of_le (mask_lt _ _) (Nat.pow_le_pow_right (by decide) (Nat.le_trans hl (by decide)))
theorem freeA_eq {l : List Txn} {who inn k : Nat} (hk : k < l.length) : freeA (after l) who inn k = freeB l who inn k := by
  have key : ∀ i, i < l.length → ((after l).getD i 0).testBit k = before l i k := fun i hi => by
    rw [List.getD_eq_getElem?_getD, after_get hi, Option.getD_some, mask_bit]
    simp [hk]
  unfold freeA freeB
  rw [after_len]
  rw [Bool.eq_iff_iff, List.all_eq_true, List.all_eq_true]
  constructor
  · intro h i hi
    have := h i hi
    rwa [key i (List.mem_range.1 hi)] at this
  · intro h i hi
    have := h i hi
    rwa [key i (List.mem_range.1 hi)]
/-- What is panicked: what was found. -/
def ended (v : Int) (row : Value) : Ending := .panicked [{ v := .iface 125 (.agg #[.int .i64 v, row]), recovered := false }]
def FromE (w0 : World) (w' : World) (e : Ending) : Out → Prop
  | .no => ∃ u, e = .returned u
  | .unknown => e = ended 2 (.slice none 0 0)
  | .yes row => ∃ rv, e = ended 0 rv ∧ Own (Kd.int .i64) 3 w0 w' rv (row.map Int.ofNat)
def FromR (w0 : World) (b : Nat) (hv av : Value) (who c : Nat) (tot : Int) (w : World) (r : Out × Nat) (e : Ending) (w' : World) : Prop :=
  FromE w0 w' e r.1 ∧ SB b hv av who c r.2 (tot - r.2) w' ∧ Only (Is b) w w'
theorem Own.is {α : Type} {d : Kd α} {e : Nat} {w0 w w1 : World} {v : Value} {xs : List α} {b : Nat} {cs : Array Value} {t : Nat} (h : Own d e w0 w v xs) (ho : Only (Is b) w w1) (hb : w.heap[b]? = some (.cells cs t (0, 0))) (ht : ∀ q, q ∈ e :: d.E → q ≠ t) : Own d e w0 w1 v xs :=
  h.only ho (fun k hk => by cases hk; exact ⟨cs, t, (0, 0), hb, ht⟩)
theorem below_is {B b : Nat} {w0 w w1 : World} (h : Below B w0 w) (ho : Only (Is b) w w1) (hB : B ≤ b) (hB2 : B ≤ w.heap.size) : Below B w0 w1 :=
  h.trans (ho.below hB2 (fun k hk => by cases hk; exact hB))
theorem nodup_len {n : Nat} {row : List Nat} (h : row.Nodup) (hr : ∀ k, k ∈ row → k < n) : row.length ≤ n := by
  have h2 : row ⊆ List.range n := fun k hk => List.mem_range.2 (hr k hk)
  have h3 := List.Nodup.length_le_of_subset h h2
  simpa using h3
theorem Tryd.run_panic (t : TypeId) (v : Value) (w : World) : (Instr.panic (.iface t v)).run Tryd.prog w = .halt (.panic (.iface t v)) w := rfl
set_option maxRecDepth 100000 in
set_option maxHeartbeats 4000000 in
theorem from_c {h : List Ev} (hw : why h = 0) {w0 : World} {hv av : Value} (hev : In kEv w0 hv h) (hk : Kinds w0) (hav : In kU32 w0 av (after (table h))) {b : Nat} (hlow : w0.heap.size ≤ b) {who c : Nat} (hwho : who < 2 ^ (table h).length) (hc : c < 2 ^ 32) :
    ∀ (n : Nat) (row : List Nat) (inn left : Nat) (tot : Int) (w : World) (rv : Value), row.length + n = (table h).length + 1 → (∀ k, k ∈ row → k < (table h).length ∧ inn.testBit k = true) → row.Nodup → inn < 2 ^ (table h).length →
    Below w0.heap.size w0 w → SB b hv av who c left (tot - left) w → Own (Kd.int .i64) 3 w0 w rv (row.map Int.ofNat) → left ≤ 1000000 → 0 ≤ tot → tot ≤ 2000000 →
    Calls Tryd.prog 73 #[.pointer (some ⟨b, 0, none⟩), rv, .int .u32 inn] w (FromR w0 b hv av who c tot w (fromF (table h) who c n row inn left)) := by
  have hl6 := table_len hw
  have hlt32 : ∀ x, x < 2 ^ (table h).length → x < 2 ^ 32 := fun x hx => Nat.lt_of_lt_of_le hx (Nat.pow_le_pow_right (by decide) (Nat.le_trans hl6 (by decide)))
  intro n
  induction n with
  | zero =>
    intro row inn left tot w rv hn hr hnd
    have := nodup_len hnd (fun k hk => (hr k hk).1)
    omega
  | succ n ih =>
    intro row inn left tot w rv hn hr hnd hinn hB hS hO hleft ht0 ht1
    have c1 := blk_cell hS 1
    have c2 := blk_cell hS 2
    simp only [List.getElem?_toArray, List.getElem?_cons_zero, List.getElem?_cons_succ] at c1 c2
    obtain ⟨rA, rc, erv⟩ := Kd.R_slice hO
    rw [List.length_map] at erv
    subst erv
    have hpan := Tryd.run_panic
    by_cases he : inn = who
    · have hres := Aside0.mk (show fromF (table h) who c (n + 1) row inn left = (.yes row, left) by rw [fromF, if_pos he])
      have heb : (((inn : Nat) : Int) == ((who : Nat) : Int)) = true := by rw [he]; simp
      rw [hres.out]
      clear ih
      replace hS := Aside0.mk hS
      replace hO := Aside0.mk hO
      replace hr := Aside0.mk hr
      go_enter Tryd.func73, Tryd.ntmps73
      go_wp2
      refine ⟨rfl, ⟨_, rfl, hO.out⟩, hS.out, Only.refl _ _⟩
    · have hres := Aside0.mk (show fromF (table h) who c (n + 1) row inn left = fromL (table h) who c n row inn (table h).length 0 left by rw [fromF, if_neg he])
      have heb : (((inn : Nat) : Int) == ((who : Nat) : Int)) = false := by
        rw [beq_eq_false_iff_ne]
        omega
      rw [hres.out]
      have hcl := hav.below hB
      obtain ⟨aA, ac, rfl, hac, hCa⟩ := hcl
      rw [after_len] at *
      replace hO := Aside0.mk hO
      replace hr := Aside0.mk hr
      replace hS := Aside0.mk hS
      replace hB := Aside0.mk hB
      replace ih := Aside0.mk ih
      replace hav := Aside0.mk hav
      replace hev := Aside0.mk hev
      replace hk := Aside0.mk hk
      replace hlt32 := Aside0.mk hlt32
      replace hCa := Aside0.mk hCa
      go_enter Tryd.func73, Tryd.ntmps73
      go_wp2
      go_loopw [6, 7, 8, 9, 24] (fun _ _ _ _ i wr => ∃ j lf : Nat, j ≤ (table h).length ∧ i = .int .i64 j ∧ lf ≤ left ∧ SB b hv (.slice aA (table h).length ac) who c lf (tot - lf) wr ∧ Aside0 (Only (Is b) w wr) ∧ Aside0 (fromL (table h) who c n row inn (table h).length 0 left = fromL (table h) who c n row inn ((table h).length - j) j lf)) (fun _ _ _ _ i _ => (table h).length - (intOf i).toNat)
      case atStart => exact ⟨0, left, Nat.zero_le _, rfl, Nat.le_refl _, hS.out, ⟨Only.refl _ _⟩, ⟨rfl⟩⟩
      case round =>
        obtain ⟨j, lf, hj, rfl, hlf, hSr, hon, hrun⟩ := hrel
        by_cases hlt : j < (table h).length
        · have hd : (table h).length - j = ((table h).length - (j + 1)) + 1 := by omega
          have hstep := Aside0.mk (fromL_succ (table h) who c n row inn ((table h).length - (j + 1)) j lf)
          rw [← hd] at hstep
          have hwho32 := hlt32.out who hwho
          have hinn32 := hlt32.out inn hinn
          have hnot := u32_andNot hwho32 hinn32
          have hbj := u32_bit (bnot_lt (b := inn) hwho32) j
          have hbb := bnot_bit hinn32 hwho32 j
          have hj6 : j < 6 := by omega
          have hBr := Aside0.mk (below_is hB.out hon.out hlow hB.out.size)
          have d0 := blk_cell hSr 0
          have d1 := blk_cell hSr 1
          have d2 := blk_cell hSr 2
          have d3 := blk_cell hSr 3
          have d4 := blk_cell hSr 4
          have d5 := blk_cell hSr 5
          have f4 := blk_frozen hSr 4
          have f5 := blk_frozen hSr 5
          simp only [List.getElem?_toArray, List.getElem?_cons_zero, List.getElem?_cons_succ] at d0 d1 d2 d3 d4 d5
          have hfree := Aside0.mk (free_c (after (table h)) who inn j b hv (.slice aA (table h).length ac) c lf (tot - lf) wr (after_lt hl6) hwho32 hinn32 hSr (hav.out.below hBr.out) (by rw [after_len]; exact hl6) hj6)
          rw [freeA_eq hlt] at hfree
          replace hwho32 := Aside0.mk hwho32
          replace hinn32 := Aside0.mk hinn32
          replace hSr := Aside0.mk hSr
          clear c1 c2
          cases hbit : (bnot who inn).testBit j with
          | false =>
            rw [hbit] at hbj
            replace hbj : Go.bits BinOp.and IntKind.u32 (((bnot who inn : Nat) : Int) / 2 ^ j) 1 = 0 := hbj
            have hnx := Aside0.mk (hrun.out.trans (hstep.out.trans (if_neg (by rw [← hbb, hbit]; simp))))
            replace hbit := Aside0.mk hbit
            replace hbb := Aside0.mk hbb
            go_wp2
            go_roundw
            case rel => exact ⟨j + 1, lf, by omega, by go_num, hlf, hSr.out, hon, ⟨hnx.out⟩⟩
            case measure => simp [intOf]; omega
          | true =>
            rw [hbit] at hbj
            replace hbj : Go.bits BinOp.and IntKind.u32 (((bnot who inn : Nat) : Int) / 2 ^ j) 1 = 1 := hbj
            cases hfr : freeB (table h) who inn j with
            | false =>
              rw [hfr] at hfree
              have hnx := Aside0.mk (hrun.out.trans (hstep.out.trans (if_neg (by rw [hfr]; simp))))
              replace hbit := Aside0.mk hbit
              replace hbb := Aside0.mk hbb
              replace hfr := Aside0.mk hfr
              go_wp2_with (go_at_call 97; refine hfree.out.mono ?_; clear hfree; rintro e w3 ⟨rfl, rfl⟩)
              go_roundw
              case rel => exact ⟨j + 1, lf, by omega, by go_num, hlf, hSr.out, hon, ⟨hnx.out⟩⟩
              case measure => simp [intOf]; omega
            | true =>
              rw [hfr] at hfree
              have hnx := Aside0.mk (hrun.out.trans (hstep.out.trans (if_pos (by rw [← hbb, hbit, hfr]; rfl))))
              replace hbit := Aside0.mk hbit
              have hbi : inn.testBit j = false := by have := hbit.out; rw [hbb] at this; simpa using (Bool.and_eq_true_iff.1 this).2
              replace hbi := Aside0.mk hbi
              replace hbb := Aside0.mk hbb
              replace hfr := Aside0.mk hfr
              cases lf with
              | zero =>
                go_wp2_with (go_at_call 97; refine hfree.out.mono ?_; clear hfree; rintro e w3 ⟨rfl, rfl⟩)
                refine ⟨rfl, ?_, ?_, ?_⟩
                all_goals try rw [hnx.out]
                · exact rfl
                · exact hSr.out
                · exact hon.out
              | succ lf =>
                go_wp2_with (go_at_call 97; refine hfree.out.mono ?_; clear hfree; rintro e w3 ⟨rfl, rfl⟩)
                have eT : tot - ((lf : Int) + 1) + 1 = tot - lf := by omega
                rw [eT]
                obtain ⟨W, hWe⟩ : ∃ W, W = (w3.setCell ⟨b, 4, none⟩ (.int .i64 lf)).setCell ⟨b, 5, none⟩ (.int .i64 (tot - lf)) := ⟨_, rfl⟩
                rw [← hWe]
                have hSW : SB b hv (.slice aA (table h).length ac) who c lf (tot - lf) W := by
                  rw [hWe]
                  exact blk_put (blk_put hSr.out 4 (.int .i64 lf) rfl) 5 (.int .i64 (tot - lf)) rfl
                have hOW : Only (Is b) w3 W := by
                  rw [hWe]
                  exact Only.setb rfl (Only.setb rfl (Only.refl _ _))
                clear hWe d0 d1 d2 d3 d4 d5 f4 f5 hnot hbj
                have hOr := (hO.out.is hon.out hS.out (by simp [Kd.int, Kd.scalar])).is hOW hSr.out (by simp [Kd.int, Kd.scalar])
                have hBW := below_is hBr.out hOW hlow hBr.out.size
                have hjr : j ∉ row := fun hm => by have := (hr.out j hm).2; rw [hbi.out] at this; cases this
                have hnd2 : (row ++ [j]).Nodup := by
                  rw [List.nodup_append]
                  exact ⟨hnd, by simp, fun a ha b hb => by simp at hb; subst hb; exact fun e => hjr (e ▸ ha)⟩
                have hr2 : ∀ k, k ∈ row ++ [j] → k < (table h).length ∧ (inn ||| 2 ^ j).testBit k = true := fun k hk => by
                  rcases List.mem_append.1 hk with hk | hk
                  · have := hr.out k hk
                    exact ⟨this.1, by rw [Nat.testBit_or, this.2]; rfl⟩
                  · have : k = j := by simpa using hk
                    subst this
                    exact ⟨hlt, by rw [Nat.testBit_or, Nat.testBit_two_pow_self]; simp⟩
                have hlegN := legalN_ok hw (fun k hk => (hr2 k hk).1) hnd2 c
                have hmapj : (row ++ [j]).map Int.ofNat = row.map Int.ofNat ++ [(j : Int)] := by simp
                rw [hmapj] at hlegN
                have hrl : row.length ≤ 6 := Nat.le_trans (nodup_len hnd (fun k hk => (hr.out k hk).1)) hl6
                have hCr := (Kd.R_reads' hOr).2.2
                have hnone : rA = none → row.length = 0 := fun e => by
                  rcases Nat.eq_zero_or_pos row.length with h0 | h0
                  · exact h0
                  · obtain ⟨ad, he, _⟩ := hCr.2.2 (by simpa using h0)
                    rw [e] at he
                    cases he
                replace hSW := Aside0.mk hSW
                replace hOW := Aside0.mk hOW
                replace hOr := Aside0.mk hOr
                replace hBW := Aside0.mk hBW
                replace hnd2 := Aside0.mk hnd2
                replace hr2 := Aside0.mk hr2
                replace hmapj := Aside0.mk hmapj
                replace hCr := Aside0.mk hCr
                replace hnone := Aside0.mk hnone
                replace hlegN := Aside0.mk hlegN
                have hrc : row.length ≤ rc := by
                  obtain ⟨A, c', e, hle, _⟩ := Kd.R_reads hOr.out
                  simp at e
                  simp at hle
                  omega
                refine (clip_c rA row.length rc W hrc).mono ?_
                rintro e w4 ⟨rfl, rfl⟩
                go_wp2_with (at_builtin; refine append_clip rfl (.tmp 66) (.tmp 68) 31 3 rfl Tryd.underlying31 Tryd.info_int rA row.length (row.map Int.ofNat) (j : Int) rfl rfl hCr.out (by simp) hnone.out (by omega) ?_; intro v1 w5 hO1 hB1; obtain ⟨vA, vc, ev1⟩ := Kd.R_slice hO1; rw [show (row.map Int.ofNat ++ [(j : Int)]).length = row.length + 1 by simp] at ev1; subst ev1; replace hO1 := Aside0.mk hO1; replace hB1 := Aside0.mk hB1)
                have e0 := blk_cell (blk_below hSW.out hB1.out) 0
                have e3 := blk_cell (blk_below hSW.out hB1.out) 3
                simp only [List.getElem?_toArray, List.getElem?_cons_zero, List.getElem?_cons_succ] at e0 e3
                refine region_qb (by kernel_rfl) (by kernel_rfl) ?_
                iterate 9
                  refine quiet_go rfl ?_
                  apply Exists.intro
                  refine ⟨fun V hV => ?_, ?_⟩
                  focus
                    have e0' := hV.cell e0
                    have e3' := hV.cell e3
                    go_simp
                    try rfl
                refine quiet_go rfl ⟨.tuple #[.int .i64 (legalN h (row.map Int.ofNat ++ [(j : Int)]) c : Nat), .int .i64 (mayWhy h (row.map Int.ofNat ++ [(j : Int)]))], fun V hV => ?_, ?_⟩
                focus
                  have hVB := below_step (below_step hBW.out hB1.out) hV
                  have hL := Legal_c h (row.map Int.ofNat ++ [(j : Int)]) c hv (.slice vA (row.length + 1) vc) V (hev.out.below hVB) (hO1.out.inn.below hV) hc (hk.out.below hVB)
                  refine quiet_call (f := 12) (args := #[hv, .slice vA (row.length + 1) vc, .int .u32 c]) (by go_simp) (hL.mono ?_)
                  rintro e W' ⟨rfl, hb⟩
                  exact ⟨rfl, below_step hV hb⟩
                iterate 5
                  refine quiet_go rfl ?_
                  apply Exists.intro
                  refine ⟨fun V hV => ?_, ?_⟩
                  focus
                    go_simp
                    try rfl
                refine wpQuiet_nil ?_
                intro w6 hB6
                rw [hlegN.out]
                go_simp
                have hS6 := Aside0.mk (blk_below (blk_below hSW.out hB1.out) hB6 : SB b hv (.slice aA (table h).length ac) who c lf (tot - lf) w6)
                have hOn6 := Aside0.mk (((hon.out.trans hOW.out).trans (Only.of_below hB1.out)).trans (Only.of_below hB6))
                have hBB6 := Aside0.mk (below_step (below_step hBW.out hB1.out) hB6)
                have hOv := Aside0.mk (show Own (Kd.int .i64) 3 w0 w6 (.slice vA (row.length + 1) vc) ((row ++ [j]).map Int.ofNat) by rw [hmapj.out]; exact (hO1.out.below hB6).lower hBW.out.size)
                replace hB6 := Aside0.mk hB6
                clear e0 e3
                obtain ⟨L, hL⟩ : ∃ L, legal (table h) (row ++ [j]) c = L := ⟨_, rfl⟩
                rw [hL] at hnx ⊢
                replace hL := Aside0.mk hL
                by_cases hlg : L = row.length + 1
                · subst hlg
                  cases hf : fromF (table h) who c n (row ++ [j]) (inn ||| 2 ^ j) lf with
                  | mk o x =>
                    have hih := ih.out (row ++ [j]) (inn ||| 2 ^ j) lf tot w6 (.slice vA (row.length + 1) vc) (by simp; omega) hr2.out hnd2.out (Nat.or_lt_two_pow hinn (Nat.pow_lt_pow_right (by decide) hlt)) hBB6.out hS6.out hOv.out (by omega) ht0 ht1
                    rw [hf] at hih
                    have hnx2 := hnx.out.trans (if_pos rfl)
                    simp only [hf] at hnx2
                    have hcost := from_costs (table h) who c n (row ++ [j]) (inn ||| 2 ^ j) lf
                    rw [hf] at hcost
                    have hxl : x ≤ lf := hcost.1
                    clear hcost hnx hstep
                    replace hnx2 := Aside0.mk hnx2
                    replace hih := Aside0.mk hih
                    replace hf := Aside0.mk hf
                    have hor := u32_or hinn32.out (u32_pow (show j < 32 by omega))
                    have hsh := u32_shl1m (show j < 32 by omega)
                    replace hor := Aside0.mk hor
                    replace hsh := Aside0.mk hsh
                    go_wp2_with (go_at_call 73; fail)
                    rw [hsh.out, hor.out]
                    refine hih.out.mono ?_
                    rintro e w7 ⟨hE, hS7, hO7⟩
                    cases o with
                    | no =>
                      obtain ⟨u, rfl⟩ := hE
                      have hS7' := Aside0.mk hS7
                      replace hO7 := Aside0.mk hO7
                      clear hS7
                      go_wp2
                      go_roundw
                      case rel => exact ⟨j + 1, x, by omega, by go_num, by omega, hS7'.out, ⟨hOn6.out.trans hO7.out⟩, ⟨hnx2.out⟩⟩
                      case measure => simp [intOf]; omega
                    | unknown =>
                      have hE' : e = ended 2 (.slice none 0 0) := hE
                      subst hE'
                      refine ⟨rfl, ?_, ?_, ?_⟩
                      all_goals try rw [hnx2.out]
                      · exact rfl
                      · exact hS7
                      · exact hOn6.out.trans hO7
                    | yes r =>
                      obtain ⟨rv, rfl, hrv⟩ : ∃ rv, e = ended 0 rv ∧ Own (Kd.int .i64) 3 w0 w7 rv (r.map Int.ofNat) := hE
                      refine ⟨rfl, ?_, ?_, ?_⟩
                      all_goals try rw [hnx2.out]
                      · exact ⟨rv, rfl, hrv⟩
                      · exact hS7
                      · exact hOn6.out.trans hO7
                · have hnx2 := Aside0.mk (hnx.out.trans (if_neg hlg))
                  have hlg2 : (((L : Nat) : Int) == (row.length : Int) + 1) = false := by
                    rw [beq_eq_false_iff_ne]
                    omega
                  clear hnx hstep ih
                  go_wp2
                  go_roundw
                  case rel => exact ⟨j + 1, lf, by omega, by go_num, by omega, hS6.out, hOn6, ⟨hnx2.out⟩⟩
                  case measure => simp [intOf]; omega
        · obtain rfl : j = (table h).length := by omega
          replace hSr := Aside0.mk hSr
          go_wp2
          go_end0
          refine ⟨?_, ?_, ?_⟩
          all_goals try rw [hrun.out, Nat.sub_self, fromL_zero]
          · exact ⟨_, rfl⟩
          · exact hSr.out
          · exact hon.out
end Go.Proofs.YtnogalajfccioaaDoor
