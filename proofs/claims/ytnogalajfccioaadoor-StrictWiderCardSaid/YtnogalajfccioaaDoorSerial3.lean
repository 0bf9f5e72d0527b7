/- Layer 12 (serial): search. -/
import Derived.Test.YtnogalajfccioaaDoorSerial2
import Derived.Recover
namespace Go.Proofs.YtnogalajfccioaaDoor
open Go.RowKit Go.Proofs.YtnogalajfccioaaDoorW.PrintWords
theorem only_set {p : Nat} {w w1 : World} (h : Only (Is p) w w1) (j : Nat) (u : Value) : Only (Is p) w (w1.setCell ⟨p, j, none⟩ u) := Only.setb (S := Is p) rfl h
theorem Tryd.assert_ends (v : Value) (w : World) : (Instr.typeAssert (.iface 125 v) 20 125 true).run Tryd.prog w = .ok (.tuple #[v, .bool true]) w := by kernel_rfl
theorem wpS_abs {P : Program} {Q : Exit → Act → List Frame → World → Prop} {a : Act} {cs : List Frame} {w : World} {c : Code} (R : Act → World → Prop)
    (h : ∀ Q' : Exit → Act → World → Prop, (∀ a' w', R a' w' → Q' .normal a' w') → c.wp P Q' a w) (hR : ∀ a' w', R a' w' → Q .normal a' cs w') : c.wpS P Q a cs w := wpS_of_wp (h _ hR)
set_option maxRecDepth 100000 in
set_option maxHeartbeats 200000 in
theorem search1_ret (b p1 p2 : Nat) (hv av : Value) (who c : Nat) (left steps : Int) (w : World) (hS : SB b hv av who c left steps w) (h1 : w.heap[p1]? = some (.cells #[.pointer (some ⟨b, 0, none⟩)] 92 (0, 0)))
    (h2 : w.heap[p2]? = some (.cells #[.int .i64 0, .int .u32 0, .slice none 0 0, .int .i64 0] 43 (0, 0))) :
    CallsD Tryd.prog 72 #[.pointer (some ⟨p1, 0, none⟩), .pointer (some ⟨p2, 0, none⟩)] .returning w fun e u' w' =>
      e = .returned (.tuple #[]) ∧ u' = .returning ∧ Only (Is p2) w w' ∧ w'.heap[p2]? = some (.cells #[.int .i64 1, .int .u32 0, .slice none 0 0, .int .i64 steps] 43 (0, 0)) := by
  have d0 := blk_cell h1 0
  have d5 := blk_cell hS 5
  have f0 := fun j => blk_frozen h2 j
  have q0 := blk_cell h2 0
  have q1 := blk_cell h2 1
  have q2 := blk_cell h2 2
  have q3 := blk_cell h2 3
  simp only [List.getElem?_toArray, List.getElem?_cons_zero, List.getElem?_cons_succ] at d0 d5 q0 q1 q2 q3
  refine callsD_of_wpS Tryd.func72 rfl fun c₀ cs hu => ?_
  apply wpS_seq
  apply wpS_region
  simp only [Tryd.ntmps72, List.size_toArray, List.length_cons, List.length_nil, Nat.reduceAdd, Nat.reduceSub, Array.replicate_succ, Array.replicate_zero, List.push_toArray, List.append_toArray, List.nil_append, List.cons_append]
  simp [wpOpsS, go_sem, recoverD, hu, Exit.thenS]
  refine wpS_abs (fun a' w' => a'.defers = [] ∧ Only (Is p2) w w' ∧ w'.heap[p2]? = some (.cells #[.int .i64 1, .int .u32 0, .slice none 0 0, .int .i64 steps] 43 (0, 0))) (fun Q' hQ => ?_) ?_
  · clear hu
    go_wp2
    exact ⟨only_set (only_set (only_set (only_set (Only.refl _ _) _ _) _ _) _ _) _ _, blk_put (blk_put (blk_put (blk_put h2 0 _ rfl) 1 _ rfl) 2 _ rfl) 3 _ rfl⟩
  · rintro a' w' ⟨hd, hO, hb⟩
    refine ⟨hd, .returning, ?_, _, results_none rfl _ _ _, rfl, rfl, hO, hb⟩
    cases c₀
    simp only at hu
    subst hu
    rfl
set_option maxRecDepth 100000 in
set_option maxHeartbeats 400000 in
theorem search1_panics (b p1 p2 : Nat) (hv av : Value) (who c : Nat) (left steps v : Int) (A : Option Addr) (n cp : Nat) (w : World) (hS : SB b hv av who c left steps w) (h1 : w.heap[p1]? = some (.cells #[.pointer (some ⟨b, 0, none⟩)] 92 (0, 0)))
    (h2 : w.heap[p2]? = some (.cells #[.int .i64 0, .int .u32 0, .slice none 0 0, .int .i64 0] 43 (0, 0))) :
    CallsD Tryd.prog 72 #[.pointer (some ⟨p1, 0, none⟩), .pointer (some ⟨p2, 0, none⟩)] (.panicking [{ v := .iface 125 (.agg #[.int .i64 v, .slice A n cp]), recovered := false }]) w fun e u' w' =>
      e = .returned (.tuple #[]) ∧ u' = .panicking [{ v := .iface 125 (.agg #[.int .i64 v, .slice A n cp]), recovered := true }] ∧ Only (Is p2) w w' ∧ w'.heap[p2]? = some (.cells #[.int .i64 v, .int .u32 (if v = 0 then c else 0 : Nat), if v = 0 then .slice A n cp else .slice none 0 0, .int .i64 steps] 43 (0, 0)) := by
  have d0 := blk_cell h1 0
  have d3 := blk_cell hS 3
  have d5 := blk_cell hS 5
  have f0 := fun j => blk_frozen h2 j
  have q0 := blk_cell h2 0
  have q1 := blk_cell h2 1
  have q2 := blk_cell h2 2
  have q3 := blk_cell h2 3
  simp only [List.getElem?_toArray, List.getElem?_cons_zero, List.getElem?_cons_succ] at d0 d3 d5 q0 q1 q2 q3
  refine callsD_of_wpS Tryd.func72 rfl fun c₀ cs hu => ?_
  apply wpS_seq
  apply wpS_region
  simp only [Tryd.ntmps72, List.size_toArray, List.length_cons, List.length_nil, Nat.reduceAdd, Nat.reduceSub, Array.replicate_succ, Array.replicate_zero, List.push_toArray, List.append_toArray, List.nil_append, List.cons_append]
  simp [wpOpsS, go_sem, recoverD, hu, Exit.thenS]
  refine wpS_abs (fun a' w' => a'.defers = [] ∧ Only (Is p2) w w' ∧ w'.heap[p2]? = some (.cells #[.int .i64 v, .int .u32 (if v = 0 then c else 0 : Nat), if v = 0 then .slice A n cp else .slice none 0 0, .int .i64 steps] 43 (0, 0))) (fun Q' hQ => ?_) ?_
  · clear hu
    have hta := Tryd.assert_ends
    go_wp2
    obtain ⟨V, hV⟩ : ∃ V, V = w.alloc (.cells #[.int .i64 v, .slice A n cp] 125) := ⟨_, rfl⟩
    rw [← hV]
    have hVB : Below w.heap.size w V := by rw [hV]; exact below_alloc (Below.refl _ _) _
    have hVn : V.heap[w.heap.size]? = some (.cells #[.int .i64 v, .slice A n cp] 125 (0, 0)) := by rw [hV]; exact blk_new _ _
    have hV2 := blk_below h2 hVB
    clear hV d0 d3 d5 f0 q0 q1 q2 q3
    have d0 := blk_cell (blk_below h1 hVB) 0
    have d3 := blk_cell (blk_below hS hVB) 3
    have d5 := blk_cell (blk_below hS hVB) 5
    have f0 := fun j => blk_frozen hV2 j
    have q0 := blk_cell hV2 0
    have q1 := blk_cell hV2 1
    have q2 := blk_cell hV2 2
    have q3 := blk_cell hV2 3
    have e0 := blk_cell hVn 0
    have e1 := blk_cell hVn 1
    simp only [List.getElem?_toArray, List.getElem?_cons_zero, List.getElem?_cons_succ] at d0 d3 d5 q0 q1 q2 q3 e0 e1
    have hne : ¬ w.heap.size = p2 := by have := blk_lt h2; omega
    have hne1 : ¬ p1 = p2 := fun e => by rw [e, h2] at h1; simp at h1
    have hne2 : ¬ b = p2 := fun e => by have h3 : w.heap[b]? = _ := hS; rw [e, h2] at h3; simp at h3
    go_still_tail 7, (by kernel_rfl)
    have hW2 : ((((V.setCell ⟨p2, 0, none⟩ (.int .i64 v)).setCell ⟨p2, 1, none⟩ (.int .u32 0)).setCell ⟨p2, 2, none⟩ (.slice none 0 0)).setCell ⟨p2, 3, none⟩ (.int .i64 steps)).heap[p2]? = some (.cells #[.int .i64 v, .int .u32 0, .slice none 0 0, .int .i64 steps] 43 (0, 0)) :=
      blk_put (blk_put (blk_put (blk_put hV2 0 (.int .i64 v) rfl) 1 (.int .u32 0) rfl) 2 (.slice none 0 0) rfl) 3 (.int .i64 steps) rfl
    have hOn : Only (Is p2) w ((((V.setCell ⟨p2, 0, none⟩ (.int .i64 v)).setCell ⟨p2, 1, none⟩ (.int .u32 0)).setCell ⟨p2, 2, none⟩ (.slice none 0 0)).setCell ⟨p2, 3, none⟩ (.int .i64 steps)) :=
      only_set (only_set (only_set (only_set (Only.of_below hVB) _ _) _ _) _ _) _ _
    replace hV2 := Aside0.mk hV2
    replace hVn := Aside0.mk hVn
    replace hVB := Aside0.mk hVB
    replace h1 := Aside0.mk h1
    replace h2 := Aside0.mk h2
    replace hS := Aside0.mk hS
    by_cases hv0 : v = 0
    · subst hv0
      replace hW2 := Aside0.mk hW2
      replace hOn := Aside0.mk hOn
      go_wp2
      have k0 : World.cell? ((((V.setCell ⟨p2, 0, none⟩ (.int .i64 0)).setCell ⟨p2, 1, none⟩ (.int .u32 0)).setCell ⟨p2, 2, none⟩ (.slice none 0 0)).setCell ⟨p2, 3, none⟩ (.int .i64 steps)) ⟨p1, 0, none⟩ = some (.pointer (some ⟨b, 0, none⟩)) := by
        have := hOn.out.block p1 (blk_lt h1.out) hne1
        unfold World.cell?
        rw [this, h1.out]
        rfl
      have k3 : World.cell? ((((V.setCell ⟨p2, 0, none⟩ (.int .i64 0)).setCell ⟨p2, 1, none⟩ (.int .u32 0)).setCell ⟨p2, 2, none⟩ (.slice none 0 0)).setCell ⟨p2, 3, none⟩ (.int .i64 steps)) ⟨b, 3, none⟩ = some (.int .u32 c) := by
        have := hOn.out.block b (blk_lt hS.out) hne2
        have h9 : w.heap[b]? = _ := hS.out
        unfold World.cell?
        rw [this, h9]
        rfl
      have k1 : World.cell? ((((V.setCell ⟨p2, 0, none⟩ (.int .i64 0)).setCell ⟨p2, 1, none⟩ (.int .u32 0)).setCell ⟨p2, 2, none⟩ (.slice none 0 0)).setCell ⟨p2, 3, none⟩ (.int .i64 steps)) ⟨w.heap.size, 1, none⟩ = some (.slice A n cp) := by
        unfold World.cell?
        rw [Below.heap_setCell _ _ _ _ hne, Below.heap_setCell _ _ _ _ hne, Below.heap_setCell _ _ _ _ hne, Below.heap_setCell _ _ _ _ hne, hVn.out]
        rfl
      clear d0 d3 d5 f0 q0 q1 q2 q3 e0 e1
      have q1 := blk_cell hW2.out 1
      have q2 := blk_cell hW2.out 2
      have f1 := blk_frozen hW2.out 1
      have f2 := blk_frozen hW2.out 2
      simp only [List.getElem?_toArray, List.getElem?_cons_zero, List.getElem?_cons_succ] at q1 q2
      generalize (((V.setCell ⟨p2, 0, none⟩ (.int .i64 0)).setCell ⟨p2, 1, none⟩ (.int .u32 0)).setCell ⟨p2, 2, none⟩ (.slice none 0 0)).setCell ⟨p2, 3, none⟩ (.int .i64 steps) = U at *
      simp only [if_true] at hQ
      go_region
      exact hQ _ _ ⟨rfl, (only_set (only_set hOn.out _ _) _ _).drew.drew, blk_drew (blk_drew (blk_put (blk_put hW2.out 1 (.int .u32 c) rfl) 2 (.slice A n cp) rfl))⟩
    · have hv1 : (v == 0) = false := by simpa using hv0
      rw [if_neg hv0, if_neg hv0] at hQ
      replace hW2 := Aside0.mk hW2
      replace hOn := Aside0.mk hOn
      clear hv0
      go_wp2
      exact ⟨hOn.out.drew, blk_drew hW2.out⟩
  · rintro a' w' ⟨hd, hO, hb⟩
    exact ⟨hd, _, rfl, _, results_none rfl _ _ _, rfl, rfl, hO, hb⟩
def rowFound (left c : Nat) (r : Out × Nat) : Found := foundOf left (r.1, c, r.2)
def encFound (f : Found) (rv : Value) : Value := .agg #[.int .i64 f.verdict, .int .u32 f.commits, rv, .int .i64 f.steps]
set_option maxRecDepth 100000 in
set_option maxHeartbeats 400000 in
theorem search_c {h : List Ev} (hw : why h = 0) {w0 : World} {hv av : Value} (hev : In kEv w0 hv h) (hk : Kinds w0) (hav : In kU32 w0 av (after (table h))) {b : Nat} (hlow : w0.heap.size ≤ b) {who c : Nat} (hwho : who < 2 ^ (table h).length) (hc : c < 2 ^ 32)
    (left : Nat) (hleft : left ≤ 1000000) (w : World) (hB : Below w0.heap.size w0 w) (hS : SB b hv av who c left 0 w) :
    Calls Tryd.prog 46 #[.pointer (some ⟨b, 0, none⟩)] w fun e w' => ∃ rv, e = .returned (encFound (rowFound left c (rowF (table h) who c left)) rv) ∧ Own (Kd.int .i64) 3 w0 w' rv (rowFound left c (rowF (table h) who c left)).row ∧ Only (Is b) w w' := by
  have hmf : ∀ (fn : Fn) (first cap : Array Value) (w : World), (Instr.makeFunc fn first cap).run Tryd.prog w = .ok (.func fn first cap) w := fun _ _ _ _ => rfl
  obtain ⟨W, hW⟩ : ∃ W, W = (w.alloc (.cells #[.pointer (some ⟨b, 0, none⟩)] 92)).alloc (.cells #[.int .i64 0, .int .u32 0, .slice none 0 0, .int .i64 0] 43) := ⟨_, rfl⟩
  have hfrom := from_c hw hev hk hav hlow hwho hc ((table h).length + 1) [] 0 left left W (.slice none 0 0) (by simp) (fun k hk => by cases hk) List.nodup_nil (Nat.two_pow_pos _) (by rw [hW]; exact below_alloc (below_alloc hB _) _) (by rw [hW, Int.sub_self]; exact blk_alloc (blk_alloc hS _) _) (Own.nil _ _ _ _) hleft (by omega) (by omega)
  have hrow : rowF (table h) who c left = fromF (table h) who c ((table h).length + 1) [] 0 left := rfl
  rw [hrow]
  clear hrow
  generalize fromF (table h) who c ((table h).length + 1) [] 0 left = r at *
  obtain ⟨o, x⟩ := r
  replace hfrom := Aside0.mk hfrom
  replace hS := Aside0.mk hS
  go_enter_defers Tryd.func46, Tryd.ntmps46
  go_wp2_with (go_at_call 73; fail)
  rw [← hW]
  refine hfrom.out.mono ?_
  rintro e w3 ⟨hE, hS3, hO3⟩
  have hbl : b < w.heap.size := blk_lt hS.out
  have hp1 : w3.heap[w.heap.size]? = some (.cells #[.pointer (some ⟨b, 0, none⟩)] 92 (0, 0)) := by
    have h1 := blk_alloc (blk_new w (.cells #[.pointer (some ⟨b, 0, none⟩)] 92)) (.cells #[.int .i64 0, .int .u32 0, .slice none 0 0, .int .i64 0] 43)
    rw [← hW] at h1
    exact (hO3.block _ (blk_lt h1) (fun e => by have e2 : w.heap.size = b := e; omega)).trans h1
  have hp2 : w3.heap[w.heap.size + 1]? = some (.cells #[.int .i64 0, .int .u32 0, .slice none 0 0, .int .i64 0] 43 (0, 0)) := by
    have h1 := blk_new (w.alloc (.cells #[.pointer (some ⟨b, 0, none⟩)] 92)) (.cells #[.int .i64 0, .int .u32 0, .slice none 0 0, .int .i64 0] 43)
    rw [← hW, World.size_alloc] at h1
    exact (hO3.block _ (blk_lt h1) (fun e => by have e2 : w.heap.size + 1 = b := e; omega)).trans h1
  have hOb : Only (Is b) w w3 := by
    refine Only.trans ?_ hO3
    rw [hW]
    exact ((Only.refl _ _).alloc _).alloc _
  have hfin : ∀ w4, Only (Is (w.heap.size + 1)) w3 w4 → Only (Is b) w w4 := fun w4 hO4 =>
    ⟨hO4.os.trans hOb.os, hO4.tape.trans hOb.tape, hO4.output.trans hOb.output, Nat.le_trans hOb.size hO4.size, fun k hk hb => (hO4.block k (Nat.lt_of_lt_of_le hk hOb.size) (fun e => by have e2 : k = w.heap.size + 1 := e; omega)).trans (hOb.block k hk hb)⟩
  cases o with
  | no =>
    obtain ⟨u, rfl⟩ := hE
    replace hp1 := Aside0.mk hp1
    replace hp2 := Aside0.mk hp2
    replace hS3 := Aside0.mk hS3
    replace hfin := Aside0.mk hfin
    clear hO3 hOb
    go_wp2
    refine leaves_cons (f := 72) (args := #[.pointer (some ⟨w.heap.size, 0, none⟩), .pointer (some ⟨w.heap.size + 1, 0, none⟩)]) (by simp) (by simp [go_sem]) ?_
    refine (search1_ret b _ _ hv av who c _ _ _ hS3.out hp1.out hp2.out).mono ?_
    rintro e u' w4 ⟨rfl, rfl, hO4, hb4⟩
    refine ⟨_, results_cell_row rfl _ _ (w.heap.size + 1) _ _ _ _ rfl hb4 Tryd.underlying43 rfl (by kernel_rfl), .slice none 0 0, ?_, Own.nil _ _ _ _, hfin.out _ hO4⟩
    exact rfl
  | unknown =>
    have hE' : e = ended 2 (.slice none 0 0) := hE
    subst hE'
    refine leaves_cons (f := 72) (args := #[.pointer (some ⟨w.heap.size, 0, none⟩), .pointer (some ⟨w.heap.size + 1, 0, none⟩)]) (by simp) (by simp [go_sem]) ?_
    refine (search1_panics b _ _ hv av who c _ _ 2 none 0 0 _ hS3 hp1 hp2).mono ?_
    rintro e u' w4 ⟨rfl, rfl, hO4, hb4⟩
    refine ⟨_, results_cell_row rfl _ _ (w.heap.size + 1) _ _ _ _ rfl hb4 Tryd.underlying43 rfl (by kernel_rfl), .slice none 0 0, ?_, Own.nil _ _ _ _, hfin _ hO4⟩
    exact rfl
  | yes r =>
    obtain ⟨rv, hE1, hrv⟩ : ∃ rv, e = ended 0 rv ∧ Own (Kd.int .i64) 3 w0 w3 rv (r.map Int.ofNat) := hE
    subst hE1
    obtain ⟨rA, rc, erv⟩ := Kd.R_slice hrv
    subst erv
    refine leaves_cons (f := 72) (args := #[.pointer (some ⟨w.heap.size, 0, none⟩), .pointer (some ⟨w.heap.size + 1, 0, none⟩)]) (by simp) (by simp [go_sem]) ?_
    refine (search1_panics b _ _ hv av who c _ _ 0 rA _ rc _ hS3 hp1 hp2).mono ?_
    rintro e u' w4 ⟨rfl, rfl, hO4, hb4⟩
    refine ⟨_, results_cell_row rfl _ _ (w.heap.size + 1) _ _ _ _ rfl hb4 Tryd.underlying43 rfl (by kernel_rfl), .slice rA _ rc, ?_, hrv.is hO4 hp2 (by simp [Kd.int, Kd.scalar]), hfin _ hO4⟩
    exact rfl
end Go.Proofs.YtnogalajfccioaaDoor
