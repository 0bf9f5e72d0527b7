/- Layer 9 (completions): choices, Choices. -/
import Derived.Test.YtnogalajfccioaaDoorSort6
import Derived.Test.YtnogalajfccioaaDoorP4
namespace Go.Proofs.YtnogalajfccioaaDoor
open Go.RowKit Go.Proofs.YtnogalajfccioaaDoorW.PrintWords
theorem lit_own {e : Nat} {w0 W : World} (inner : Array Value) (n : Nat) (hb : w0.heap.size ≤ W.heap.size) (hn : inner.size = n) (hm : n ≤ 1000) :
    (W.alloc (.cells inner e)).ownsRow w0.heap.size e 1 (.slice (some ⟨W.heap.size, 0, none⟩) n n) n inner.toList :=
  World.ownsRow_lit (base := w0.heap.size) (e := e) (size := 1) W inner n hb (by simp [maxLen]; omega) (by simpa using hn)
theorem Own.lit_u32 {e : Nat} {w0 W : World} (xs : List Nat) (hb : w0.heap.size ≤ W.heap.size) (hm : xs.length ≤ 1000) :
    Own kU32 e w0 (W.alloc (.cells (xs.map (fun n : Nat => Value.int .u32 n)).toArray e)) (.slice (some ⟨W.heap.size, 0, none⟩) xs.length xs.length) xs :=
  Kd.R_of_own (enc := fun n : Nat => .int .u32 n) (h1 := fun _ => rfl) (by have := lit_own (e := e) (w0 := w0) (W := W) (xs.map (fun n : Nat => Value.int .u32 n)).toArray xs.length hb (by simp) hm; simpa [encs] using this) (fun _ _ => trivial)
theorem Own.lit_int {e : Nat} {w0 W : World} (xs : List Int) (hb : w0.heap.size ≤ W.heap.size) (hm : xs.length ≤ 1000) :
    Own (Kd.int .i64) e w0 (W.alloc (.cells (xs.map (fun n : Int => Value.int .i64 n)).toArray e)) (.slice (some ⟨W.heap.size, 0, none⟩) xs.length xs.length) xs :=
  Kd.R_of_own (enc := Value.int .i64) (h1 := fun _ => rfl) (by have := lit_own (e := e) (w0 := w0) (W := W) (xs.map (fun n : Int => Value.int .i64 n)).toArray xs.length hb (by simp) hm; simpa [encs] using this) (fun _ _ => trivial)
/-! ### subsets -/
theorem subsets_get {o i x : Nat} (h : (subsets o)[i]? = some x) : x &&& o = x ∧ x < 64 := by
  have := List.mem_of_getElem? h
  unfold subsets at this
  rw [List.mem_filter, List.mem_range] at this
  exact ⟨by simpa using this.2, this.1⟩
theorem subsets_pair (o : Nat) : (subsets o).Pairwise (· < ·) := List.Pairwise.filter _ List.pairwise_lt_range
theorem rises_of_pair {l : List Nat} (h : l.Pairwise (· < ·)) : Rises l := by
  intro i x y hx hy
  obtain ⟨h1, rfl⟩ := List.getElem?_eq_some_iff.1 hx
  obtain ⟨h2, rfl⟩ := List.getElem?_eq_some_iff.1 hy
  exact List.pairwise_iff_getElem.1 h _ _ h1 h2 (Nat.lt_succ_self i)
theorem subsets_pos {o i : Nat} (h0 : 1 ≤ i) (hi : i < (subsets o).length) : (subsets o).getD i 0 ≠ 0 := by
  have h1 := List.pairwise_iff_getElem.1 (subsets_pair o) 0 i (by omega) hi (by omega)
  rw [List.getD_eq_getElem?_getD, List.getElem?_eq_getElem hi]
  simp only [Option.getD_some]
  omega
theorem subsets_len (o : Nat) : (subsets o).length ≤ 64 := by
  unfold subsets
  refine Nat.le_trans (List.length_filter_le _ _) (by simp)
/-- The choices, as the program makes them. -/
def choicesOf (d o : Nat) : List Nat := (subsets o).map (d ||| ·)
theorem or_add_all : (List.range 64).all (fun d => (List.range 64).all fun a => !(d &&& a == 0) || (d ||| a == d + a)) = true := by decide +kernel
theorem or_add {d a : Nat} (hd : d < 64) (ha : a < 64) (h : d &&& a = 0) : d ||| a = d + a := by
  have := List.all_eq_true.1 (List.all_eq_true.1 or_add_all d (List.mem_range.2 hd)) a (List.mem_range.2 ha)
  simpa [h] using this
theorem choicesOf_rise {d o : Nat} (hd : d < 64) (h : d &&& o = 0) : (choicesOf d o).Pairwise (· < ·) := by
  unfold choicesOf
  rw [List.pairwise_map]
  refine List.Pairwise.imp_of_mem ?_ (subsets_pair o)
  intro a b ha hb hab
  have key : ∀ x, x ∈ subsets o → d ||| x = d + x := fun x hx => by
    obtain ⟨i, hi⟩ := List.mem_iff_getElem?.1 hx
    refine or_add hd (subsets_get hi).2 ?_
    rw [← (subsets_get hi).1, Nat.and_comm x o, ← Nat.and_assoc, h, Nat.zero_and]
  rw [key a ha, key b hb]
  omega
theorem choices_pair (l : List Txn) : (choices l).Pairwise (· < ·) := List.Pairwise.filter _ List.pairwise_lt_range
theorem pair_ext {a b : List Nat} (ha : a.Pairwise (· < ·)) (hb : b.Pairwise (· < ·)) (h : ∀ x, x ∈ a ↔ x ∈ b) : a = b := by
  induction a generalizing b with
  | nil =>
    cases b with
    | nil => rfl
    | cons y b => have := (h y).2 List.mem_cons_self; cases this
  | cons x a ih =>
    cases b with
    | nil => have := (h x).1 List.mem_cons_self; cases this
    | cons y b =>
      have ha1 := List.pairwise_cons.1 ha
      have hb1 := List.pairwise_cons.1 hb
      have hxy : x = y := by
        rcases List.mem_cons.1 ((h x).1 List.mem_cons_self) with e | e
        · exact e
        · rcases List.mem_cons.1 ((h y).2 List.mem_cons_self) with e2 | e2
          · exact e2.symm
          · have := hb1.1 x e
            have := ha1.1 y e2
            omega
      subst hxy
      congr 1
      refine ih ha1.2 hb1.2 fun z => ⟨fun hz => ?_, fun hz => ?_⟩
      · rcases List.mem_cons.1 ((h z).1 (List.mem_cons_of_mem _ hz)) with e | e
        · subst e; have := ha1.1 z hz; omega
        · exact e
      · rcases List.mem_cons.1 ((h z).2 (List.mem_cons_of_mem _ hz)) with e | e
        · subst e; have := hb1.1 z hz; omega
        · exact e
theorem bits_lt (l : List Txn) (s : Int) (hl : l.length ≤ 6) : bits l s < 64 := Nat.lt_of_lt_of_le (mask_lt _ _) (Nat.pow_le_pow_right (n := 2) (by omega) hl)
theorem bits_apart (l : List Txn) {s t : Int} (h : s ≠ t) : bits l s &&& bits l t = 0 := by
  apply Nat.eq_of_testBit_eq
  intro i
  rw [Nat.testBit_and, bits_bit, bits_bit, Nat.zero_testBit]
  by_cases h1 : (at_ l i).state = s
  · have h2 : ((at_ l i).state == t) = false := by rw [h1]; simpa using h
    rw [h2]; simp
  · have h2 : ((at_ l i).state == s) = false := by simpa using h1
    rw [h2]; simp
theorem bit_ge {n i : Nat} (h : n < 2 ^ i) : ∀ j, i ≤ j → n.testBit j = false := fun j hj => Nat.testBit_lt_two_pow (Nat.lt_of_lt_of_le h (Nat.pow_le_pow_right (by omega) hj))
theorem choices_eq (l : List Txn) (hl : l.length ≤ 6) : choicesOf (bits l 2) (bits l 1) = choices l := by
  refine pair_ext (choicesOf_rise (bits_lt l 2 hl) (bits_apart l (by decide))) (choices_pair l) fun c => ?_
  have hd : bits l 2 < 2 ^ l.length := mask_lt _ _
  have ho : bits l 1 < 2 ^ l.length := mask_lt _ _
  have h64 : (2 : Nat) ^ l.length ≤ 64 := Nat.pow_le_pow_right (n := 2) (by omega) hl
  constructor
  · intro h
    obtain ⟨s, hs, rfl⟩ := List.mem_map.1 h
    obtain ⟨i, hi⟩ := List.mem_iff_getElem?.1 hs
    have hso := (subsets_get hi).1
    have hsl : s < 2 ^ l.length := Nat.lt_of_le_of_lt (by rw [← hso]; exact Nat.and_le_right) ho
    have hcl : bits l 2 ||| s < 2 ^ l.length := Nat.or_lt_two_pow hd hsl
    unfold choices
    refine List.mem_filter.2 ⟨List.mem_range.2 (by omega), ?_⟩
    unfold isChoice
    rw [Bool.and_eq_true]
    refine ⟨List.all_eq_true.2 fun j hj => ?_, by simpa using hcl⟩
    have hj2 := List.mem_range.1 hj
    have hb : s.testBit j = true → (at_ l j).state = 1 := fun h => by
      rw [← hso, Nat.testBit_and, bits_bit] at h
      simp only [Bool.and_eq_true, beq_iff_eq] at h
      exact h.2.2
    rw [Nat.testBit_or, bits_bit]
    simp only [hj2, decide_true, Bool.true_and]
    by_cases h2 : (at_ l j).state = 2
    · simp [h2]
    · cases hsj : s.testBit j with
      | true => simp [hb hsj]
      | false => simp [h2]
  · intro h
    unfold choices at h
    obtain ⟨h1, h2⟩ := List.mem_filter.1 h
    unfold isChoice at h2
    rw [Bool.and_eq_true] at h2
    obtain ⟨h2, h3⟩ := h2
    have hcl : c < 2 ^ l.length := by simpa using h3
    have hst : ∀ j, j < l.length → (if c.testBit j then (at_ l j).state = 2 ∨ (at_ l j).state = 1 else (at_ l j).state ≠ 2) := fun j hj => by
      have := List.all_eq_true.1 h2 j (List.mem_range.2 hj)
      split
      · rename_i hc; simpa [hc] using this
      · rename_i hc; simpa [hc] using this
    refine List.mem_map.2 ⟨c &&& bits l 1, ?_, ?_⟩
    · unfold subsets
      refine List.mem_filter.2 ⟨List.mem_range.2 (Nat.lt_of_le_of_lt Nat.and_le_left (List.mem_range.1 h1)), ?_⟩
      rw [Nat.and_assoc, Nat.and_self]
      simp
    · refine bit_ext l.length (Nat.or_lt_two_pow hd (Nat.lt_of_le_of_lt Nat.and_le_left hcl)) hcl fun j hj => ?_
      have := hst j hj
      rw [Nat.testBit_or, Nat.testBit_and, bits_bit, bits_bit]
      simp only [hj, decide_true, Bool.true_and]
      cases hc : c.testBit j with
      | true =>
        rw [hc] at this
        rcases this with h4 | h4 <;> simp [h4]
      | false =>
        rw [hc] at this
        have h4 : (at_ l j).state ≠ 2 := this
        simp [h4]
def lenOf : Value → Nat
  | .slice _ n _ => n
  | _ => 0
theorem take_snoc_map {d o j : Nat} (h : j < (subsets o).length) : ((subsets o).take (j + 1)).map (d ||| ·) = ((subsets o).take j).map (d ||| ·) ++ [d ||| (subsets o).getD j 0] := by
  rw [List.take_succ_eq_append_getElem h, List.map_append, List.getD_eq_getElem?_getD, List.getElem?_eq_getElem h]
  rfl
set_option maxRecDepth 100000 in
set_option maxHeartbeats 4000000 in
theorem choices_c (l : List Txn) (v : Value) (w : World) (hv : In kTxn w v l) (hl : l.length ≤ 6) :
    Calls Tryd.prog 54 #[v] w fun e w' => RetR kU32 30 w w' (choices l) e ∧ Below w.heap.size w w' := by
  have hx := Aside0.mk (choices_eq l hl)
  have hr := Aside0.mk (rises_of_pair (choicesOf_rise (bits_lt l 2 hl) (bits_apart l (s := 2) (t := 1) (by decide))))
  have hb1 := Aside0.mk (fun W (h : In kTxn W v l) => bits_c l 1 v W h (Nat.le_trans hl (by decide)))
  have hb2 := Aside0.mk (bits_c l 2 v w hv (Nat.le_trans hl (by decide)))
  have hd := Aside0.mk (bits_lt l 2 hl)
  have ho := Aside0.mk (bits_lt l 1 hl)
  have h0 := Aside0.mk (subsets_head ho.out)
  replace hv := Aside0.mk hv
  generalize bits l 2 = d at *
  generalize bits l 1 = o at *
  have hd2 : d < 2 ^ 32 := Nat.lt_trans hd.out (by decide)
  have ho2 : o < 2 ^ 32 := Nat.lt_trans ho.out (by decide)
  replace hd2 := Aside0.mk hd2
  replace ho2 := Aside0.mk ho2
  have hmf : ∀ (fn : Fn) (first cap : Array Value) (w : World), (Instr.makeFunc fn first cap).run Tryd.prog w = .ok (.func fn first cap) w := fun _ _ _ _ => rfl
  go_enter Tryd.func54, Tryd.ntmps54
  go_wp2_with first
    | (go_at_call 75; with_reducible refine hb2.out.mono ?_; clear hb2; rintro e w1 ⟨rfl, hB1⟩; replace hB1 := Aside0.mk hB1)
    | (go_at_call 75; refine (hb1.out _ (hv.out.below hB1.out)).mono ?_; clear hb1; rintro e w2 ⟨rfl, hB2⟩; replace hB2 := Aside0.mk hB2)
  have hbo := Aside0.mk (blk_alloc (blk_new w2 (.cells #[.int .u32 o] 30)) (.cells #[.int .u32 d] 30))
  have hlow : w.heap.size ≤ w2.heap.size := Nat.le_trans hB1.out.size hB2.out.size
  have hbb := Aside0.mk (below_alloc (below_alloc (below_step hB1.out hB2.out) (.cells #[.int .u32 o] 30)) (.cells #[.int .u32 d] 30))
  have hO := Aside0.mk (Own.lit_u32 (e := 30) (w0 := w) (W := w2.alloc (.cells #[.int .u32 o] 30)) [d] (by simp; omega) (by simp))
  simp only [List.map_cons, List.map_nil, World.size_alloc, List.length_cons, List.length_nil, Nat.zero_add] at hO
  have hcall := Aside0.mk (fun (s : Nat) W (hs : s < 2 ^ 32) hb => choices1_c s o w2.heap.size W hs ho2.out hb)
  have hsl := Aside0.mk (subsets_len o)
  have hnext := Aside0.mk (fun i hi => subsets_next ho.out (i := i) hi)
  have hpos := Aside0.mk (fun i h1 h2 => subsets_pos (o := o) (i := i) h1 h2)
  have hsub32 := Aside0.mk (show ∀ i, (subsets o).getD i 0 < 2 ^ 32 from fun i => by
    rw [List.getD_eq_getElem?_getD]
    cases hi : (subsets o)[i]? with
    | none => decide
    | some x => have := (subsets_get hi).2; simp only [Option.getD_some]; omega)
  have hone := Aside0.mk (show 1 ≤ (subsets o).length by have := (List.getElem?_eq_some_iff.1 h0.out).1; omega)
  have hn1 := Aside0.mk (show nxt o 0 = (subsets o).getD 1 0 by have := hnext.out 0 hone.out; rwa [List.getD_eq_getElem?_getD, h0.out] at this)
  have ht1 := Aside0.mk (show ((subsets o).take 1).map (d ||| ·) = [d] by
    have := h0.out
    cases hs : subsets o with
    | nil => rw [hs] at this; simp at this
    | cons a b => rw [hs] at this; simp at this; subst this; simp)
  have hc0 := blk_cell hbo.out 0
  simp only [List.getElem?_toArray, List.getElem?_cons_zero] at hc0
  have hk := hcall.out 0 _ (by decide) hc0
  rw [hn1.out] at hk
  refine hk.mono ?_
  clear hk
  rintro e w3 ⟨rfl, rfl⟩
  go_wp2
  go_loopw [6, 7] (fun u s wr => ∃ j x : Nat, 1 ≤ j ∧ j ≤ (subsets o).length ∧ s = .int .u32 x ∧ Aside0 (x = (subsets o).getD j 0) ∧ Below w.heap.size w wr ∧ Aside0 (Own kU32 30 w wr u (((subsets o).take j).map (d ||| ·))) ∧ Aside0 (wr.heap[w2.heap.size]? = some (.cells #[.int .u32 o] 30 (0, 0))) ∧ Aside0 (∀ c, u.ownBlock = some c → w2.heap.size < c)) (fun u _ _ => 65 - lenOf u)
  case atStart => exact ⟨1, _, Nat.le_refl _, hone.out, rfl, ⟨rfl⟩, hbb.out, ⟨by rw [ht1.out]; exact hO.out⟩, hbo, ⟨fun c hc => by simp [Value.ownBlock] at hc; omega⟩⟩
  case round =>
    obtain ⟨j, x, hj1, hjl, rfl, hxv, hb, hO, hbk, hne⟩ := hrel
    have hx32 := Aside0.mk (show x < 2 ^ 32 by rw [hxv.out]; exact hsub32.out j)
    by_cases hlt : j < (subsets o).length
    · have hx0 : (((x : Nat) : Int) != 0) = true := by
        have := hpos.out j hj1 hlt
        rw [← hxv.out] at this
        simp; omega
      have htk := Aside0.mk (take_snoc_map (d := d) hlt)
      rw [← hxv.out] at htk
      have hnx := Aside0.mk (hnext.out j hlt)
      rw [← hxv.out] at hnx
      have hn32 := Aside0.mk (show nxt o x < 2 ^ 32 by rw [hnx.out]; exact hsub32.out _)
      have hlen := Aside0.mk (show (((subsets o).take j).map (d ||| ·)).length = j by simp; omega)
      have hor := Aside0.mk (u32_or hd2.out hx32.out)
      obtain ⟨uA, uc, eu⟩ := Kd.R_slice hO.out
      rw [hlen.out] at eu
      subst eu
      have hj64 := hsl.out
      replace hsl := Aside0.mk hsl
      generalize ((subsets o).take j).map (d ||| ·) = pre at *
      go_wp2_with first
        | (at_builtin; rw [hor.out]; (refine append_one kU32 (w0 := w) rfl (.tmp 22) (.tmp 26) 55 30 (.int .u32 0) 4 rfl Tryd.underlying55 Tryd.info_U32 rfl (by decide) (by decide) (.slice uA j uc) pre (d ||| x) [.int .u32 ((d ||| x : Nat) : Int)] rfl rfl rfl hO.out hb (by have := hlen.out; omega) ?_); intro v1 w4 hO1 hB4 hg1 hat1; have hbk4 := blk_grown hbk.out hg1 (fun e => absurd (hne.out _ e.symm) (Nat.lt_irrefl _)); have hc4 := blk_cell hbk4 0; simp only [List.getElem?_toArray, List.getElem?_cons_zero] at hc4; have hsz4 := Aside0.mk hB4.size; replace hbk4 := Aside0.mk hbk4; replace hO1 := Aside0.mk hO1; replace hg1 := Aside0.mk hg1; replace hat1 := Aside0.mk hat1)
        | (go_at_call 76; refine (hcall.out x _ hx32.out hc4).mono ?_; rintro e w5 ⟨rfl, rfl⟩)
      go_roundw
      case rel =>
        refine ⟨j + 1, nxt o x, by omega, by omega, rfl, ⟨hnx.out⟩, hB4, ⟨by rw [htk.out]; exact hO1.out⟩, hbk4, ⟨fun c hc => ?_⟩⟩
        rcases hat1.out with h1 | ⟨b, h1, h2⟩
        · exact hne.out c (by rw [← h1]; exact hc)
        · rw [h1] at hc
          cases hc
          have := blk_lt hbk.out
          omega
      case measure =>
        obtain ⟨vA, vc, rfl⟩ := Kd.R_slice hO1.out
        have := hlen.out
        simp [lenOf]
        omega
    · obtain rfl : j = (subsets o).length := by omega
      have hx0 : x = 0 := by
        rw [hxv.out, List.getD_eq_getElem?_getD, List.getElem?_eq_none (Nat.le_refl _)]
        rfl
      subst hx0
      rw [List.take_length] at hO
      have hOc := Aside0.mk (show Own kU32 30 w wr u6 (choicesOf d o) from hO.out)
      have hlc := Aside0.mk (show (choicesOf d o).length ≤ 64 by unfold choicesOf; rw [List.length_map]; exact hsl.out)
      have hsort := Aside0.mk (sort_c (choicesOf d o) hr.out u6 wr hOc.out.inn hlc.out)
      go_wp2_with (go_at_call 77; refine hsort.out.mono ?_; clear hsort; rintro e w6 ⟨⟨q, rfl⟩, hb6⟩)
      go_ret
      exact ⟨⟨_, rfl, by rw [← hx.out]; exact hOc.out.below hb6⟩, below_step hb hb6⟩
set_option maxRecDepth 100000 in
set_option maxHeartbeats 1000000 in
theorem Choices_c (h : List Ev) (v : Value) (w : World) (hv : In kEv w v h) (hk : Kinds w) :
    Calls Tryd.prog 25 #[v] w fun e w' => RetE kU32 30 w w' (if why h = 0 then choices (table h) else []) (why h) e ∧ Below w.heap.size w w' := by
  have ht := Aside0.mk (Table_c h v w hv hk)
  replace hv := Aside0.mk hv
  replace hk := Aside0.mk hk
  go_enter Tryd.func25, Tryd.ntmps25
  cases hw : (why h == 0) with
  | false =>
    have hw1 : why h ≠ 0 := by simpa using hw
    have hx := Aside0.mk (show (if why h = 0 then choices (table h) else []) = [] by simp [hw1])
    replace hw1 : (why h != 0) = true := by simpa using hw1
    rw [hx.out]
    go_wp2_with (go_at_call 11; refine ht.out.mono ?_; rintro e w1 ⟨⟨u, rfl, hO⟩, hb⟩)
    go_ret2
    exact ⟨⟨_, rfl, Own.nil _ _ _ _⟩, hb⟩
  | true =>
    have hw0 : why h = 0 := by simpa using hw
    have hx := Aside0.mk (show (if why h = 0 then choices (table h) else []) = choices (tableOf h) by simp [tableOf, hw0])
    have hlen := Aside0.mk (tableOf_len h)
    rw [hx.out, hw0]
    rw [hw0] at ht
    clear hw hx
    replace hw0 := Aside0.mk hw0
    go_wp2_with first
      | (go_at_call 11; refine ht.out.mono ?_; clear ht; rintro e w1 ⟨⟨u, rfl, hO⟩, hb⟩; replace hO := Aside0.mk hO; replace hb := Aside0.mk hb)
      | (go_at_call 54; refine (choices_c (tableOf h) _ _ hO.out.inn hlen.out).mono ?_; rintro e w2 ⟨⟨u2, rfl, hO2⟩, hb2⟩; replace hO2 := Aside0.mk hO2; replace hb2 := Aside0.mk hb2)
    go_ret2
    exact ⟨⟨_, rfl, hO2.out.lower hb.out.size⟩, below_weaken hb.out (Nat.le_refl _) (hb2.out.mono hb.out.size)⟩
end Go.Proofs.YtnogalajfccioaaDoor
