/- Layer 8 (prefix): Of, Serial. -/
import Derived.Test.YtnogalajfccioaaDoorPrefix
import Derived.Test.YtnogalajfccioaaDoorAnyC
namespace Go.Proofs.YtnogalajfccioaaDoor
open Go.RowKit Go.Proofs.YtnogalajfccioaaDoorW.PrintWords
theorem enters_of1 : ∀ args W, (callFunc 67 args).run Tryd.prog W = .ok (.enter 67 args) W := enters_of Tryd.func67 (by kernel_rfl) rfl
set_option maxRecDepth 100000 in
set_option maxHeartbeats 1000000 in
theorem Of_c (h : List Ev) (tx : Int) (v : Value) (w : World) (hv : In kEv w v h) (hl : h.length ≤ 1000) :
    Calls Tryd.prog 36 #[v, .int .i64 tx] w fun e w' => (∃ u, e = .returned u ∧ Own kEv 49 w w' u (mine h tx)) ∧ Below w.heap.size w w' := by
  have hmf : ∀ (fn : Fn) (first cap : Array Value) (w : World), (Instr.makeFunc fn first cap).run Tryd.prog w = .ok (.func fn first cap) w := fun _ _ _ _ => rfl
  have hB := below_alloc (Below.refl w.heap.size w) (.cells #[.int .i64 tx] 3)
  have hbn := blk_new w (.cells #[.int .i64 tx] 3)
  have hk := Aside0.mk (kept_c 67 #[.pointer (some ⟨w.heap.size, 0, none⟩)] (fun x => x.tx == tx) h v _ (hv.below hB) hl enters_of1 (fun x _ W hW => of1_c x tx w.heap.size W (blk_cell (blk_below hbn hW) 0)))
  replace hB := Aside0.mk hB
  replace hbn := Aside0.mk hbn
  replace hv := Aside0.mk hv
  go_enter Tryd.func36, Tryd.ntmps36
  go_wp2_with (go_at_call 66; fail)
  refine hk.out.mono ?_
  rintro e w2 ⟨⟨u, rfl, hO⟩, hb⟩
  go_wp2
  go_ret
  exact ⟨⟨_, rfl, hO.lower hB.out.size⟩, below_step hB.out hb⟩
set_option maxRecDepth 100000 in
set_option maxHeartbeats 1000000 in
theorem serial1_c (h : List Ev) (t : Txn) (A4 : Option Addr) (c4 : Nat) (v : Value) (b : Nat) (w : World) (hv : In kEv w v h) (hl : h.length ≤ 1000) (hb : w.cell? ⟨b, 0, none⟩ = some v) (h1 : 0 ≤ t.first) (h2 : t.first ≤ 1000) (h3 : 0 ≤ t.last) (h4 : t.last ≤ 1000) :
    Calls Tryd.prog 35 #[.agg #[.int .i64 t.name, .int .i64 t.first, .int .i64 t.last, .int .i64 t.state, .slice A4 t.ops.length c4], .pointer (some ⟨b, 0, none⟩)] w fun e w' => e = .returned (.bool (apartB h t)) ∧ Below w.heap.size w w' := by
  obtain ⟨W1, hW1⟩ : ∃ W1, W1 = w.alloc (.cells #[.int .i64 t.name, .int .i64 t.first, .int .i64 t.last, .int .i64 t.state, .slice A4 t.ops.length c4] 34) := ⟨_, rfl⟩
  have hB := Aside0.mk (show Below w.heap.size w W1 by rw [hW1]; exact below_alloc (Below.refl _ _) _)
  have hbn := blk_new w (.cells #[.int .i64 t.name, .int .i64 t.first, .int .i64 t.last, .int .i64 t.state, .slice A4 t.ops.length c4] 34)
  rw [← hW1] at hbn
  have e0 := blk_cell hbn 0
  have e1 := blk_cell hbn 1
  have e2 := blk_cell hbn 2
  simp only [List.getElem?_toArray, List.getElem?_cons_zero, List.getElem?_cons_succ] at e0 e1 e2
  have hb1 := pw_cell_below hB.out hb
  have hO := Aside0.mk (fun V (hV : Below W1.heap.size W1 V) => Of_c h t.name v V (hv.below (below_step hB.out hV)) hl)
  have hap : (t.last - t.first + 1 != ((mine h t.name).length : Int)) = apartB h t := by
    unfold apartB
    rw [Bool.eq_iff_iff]
    simp
  have hw1 : IntKind.i64.wrap (t.last - t.first) = t.last - t.first := by rw [IntKind.wrap_i64]; omega
  have hw2 : IntKind.i64.wrap (t.last - t.first + 1) = t.last - t.first + 1 := by rw [IntKind.wrap_i64]; omega
  replace hv := Aside0.mk hv
  replace hap := Aside0.mk hap
  replace hW1 := Aside0.mk hW1
  replace hbn := Aside0.mk hbn
  go_enter Tryd.func35, Tryd.ntmps35
  go_wp2
  rw [← hW1.out]
  refine region_C (C := QB W1) (by kernel_rfl) ?_
  refine takeC (i := 0) rfl (by kernel_rfl) (by kernel_rfl) (by kernel_rfl) (below_drew (Below.refl _ _)) ?_   -- fieldAddr
  apply Exists.intro
  refine ⟨fun _ _ _ h => h, Or.inl ⟨by rfl, fun V hV => ?_⟩, ?_⟩
  focus (have e0' := hV.cell e0; have e1' := hV.cell e1; have e2' := hV.cell e2; have hb1' := hV.cell hb1; go_simp; try (with_reducible rfl))
  refine takeC (i := 1) rfl (by kernel_rfl) (by kernel_rfl) (by kernel_rfl) (below_drew (Below.refl _ _)) ?_   -- load
  apply Exists.intro
  refine ⟨fun _ _ _ h => h, Or.inl ⟨by rfl, fun V hV => ?_⟩, ?_⟩
  focus (have e0' := hV.cell e0; have e1' := hV.cell e1; have e2' := hV.cell e2; have hb1' := hV.cell hb1; go_simp; try (with_reducible rfl))
  refine takeC (i := 2) rfl (by kernel_rfl) (by kernel_rfl) (by kernel_rfl) (below_drew (Below.refl _ _)) ?_   -- fieldAddr
  apply Exists.intro
  refine ⟨fun _ _ _ h => h, Or.inl ⟨by rfl, fun V hV => ?_⟩, ?_⟩
  focus (have e0' := hV.cell e0; have e1' := hV.cell e1; have e2' := hV.cell e2; have hb1' := hV.cell hb1; go_simp; try (with_reducible rfl))
  refine takeC (i := 3) rfl (by kernel_rfl) (by kernel_rfl) (by kernel_rfl) (below_drew (Below.refl _ _)) ?_   -- load
  apply Exists.intro
  refine ⟨fun _ _ _ h => h, Or.inl ⟨by rfl, fun V hV => ?_⟩, ?_⟩
  focus (have e0' := hV.cell e0; have e1' := hV.cell e1; have e2' := hV.cell e2; have hb1' := hV.cell hb1; go_simp; try (with_reducible rfl))
  refine takeC (i := 4) rfl (by kernel_rfl) (by kernel_rfl) (by kernel_rfl) (below_drew (Below.refl _ _)) ?_   -- binOp
  apply Exists.intro
  refine ⟨fun _ _ _ h => h, Or.inl ⟨by rfl, fun V hV => ?_⟩, ?_⟩
  focus (have e0' := hV.cell e0; have e1' := hV.cell e1; have e2' := hV.cell e2; have hb1' := hV.cell hb1; go_simp; try (with_reducible rfl))
  refine takeC (i := 5) rfl (by kernel_rfl) (by kernel_rfl) (by kernel_rfl) (below_drew (Below.refl _ _)) ?_   -- binOp
  apply Exists.intro
  refine ⟨fun _ _ _ h => h, Or.inl ⟨by rfl, fun V hV => ?_⟩, ?_⟩
  focus (have e0' := hV.cell e0; have e1' := hV.cell e1; have e2' := hV.cell e2; have hb1' := hV.cell hb1; go_simp; try (with_reducible rfl))
  refine takeC (i := 6) rfl (by kernel_rfl) (by kernel_rfl) (by kernel_rfl) (below_drew (Below.refl _ _)) ?_   -- load
  apply Exists.intro
  refine ⟨fun _ _ _ h => h, Or.inl ⟨by rfl, fun V hV => ?_⟩, ?_⟩
  focus (have e0' := hV.cell e0; have e1' := hV.cell e1; have e2' := hV.cell e2; have hb1' := hV.cell hb1; go_simp; try (with_reducible rfl))
  refine takeC (i := 7) rfl (by kernel_rfl) (by kernel_rfl) (by kernel_rfl) (below_drew (Below.refl _ _)) ?_   -- fieldAddr
  apply Exists.intro
  refine ⟨fun _ _ _ h => h, Or.inl ⟨by rfl, fun V hV => ?_⟩, ?_⟩
  focus (have e0' := hV.cell e0; have e1' := hV.cell e1; have e2' := hV.cell e2; have hb1' := hV.cell hb1; go_simp; try (with_reducible rfl))
  refine takeC (i := 8) rfl (by kernel_rfl) (by kernel_rfl) (by kernel_rfl) (below_drew (Below.refl _ _)) ?_   -- load
  apply Exists.intro
  refine ⟨fun _ _ _ h => h, Or.inl ⟨by rfl, fun V hV => ?_⟩, ?_⟩
  focus (have e0' := hV.cell e0; have e1' := hV.cell e1; have e2' := hV.cell e2; have hb1' := hV.cell hb1; go_simp; try (with_reducible rfl))
  refine stepC (i := 9) (by kernel_rfl) rfl (fun K hK => ?_)
  go_simp
  refine (hO.out _ (below_drew (Below.refl _ _))).mono ?_
  rintro e w2 ⟨⟨u, rfl, hO2⟩, hb2⟩
  obtain ⟨uA, uc, eu⟩ := Kd.R_slice hO2
  subst eu
  have hQ2 := Aside0.mk (below_step (below_drew (Below.refl W1.heap.size W1)) hb2 : QB W1 w2)
  replace hO2 := Aside0.mk hO2
  replace hb2 := Aside0.mk hb2
  refine hK _ _ hQ2.out ?_
  clear hK K
  refine stepC (i := 10) (by kernel_rfl) rfl (fun K hK => ?_)   -- builtin
  go_simp
  refine hK _ _ hQ2.out ?_
  clear hK K
  refine takeC (i := 11) rfl (by kernel_rfl) (by kernel_rfl) (by kernel_rfl) hQ2.out ?_   -- binOp
  apply Exists.intro
  refine ⟨fun _ _ _ h => h, Or.inl ⟨by rfl, fun V hV => ?_⟩, ?_⟩
  focus (go_simp; try (with_reducible rfl))
  refine takeC (i := 12) rfl (by kernel_rfl) (by kernel_rfl) (by kernel_rfl) hQ2.out ?_   -- assign
  apply Exists.intro
  refine ⟨fun _ _ _ h => h, Or.inl ⟨by rfl, fun V hV => ?_⟩, ?_⟩
  focus (go_simp; try (with_reducible rfl))
  refine doneC (by kernel_rfl) ?_ _
  clear hw1 hw2
  go_simp
  go_wp2
  go_ret
  exact ⟨by rw [← hap.out]; rfl, below_step hB.out hQ2.out⟩
theorem enters_serial1 : ∀ args W, (callFunc 35 args).run Tryd.prog W = .ok (.enter 35 args) W := enters_of Tryd.func35 (by kernel_rfl) rfl
def serialIs (h : List Ev) : Bool := decide (why h = 0) && serialB h
theorem table_small {h : List Ev} (hw : why h = 0) {t : Txn} (ht : t ∈ table h) : 0 ≤ t.first ∧ t.first ≤ 1000 ∧ 0 ≤ t.last ∧ t.last ≤ 1000 := by
  obtain ⟨hr, _⟩ := WF_of_why hw
  have hl : h.length ≤ 60 := by simp [RightB] at hr; omega
  obtain ⟨k, hk, rfl⟩ := List.mem_map.1 ht
  obtain ⟨f, l, h1, h2, h3, h4, _⟩ := ((tabInv h).ok k hk).span
  omega
set_option maxRecDepth 100000 in
set_option maxHeartbeats 1000000 in
theorem Serial_c (h : List Ev) (v : Value) (w : World) (hv : In kEv w v h) (hk : Kinds w) :
    Calls Tryd.prog 9 #[v] w fun e w' => e = .returned (.tuple #[.bool (serialIs h), .int .i64 (why h)]) ∧ Below w.heap.size w w' := by
  have hmf : ∀ (fn : Fn) (first cap : Array Value) (w : World), (Instr.makeFunc fn first cap).run Tryd.prog w = .ok (.func fn first cap) w := fun _ _ _ _ => rfl
  obtain ⟨vA, vc, ev⟩ : ∃ A c, v = .slice A h.length c := by obtain ⟨A, c, e, _⟩ := hv; exact ⟨A, c, e⟩
  subst ev
  obtain ⟨W1, hW1⟩ : ∃ W1, W1 = w.alloc (.cells #[.slice vA h.length vc] 22) := ⟨_, rfl⟩
  have hB := Aside0.mk (show Below w.heap.size w W1 by rw [hW1]; exact below_alloc (Below.refl _ _) _)
  have hbn := blk_new w (.cells #[.slice vA h.length vc] 22)
  rw [← hW1] at hbn
  have ht := Aside0.mk (Table_c h _ W1 (hv.below hB.out) (hk.below hB.out))
  have c0 := blk_cell hbn 0
  simp only [List.getElem?_toArray, List.getElem?_cons_zero] at c0
  replace hbn := Aside0.mk hbn
  replace hv := Aside0.mk hv
  replace hk := Aside0.mk hk
  replace hW1 := Aside0.mk hW1
  cases hw : (why h == 0) with
  | false =>
    have hw1 : why h ≠ 0 := by simpa using hw
    have hx := Aside0.mk (show serialIs h = false by simp [serialIs, hw1])
    rw [hx.out]
    replace hw1 : (why h != 0) = true := by simpa using hw1
    go_enter Tryd.func9, Tryd.ntmps9
    go_wp2_with fail
    rw [← hW1.out]
    refine ht.out.mono ?_
    rintro e w1 ⟨⟨u, rfl, hO⟩, hb⟩
    go_wp2
    go_ret2
    exact ⟨rfl, below_step hB.out hb⟩
  | true =>
    have hw0 : why h = 0 := by simpa using hw
    have hx := Aside0.mk (show serialIs h = serialB h by simp [serialIs, hw0])
    have hl : h.length ≤ 1000 := by
      obtain ⟨hr, _⟩ := WF_of_why hw0
      simp [RightB] at hr
      omega
    have htab : tableOf h = table h := by simp [tableOf, hw0]
    rw [hx.out, hw0]
    rw [hw0, htab] at ht
    clear hw htab
    have hsm := Aside0.mk (fun t ht => table_small hw0 (t := t) ht)
    replace hw0 := Aside0.mk hw0
    go_enter Tryd.func9, Tryd.ntmps9
    go_wp2_with fail
    rw [← hW1.out]
    refine ht.out.mono ?_
    clear ht
    rintro e w1 ⟨⟨u, rfl, hO⟩, hb⟩
    have hcf := Aside0.mk (containsFunc_Txn 35 #[.pointer (some ⟨w.heap.size, 0, none⟩)] (apartB h) (table h) u w1 hO.inn enters_serial1 (fun x hx W hW A4 c4 _ => serial1_c h x A4 c4 (.slice vA h.length vc) w.heap.size W (hv.out.below (below_step hB.out (below_step hb hW))) hl (pw_cell_below (below_step hb hW) c0) (hsm.out x hx).1 (hsm.out x hx).2.1 (hsm.out x hx).2.2.1 (hsm.out x hx).2.2.2))
    replace hO := Aside0.mk hO
    replace hb := Aside0.mk hb
    go_wp2_with (go_at_call 37; refine hcf.out.mono ?_; clear hcf; rintro e w2 ⟨rfl, hb2⟩)
    go_ret2
    exact ⟨rfl, below_step (below_step hB.out hb.out) hb2⟩
end Go.Proofs.YtnogalajfccioaaDoor
