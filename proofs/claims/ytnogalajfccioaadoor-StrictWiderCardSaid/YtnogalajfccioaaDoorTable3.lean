/- Layer 6 (table): Table itself. -/
import Derived.Test.YtnogalajfccioaaDoorTable2
namespace Go.Proofs.YtnogalajfccioaaDoor
open Go.RowKit Go.Proofs.YtnogalajfccioaaDoorW.PrintWords
theorem keepF_take (h : List Ev) (j : Nat) (x : Ev) (hx : h[j]? = some x) : ∀ l i, keepF l i (h.take (j + 1)) = keepStep (keepF l i (h.take j)) (i + j) x := by
  induction h generalizing j with
  | nil => simp at hx
  | cons e h ih =>
    intro l i
    cases j with
    | zero =>
      have : e = x := by simpa using hx
      subst this
      simp [keepF]
    | succ j =>
      simp only [List.take_succ_cons, keepF]
      rw [ih j (by simpa using hx)]
      congr 1
      omega
theorem keepStep_old {l : List Keep} {i : Int} {e : Ev} {j : Nat} (h : (namesOf l).findIdx? (· == e.tx) = some j) : keepStep l i e = l.modify j (fun k => k.take i e) := by
  unfold keepStep
  have : l.findIdx? (fun k => k.t.name == e.tx) = some j := by rw [← h, namesOf, List.findIdx?_map]; rfl
  rw [this]
theorem keepStep_new {l : List Keep} {i : Int} {e : Ev} (h : (namesOf l).findIdx? (· == e.tx) = none) : keepStep l i e = (l ++ [Keep.new i e]).modify l.length (fun k => k.take i e) := by
  unfold keepStep
  have : l.findIdx? (fun k => k.t.name == e.tx) = none := by rw [← h, namesOf, List.findIdx?_map]; rfl
  rw [this]
  apply List.ext_getElem?
  intro n
  rw [List.getElem?_modify]
  rcases Nat.lt_trichotomy n l.length with hn | rfl | hn
  · rw [List.getElem?_append_left hn, List.getElem?_append_left hn]; simp [Nat.ne_of_gt hn]
  · simp
  · rw [List.getElem?_eq_none (by simp; omega), List.getElem?_eq_none (by simp; omega)]; rfl
/-- No more keepers than events, no more Ops than events. -/
theorem keepF_small (h : List Ev) : ∀ (l : List Keep) i n, l.length ≤ n → (∀ k, k ∈ l → k.t.ops.length ≤ n) → (keepF l i h).length ≤ n + h.length ∧ ∀ k, k ∈ keepF l i h → k.t.ops.length ≤ n + h.length := by
  induction h with
  | nil => intro l i n h1 h2; exact ⟨h1, h2⟩
  | cons e h ih =>
    intro l i n h1 h2
    have tk : ∀ k : Keep, k.t.ops.length ≤ n → (k.take i e).t.ops.length ≤ n + 1 := fun k hk => by
      simp only [Keep.take]
      split
      · simp; omega
      · split
        · simp; omega
        · omega
    have := ih (keepStep l i e) (i + 1) (n + 1) ?_ ?_
    · simp only [keepF, List.length_cons]
      exact ⟨by omega, fun k hk => by have := this.2 k hk; omega⟩
    · unfold keepStep
      split <;> simp <;> omega
    · intro k hk
      unfold keepStep at hk
      split at hk
      · obtain ⟨n', hn'⟩ := List.mem_iff_getElem?.1 hk
        rw [List.getElem?_modify] at hn'
        cases hl : l[n']? with
        | none => rw [hl] at hn'; simp at hn'
        | some y =>
          rw [hl] at hn'
          have hy := h2 y (List.mem_of_getElem? hl)
          simp only [Option.map_eq_map, Option.map_some, Option.some.injEq] at hn'
          subst hn'
          split
          · exact tk y hy
          · omega
      · rcases List.mem_append.1 hk with hk | hk
        · have := h2 k hk; omega
        · have : k = (Keep.new i e).take i e := by simpa using hk
          subst this
          exact tk _ (by simp [Keep.new])
theorem Tab.ne {w0 w : World} {m : Nat} {o : Value} {ks : List Keep} {bs : List Nat} {vs : List Value} (h : Tab w0 w m o ks bs vs) : some m ≠ o.ownBlock := fun e => by
  obtain ⟨inner, hi⟩ := Kd.R_own h.ord
  obtain ⟨cells, hc⟩ := own_typed hi m e.symm
  exact map_ne h.map hc rfl
def tableOf (h : List Ev) : List Txn := if why h = 0 then table h else []
/-- A pair whose first part is a list of transactions. -/
def RetTxns (w0 w : World) (l : List Txn) (bad : Int) (e : Ending) : Prop := ∃ v, e = .returned (.tuple #[v, .int .i64 bad]) ∧ Own kTxn 34 w0 w v l
theorem Tryd.zeroPtr (w : World) : (zeroValue 78).run Tryd.prog w = .ok (.pointer none) w := by kernel_rfl
set_option maxRecDepth 100000 in
set_option maxHeartbeats 4000000 in
theorem Table_c (h : List Ev) (v : Value) (w : World) (hv : In kEv w v h) (hk : Kinds w) :
    Calls Tryd.prog 11 #[v] w fun e w' => RetTxns w w' (tableOf h) (why h) e ∧ Below w.heap.size w w' := by
  have hv0 := Aside0.mk hv
  replace hk := Aside0.mk hk
  obtain ⟨A, c, rfl, hc, hC0⟩ := hv
  have hm : h.length ≤ 9223372036854775807 := hC0.2.1
  have hC := Aside0.mk hC0
  clear hC0
  have hcheck := Aside0.mk (check_c h _ w hv0.out hk.out)
  cases hw : (why h == 0) with
  | false =>
    have hw1 : why h ≠ 0 := by simpa using hw
    have ht := Aside0.mk (show tableOf h = [] by simp [tableOf, hw1])
    replace hw1 : (why h != 0) = true := by simpa using hw1
    go_enter Tryd.func11, Tryd.ntmps11
    go_wp2_with (go_at_call 38; refine hcheck.out.mono ?_; rintro e w' ⟨rfl, hb⟩)
    go_ret2
    exact ⟨⟨_, rfl, by rw [ht.out]; exact Own.nil _ _ _ _⟩, hb⟩
  | true =>
    have hw0 : why h = 0 := by simpa using hw
    have hl60 : h.length ≤ 60 := by
      unfold why at hw0
      split at hw0
      · rename_i hr
        simp [RightB] at hr
        omega
      · cases hw0
    have ht := Aside0.mk (show tableOf h = table h by simp [tableOf, hw0])
    replace hw0 := Aside0.mk hw0
    clear hw
    have hmm := @run_makeMap Tryd.prog
    go_enter Tryd.func11, Tryd.ntmps11
    go_wp2_with (go_at_call 38; refine hcheck.out.mono ?_; rintro e w1 ⟨rfl, hb1⟩; rw [hw0.out])
    have hT : Tab w (w1.alloc (.map #[] 0)) w1.heap.size (.slice none 0 0) [] [] [] := ⟨Keeps.nil _ _, (MapF.empty _ (heap_alloc_new _ _)).move rfl, Own.nil _ _ _ _, hb1.size⟩
    replace hT := Aside0.mk hT
    have hB : w.heap.size ≤ w1.heap.size := hb1.size
    have hb2 : Below w.heap.size w (w1.alloc (.map #[] 0)) := below_alloc hb1 _
    go_loopw [7, 8, 9, 10, 25] (fun o _ _ _ i wr => ∃ j : Nat, j ≤ h.length ∧ i = .int .i64 j ∧ Below w.heap.size w wr ∧ Aside0 (∃ bs vs, Tab w wr w1.heap.size o (keepF [] 0 (h.take j)) bs vs)) (fun _ _ _ _ i _ => h.length - (intOf i).toNat)
    case atStart => exact ⟨0, Nat.zero_le _, rfl, hb2, ⟨_, _, hT.out⟩⟩
    case round =>
      obtain ⟨j, hj, rfl, hb, hrel⟩ := hrel
      by_cases hlt : j < h.length
      · obtain ⟨ad, x, rfl, hx, h0, h1, h2, h3⟩ := get_Ev (Kd.C_below hC.out hb) j hlt
        obtain ⟨bs, vs, hTab⟩ := hrel.out
        have hs := Aside0.mk (show keepF [] 0 (h.take (j + 1)) = keepStep (keepF [] 0 (h.take j)) j x by have := keepF_take h j x hx.out [] 0; simpa using this)
        have hsm := keepF_small (h.take j) [] 0 0 (Nat.le_refl _) (fun k hk => by simp at hk)
        have hlj : (h.take j).length ≤ 60 := by simp; omega
        generalize keepF [] 0 (h.take j) = ks at hTab hs hsm
        have hops : ∀ k, k ∈ ks → k.t.ops.length ≤ 1000 := fun k hk => by have := hsm.2 k hk; omega
        have hksl : ks.length ≤ 1000 := by have := hsm.1; omega
        have hbl : bs.length ≤ 1000 := by have := hTab.keeps.lenb; omega
        replace hops := Aside0.mk hops
        clear hsm hrel hlj
        have e1 : ∀ o, (Instr.lookup 76 (.map (some w1.heap.size)) (.int .i64 x.tx) false).run Tryd.prog (wr.alloc o) = .ok ((ptrOf (namesOf ks) bs x.tx).getD (.pointer none)) (wr.alloc o) := fun o => by
          rw [run_lookup_F Tryd.keysInt Tryd.underlying76 Tryd.zeroPtr (hTab.below (below_alloc (Below.refl _ _) o)).map]; simp
        obtain ⟨oA, oc, rfl⟩ := Kd.R_slice hTab.ord
        cases hf : (namesOf ks).findIdx? (· == x.tx) with
        | some n =>
          have hn : n < ks.length := by have := (List.findIdx?_eq_some_iff_getElem.1 hf).1; simpa [namesOf] using this
          obtain ⟨k, hkn⟩ : ∃ k, ks[n]? = some k := ⟨_, List.getElem?_eq_getElem hn⟩
          obtain ⟨b, hbn⟩ : ∃ b, bs[n]? = some b := ⟨_, List.getElem?_eq_getElem (by have := hTab.keeps.lenb; omega)⟩
          obtain ⟨v, hvn⟩ : ∃ v, vs[n]? = some v := ⟨_, List.getElem?_eq_getElem (by have := hTab.keeps.lenv; omega)⟩
          have hp : ptrOf (namesOf ks) bs x.tx = some (.pointer (some ⟨b, 0, none⟩)) := by simp [ptrOf, hf, hbn]
          rw [hp] at e1
          have hstep := Aside0.mk (hs.out.trans (keepStep_old hf))
          have hTW := Aside0.mk (hTab.below (below_alloc (Below.refl _ _) (.cells #[.int .i64 x.kind, .int .i64 x.tx, .int .i64 x.var, .int .i64 x.val] 49)))
          have hka := Aside0.mk (hTW.out.keeps.at_ n k b v hkn hbn hvn)
          replace hkn := Aside0.mk hkn
          replace hbn := Aside0.mk hbn
          replace hvn := Aside0.mk hvn
          have hol := hops.out k (List.mem_of_getElem? hkn.out)
          clear hf hp hs hTab
          go_wp2_with (go_at_call 39; refine (take_c k j x w _ b v hka.out (below_alloc hb _) hol).mono ?_; rintro e w3 ⟨rfl, htook⟩)
          go_roundw
          case rel =>
            have hb3 := htook
            obtain ⟨v1, _, _, ho⟩ := hb3
            obtain ⟨vs', hT'⟩ := hTW.out.took hkn.out hbn.out hvn.out htook
            refine ⟨j + 1, by omega, by go_num, below_weaken (below_alloc hb _) (Nat.le_refl _) (ho.below (by have := hb.size; simp; omega) ?_), ⟨bs, vs', by rw [hstep.out]; exact hT'⟩⟩
            rintro c (e | e)
            · subst e; exact hka.out.low
            · exact Kd.R_base hka.out.ops c e.symm
          case measure => simp [intOf]; omega
        | none =>
          have hp : ptrOf (namesOf ks) bs x.tx = none := by simp [ptrOf, hf]
          rw [hp] at e1
          have hstep := Aside0.mk (hs.out.trans (keepStep_new hf))
          have hX : Below wr.heap.size wr ((wr.alloc (.cells #[.int .i64 x.kind, .int .i64 x.tx, .int .i64 x.var, .int .i64 x.val] 49)).alloc (.cells (keepCells (Keep.new j x) (.slice none 0 0)) 80)) := below_alloc (below_alloc (Below.refl _ _) _) _
          have hTX := Aside0.mk (hTab.below hX)
          replace hX := Aside0.mk hX
          replace hp := Aside0.mk hp
          have hTab0 := Aside0.mk hTab
          clear hf hs hTab
          go_wp2
          go_region_law (refine append_stepD kPtr (w0 := w) (by rfl) (.tmp 46) (.tmp 48) 77 78 (.pointer none) 8 (by rfl) Tryd.underlying77 Tryd.info_Ptr rfl (by decide) (by decide) (.slice oA bs.length oc) bs (wr.heap.size + 1) [.pointer (some ⟨wr.heap.size + 1, 0, none⟩)] (by rfl) (by simp [Act.eval]) rfl hTX.out.ord (below_weaken hb (Nat.le_refl _) (hX.out.mono hb.size)) (by omega) ?_; intro v1 w2 hO1 hB1 hg1 hat1; obtain ⟨ob, hrun, hmf⟩ := run_update_F Tryd.keysInt Tryd.underlying76 (MapF.grown (hTX.out.map.move (by exact rfl)) hg1 hTX.out.ne) x.tx (.pointer (some ⟨wr.heap.size + 1, 0, none⟩)); replace hmf := Aside0.mk hmf; have hbE2 : w2.heap[wr.heap.size]? = some (.cells #[.int .i64 x.kind, .int .i64 x.tx, .int .i64 x.var, .int .i64 x.val] 49 (0, 0)) := blk_grown (blk_drew (blk_alloc (blk_new _ _) _)) hg1 (fun e => absurd (Kd.R_lt hTab0.out.ord _ e.symm) (Nat.lt_irrefl _)); have hbE := (World.putObj_heap_other (o := ob) (Nat.ne_of_gt hTab0.out.map.lt)).trans hbE2; have d4 := blk_cell hbE2 1; have d0 := blk_cell hbE 0; have d1 := blk_cell hbE 1; have d2 := blk_cell hbE 2; have d3 := blk_cell hbE 3; simp only [List.getElem?_toArray, List.getElem?_cons_zero, List.getElem?_cons_succ] at d0 d1 d2 d3 d4; replace hbE := Aside0.mk hbE; replace hbE2 := Aside0.mk hbE2)
          all_goals
            have hT3 := Aside0.mk (Tab.new (b := wr.heap.size + 1) (k := Keep.new j x) hTab0.out hp.out hX.out (Nat.le_succ _) (by have := blk_new (wr.alloc (.cells #[.int .i64 x.kind, .int .i64 x.tx, .int .i64 x.var, .int .i64 x.val] 49)) (.cells (keepCells (Keep.new j x) (.slice none 0 0)) 80); rwa [World.size_alloc] at this) rfl hg1 hO1 hmf.out hb.size)
            have hbP : Below w.heap.size w (w2.putObj w1.heap.size ob) := below_weaken hB1 (Nat.le_refl _) (Only.below (S := Is w1.heap.size) ⟨rfl, rfl, rfl, by simp, fun c _ hc => World.putObj_heap_other hc⟩ hB1.size (fun c hc => by cases hc; exact hB))
            have l1 : (ks ++ [Keep.new j x])[ks.length]? = some (Keep.new j x) := by simp
            have l2 : (bs ++ [wr.heap.size + 1])[ks.length]? = some (wr.heap.size + 1) := by rw [← hTab0.out.keeps.lenb]; simp
            have l3 : (vs ++ [Value.slice none 0 0])[ks.length]? = some (.slice none 0 0) := by rw [← hTab0.out.keeps.lenv]; simp
            have hka := Aside0.mk (hT3.out.keeps.at_ ks.length _ _ _ l1 l2 l3)
            replace l1 := Aside0.mk l1
            replace l2 := Aside0.mk l2
            replace l3 := Aside0.mk l3
            have hbP2 := Aside0.mk hbP
            clear hX hTX hp hmf hTab0 hat1 hg1 hO1
            go_wp2_with (go_at_call 39; refine (take_c (Keep.new j x) j x w _ (wr.heap.size + 1) (.slice none 0 0) hka.out hbP2.out (by simp [Keep.new])).mono ?_; rintro e w3 ⟨rfl, htook⟩)
            go_roundw
            case rel =>
              obtain ⟨vs', hT'⟩ := hT3.out.took l1.out l2.out l3.out htook
              obtain ⟨v4, _, _, ho⟩ := htook
              refine ⟨j + 1, by omega, by go_num, below_weaken hbP (Nat.le_refl _) (ho.below hbP.size ?_), ⟨bs ++ [wr.heap.size + 1], vs', by rw [hstep.out]; exact hT'⟩⟩
              rintro c (e | e)
              · subst e; have := hb.size; omega
              · simp [Value.ownBlock] at e
            case measure => simp [intOf]; omega
      · obtain rfl : j = h.length := by omega
        obtain ⟨bs, vs, hTab⟩ := hrel.out
        rw [List.take_length] at hTab
        have hsm := keepF_small h [] 0 0 (Nat.le_refl _) (fun k hk => by simp at hk)
        have htl := Aside0.mk (ht.out.trans (show table h = (keepF [] 0 h).map (·.t) from rfl))
        generalize keepF [] 0 h = ks at hTab hsm htl
        have hks : ks.length ≤ 1000 := by have := hsm.1; omega
        have hbl := Aside0.mk hTab.keeps.lenb
        have hbl2 : bs.length ≤ 1000 := by have := hbl.out; omega
        obtain ⟨oA, oc, rfl⟩ := Kd.R_slice hTab.ord
        replace hTab := Aside0.mk hTab
        obtain ⟨wo, rfl⟩ : ∃ wo : World, wo = wr := ⟨_, rfl⟩
        clear hrel hsm hT
        go_wp2
        go_loopw [11, 13, 57] (fun u _ i wr => ∃ n : Nat, n ≤ bs.length ∧ i = .int .i64 n ∧ Below wo.heap.size wo wr ∧ Aside0 (Own kTxn 34 w wr u ((ks.take n).map (·.t))) ∧ Aside0 (∀ c, u.ownBlock = some c → wo.heap.size ≤ c)) (fun _ _ i _ => bs.length - (intOf i).toNat)
        case atStart => exact ⟨0, Nat.zero_le _, rfl, Below.refl _ _, ⟨Own.nil _ _ _ _⟩, ⟨fun c hc => by simp [Value.ownBlock] at hc⟩⟩
        case round =>
          obtain ⟨n, hn, rfl, hbw, hO, hlow⟩ := hrel
          by_cases hlt2 : n < bs.length
          · obtain ⟨ad, b, he, hbn, c0⟩ := get_Ptr (Kd.R_reads' (hTab.out.ord.below hbw)).2.2 n hlt2
            subst he
            obtain ⟨k, hkn⟩ : ∃ k, ks[n]? = some k := ⟨_, List.getElem?_eq_getElem (by have := hbl.out; omega)⟩
            obtain ⟨v, hvn⟩ : ∃ v, vs[n]? = some v := ⟨_, List.getElem?_eq_getElem (by have := hTab.out.keeps.lenv; have := hbl.out; omega)⟩
            have hka := hTab.out.keeps.at_ n k b v hkn hbn.out hvn
            have hblk := blk_below hka.blk hbw
            have hr : Kd.R kOp 122 wr w.heap.size (fun c => some c ≠ u11.ownBlock) v k.t.ops := Kd.R_below (Kd.R_mono (Kd.R_bound hka.ops) (fun c hc e => by have := hlow.out c e.symm; have := hc.2.2.1; omega)) hbw
            have hp := Aside0.mk (kTxn_mkM wr w.heap.size _ k.t hr)
            have htk : (ks.take (n + 1)).map (·.t) = (ks.take n).map (·.t) ++ [k.t] := by
              obtain ⟨hl, he⟩ := List.getElem?_eq_some_iff.1 hkn
              rw [List.take_succ_eq_append_getElem hl, he]; simp
            replace htk := Aside0.mk htk
            have hl2 : ((ks.take n).map (·.t)).length ≤ 1000 := by simp; omega
            obtain ⟨vA, vc, rfl⟩ := Kd.R_slice hka.ops
            have c1 := blk_cell hblk 0
            have c2 := blk_cell hblk 1
            have c3 := blk_cell hblk 2
            have c4 := blk_cell hblk 3
            have c5 := blk_cell hblk 4
            simp only [keepCells, List.getElem?_toArray, List.getElem?_cons_zero, List.getElem?_cons_succ] at c1 c2 c3 c4 c5
            clear hka hblk hr hkn hvn
            go_wp2_with (at_builtin; refine append_one kTxn (w0 := w) rfl (.tmp 61) (.tmp 66) 27 34 (.agg #[.int .i64 0, .int .i64 0, .int .i64 0, .int .i64 0, .slice none 0 0]) 56 rfl Tryd.underlying27 Tryd.info_Txn rfl (by decide) (by decide) u11 ((ks.take n).map (·.t)) k.t [.int .i64 k.t.name, .int .i64 k.t.first, .int .i64 k.t.last, .int .i64 k.t.state, .slice vA k.t.ops.length vc] rfl rfl hp.out hO.out (below_weaken hb (Nat.le_refl _) (hbw.mono hb.size)) (by omega) ?_; intro v1 w3 hO1 hB1 hg1 hat1)
            go_roundw
            case rel =>
              refine ⟨n + 1, by omega, by go_num, pw_below_grown hbw _ hbw.size hg1 (fun c hc => hlow.out c hc), ⟨by rw [htk.out]; exact hO1⟩, ⟨fun c hc => ?_⟩⟩
              rcases hat1 with e | ⟨d, e, hd⟩
              · exact hlow.out c (e ▸ hc)
              · rw [e] at hc; cases hc; exact Nat.le_trans hbw.size hd
            case measure => simp [intOf]; omega
          · obtain rfl : n = bs.length := by omega
            go_wp2
            go_ret2
            refine ⟨⟨u11, by rw [hw0.out]; rfl, ?_⟩, below_weaken hb (Nat.le_refl _) (hbw.mono hb.size)⟩
            have := hO.out
            rw [hbl.out, List.take_length] at this
            rw [htl.out]
            exact this
end Go.Proofs.YtnogalajfccioaaDoor
