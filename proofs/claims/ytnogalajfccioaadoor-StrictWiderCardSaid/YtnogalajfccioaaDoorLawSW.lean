/- Law StrictWider: the walk. -/
import Derived.Test.YtnogalajfccioaaDoorAlive14
import Derived.Test.YtnogalajfccioaaDoorKeeps
import Derived.Test.YtnogalajfccioaaDoorDelete2
import Derived.Test.YtnogalajfccioaaDoorSerial4
namespace Go.Proofs.YtnogalajfccioaaDoor
open Go.RowKit Go.Proofs.YtnogalajfccioaaDoorW.PrintWords
/-- What is deleted, and what is left. -/
theorem filter_open (l : List Txn) (g : List Ev) : (g.filter fun x => !(!keptN l x.tx)) = justQ (keptN l) g := by
  unfold justQ
  congr 1
  funext x
  simp
theorem mayB_big (g : List Ev) : mayB g 200000 = why g := by
  unfold mayB
  split
  · rfl
  · rename_i h
    rw [if_neg (by omega)]
    omega
theorem keepsB_ok {g : List Ev} (hw : why g = 0) {r : List Nat} (hr : ∀ k, k ∈ r → k < (table g).length) (hk : keepsF (after (table g)) (r.map Int.ofNat) 0 = true) : keepsWhy g (r.map Int.ofNat) = 0 ∧ keepsB g (r.map Int.ofNat) = true := by
  have ha : afterOf g = after (table g) := by simp [afterOf, hw]
  have h1 : keepsWhy g (r.map Int.ofNat) = 0 := by
    unfold keepsWhy
    rw [if_neg (by simp [hw]), ha, if_neg]
    intro h
    obtain ⟨x, hx, ho⟩ := List.any_eq_true.1 h
    obtain ⟨k, hk, rfl⟩ := List.mem_map.1 hx
    have := hr k hk
    simp [odd, after] at ho
    omega
  exact ⟨h1, by unfold keepsB; rw [h1, ha, hk]; rfl⟩
theorem contains_one (row : List Int) (j : Int) [d : Decidable (j ∈ row)] : (!(((((row.contains j).toNat : Nat) : Int) == 1) == decide (j ∈ row))) = false := by
  by_cases h : j ∈ row
  · have h2 : row.contains j = true := List.contains_iff_mem.2 h
    rw [h2, decide_eq_true h]; rfl
  · have h2 : row.contains j = false := by
      cases hc : row.contains j with
      | false => rfl
      | true => exact absurd (List.contains_iff_mem.1 hc) h
    rw [h2, decide_eq_false h]; rfl
set_option maxRecDepth 100000 in
set_option maxHeartbeats 400000 in
theorem StrictWider_c (h : List Ev) (v : Value) (w : World) (hv : In kEv w v h) (hk : Kinds w) :
    Calls Tryd.prog 4 #[v] w fun e w' => e = .returned (.bool true) ∧ Below w.heap.size w w' := by
  obtain ⟨vA, vc, ev, hvc⟩ : ∃ A c, v = .slice A h.length c ∧ h.length ≤ c := by obtain ⟨A, c, e, hle, _⟩ := hv; exact ⟨A, c, e, hle⟩
  subst ev
  have hmax : h.length ≤ 9223372036854775807 := by obtain ⟨A, c, e, _, hC⟩ := hv; exact hC.2.1
  obtain ⟨m, hm, hm1, hm2⟩ : ∃ m : Nat, min ((h.length : Nat) : Int) 65 = m ∧ m ≤ h.length ∧ m ≤ 65 := ⟨min h.length 65, by omega, by omega, by omega⟩
  have hv2 := hv.take hm1
  have hgl : (h.take m).length = m := by simp; omega
  generalize h.take m = g at *
  have hchk := Aside0.mk (fun W (hb : Below w.heap.size w W) => StrictChk_c g 200000 _ W (hv2.below hb) (hk.below hb))
  have hali := Aside0.mk (fun W (hb : Below w.heap.size w W) => alive14_c W (hk.below hb))
  have hkW := Aside0.mk (fun W (hb : Below w.heap.size w W) => hk.below hb)
  have hvW := Aside0.mk (fun W (hb : Below w.heap.size w W) => hv2.below hb)
  rw [mayB_big] at hchk
  have hg1000 := Aside0.mk (show g.length ≤ 1000 by omega)
  replace hv := Aside0.mk hv
  replace hv2 := Aside0.mk hv2
  replace hk := Aside0.mk hk
  replace hgl := Aside0.mk hgl
  cases hw : (why g == 0) with
  | false =>
    have hw1 : (why g != 0) = true := by simpa using hw
    have hz : strictOf g 200000 = zFound := by unfold strictOf; rw [mayB_big, if_neg (by simpa using hw)]
    have hst : zFound.steps = 0 := rfl
    rw [hz] at hchk
    generalize zFound = F at *
    clear hw hz
    go_enter Tryd.func4, Tryd.ntmps4
    go_wp2_with first
      | (go_at_call 14; refine (hchk.out _ (Below.refl _ _)).mono ?_; clear hchk; rintro e w1 ⟨⟨rv, rfl, hO⟩, hb1⟩; obtain ⟨rA, rc, er⟩ := Kd.R_slice hO; subst er; unfold encFound; rw [hst]; have hn := Aside0.mk (blk_new w1 (.cells #[.int .i64 F.verdict, .int .u32 F.commits, .slice rA F.row.length rc, .int .i64 0] 43)); replace hb1 := Aside0.mk hb1; replace hO := Aside0.mk hO)
      | (go_at_call 15; refine (hali.out _ (below_alloc hb1.out _)).mono ?_; clear hali; rintro e w2 ⟨rfl, hb2⟩; have c3 := blk_cell (blk_below hn.out hb2) 3; simp only [List.getElem?_toArray, List.getElem?_cons_zero, List.getElem?_cons_succ] at c3; replace hb2 := Aside0.mk hb2)
    go_ret
    exact ⟨rfl, below_step (below_alloc hb1.out _) hb2.out⟩
  | true =>
    have hw0 : why g = 0 := by simpa using hw
    have hl6 := tbl_len hw0
    have hq := keeps12 g
    have hlaw := sw_law hw0 hq
    have hs : strictOf g 200000 = strict (table g) 200000 := by unfold strictOf; rw [mayB_big, if_pos hw0]; rfl
    have hs2 : strictOf (justQ (keptN (table g)) g) 200000 = strict (table (justQ (keptN (table g)) g)) 200000 := by unfold strictOf; rw [mayB_big, if_pos (why_just hw0)]; rfl
    have hs3 : searchOf g 200000 = search (table g) 200000 := by unfold searchOf; rw [mayB_big, if_pos hw0]; rfl
    have hsea := Aside0.mk (fun W (hb : Below w.heap.size w W) => Search_c g 200000 _ W (hvW.out W hb) (hkW.out W hb))
    have htb := Aside0.mk (fun W (hb : Below w.heap.size w W) => Table_c g _ W (hvW.out W hb) (hkW.out W hb))
    have htab : tableOf g = table g := by simp [tableOf, hw0]
    have hchk2 := Aside0.mk (fun u W (hu : In kEv W u (justQ (keptN (table g)) g)) (hb : Below w.heap.size w W) => StrictChk_c (justQ (keptN (table g)) g) 200000 u W hu (hkW.out W hb))
    have hkee := Aside0.mk (fun (row : List Int) (r : Value) W (hr : In (Kd.int .i64) W r row) (hb : Below w.heap.size w W) => Keeps_c g row _ r W (hvW.out W hb) hr (hkW.out W hb))
    have hlg := Aside0.mk (fun (row : List Int) (c : Nat) (hc : c < 2 ^ 32) (r : Value) W (hr : In (Kd.int .i64) W r row) (hb : Below w.heap.size w W) => Legal_c g row c _ r W (hvW.out W hb) hr hc (hkW.out W hb))
    have huniq := Aside0.mk (fun i j hi hj e => name_inj (h := g) (i := i) (j := j) hi hj e)
    have hfil := Aside0.mk (filter_open (table g) g)
    rw [hw0, hs] at hchk
    rw [mayB_big, why_just hw0, hs2] at hchk2
    rw [mayB_big, hw0, hs3] at hsea
    rw [hw0, htab] at htb
    have hpos : ∀ r : List Nat, (∀ k, k ∈ r → k < (table g).length) → r.Nodup → keepsF (after (table g)) (r.map Int.ofNat) 0 = true → keepsWhy g (r.map Int.ofNat) = 0 ∧ keepsB g (r.map Int.ofNat) = true ∧ mayWhy g (r.map Int.ofNat) = 0 ∧ ∀ c, legalN g (r.map Int.ofNat) c = legal (table g) r c := fun r h1 h2 h3 => ⟨(keepsB_ok hw0 h1 h3).1, (keepsB_ok hw0 h1 h3).2, mayWhy_ok hw0 h1 h2, legalN_ok hw0 h1 h2⟩
    replace hpos := Aside0.mk hpos
    obtain ⟨hl1, hl2, hl3, hl4, hl5⟩ := hlaw
    clear hs hs2 hs3 hw htab hq
    have hmf : ∀ (fn : Fn) (first cap : Array Value) (w : World), (Instr.makeFunc fn first cap).run Tryd.prog w = .ok (.func fn first cap) w := fun _ _ _ _ => rfl
    generalize strict (table g) 200000 = F at *
    generalize search (table g) 200000 = S at *
    generalize strict (table (justQ (keptN (table g)) g)) 200000 = G at *
    generalize table g = l at *
    replace hw0 := Aside0.mk hw0
    have hF2 : (F.verdict == 2) = false := by simpa using hl2
    cases hFv : (F.verdict == 0) with
    | false =>
      have hFn : F.verdict ≠ 0 := by simpa using hFv
      have hFx : (F.verdict != 0) = true := by simpa using hFn
      have hSv : (S.verdict == 0) = false := by
        have : S.verdict ≠ 0 := fun e => hFn (hl1 e)
        simpa using this
      clear hl1 hl2 hl3 hpos hFn hkee hlg
      replace hl4 := Aside0.mk hl4
      replace hl5 := Aside0.mk hl5
      go_enter Tryd.func4, Tryd.ntmps4
--GEN
      go_wp2_with first
        | (go_at_call 14; refine (hchk.out _ (Below.refl _ _)).mono ?_; clear hchk; rintro e w1 ⟨⟨rv, rfl, hO1⟩, hb1⟩; obtain ⟨rA, rc, er⟩ := Kd.R_slice hO1; subst er; unfold encFound; have hn1 := Aside0.mk (blk_new w1 (.cells #[.int .i64 F.verdict, .int .u32 F.commits, .slice rA F.row.length rc, .int .i64 F.steps] 43)); replace hb1 := Aside0.mk hb1; replace hO1 := Aside0.mk hO1)
        | (go_at_call 16; refine (hsea.out _ (below_alloc hb1.out _)).mono ?_; clear hsea; rintro e w2 ⟨⟨rv2, rfl, hO2⟩, hb2⟩; obtain ⟨sA, sc, er2⟩ := Kd.R_slice hO2; subst er2; unfold encFound; have hF2 := Aside0.mk (blk_alloc (blk_below hn1.out hb2) (.cells #[.int .i64 S.verdict, .int .u32 S.commits, .slice sA S.row.length sc, .int .i64 S.steps] 43)); have hS2 := Aside0.mk (blk_new w2 (.cells #[.int .i64 S.verdict, .int .u32 S.commits, .slice sA S.row.length sc, .int .i64 S.steps] 43)); have hB2 := Aside0.mk (below_alloc (below_step (below_alloc hb1.out (.cells #[.int .i64 F.verdict, .int .u32 F.commits, .slice rA F.row.length rc, .int .i64 F.steps] 43)) hb2) (.cells #[.int .i64 S.verdict, .int .u32 S.commits, .slice sA S.row.length sc, .int .i64 S.steps] 43)); replace hb2 := Aside0.mk hb2; replace hO2 := Aside0.mk hO2)
        | (go_at_call 11; refine (htb.out _ hB2.out).mono ?_; clear htb; rintro e w3 ⟨⟨u, rfl, hO3⟩, hb3⟩; obtain ⟨tA, tc, et⟩ := Kd.R_slice hO3; subst et; have hF3 := Aside0.mk (blk_alloc (blk_below hF2.out hb3) (.cells #[.slice tA l.length tc] 27)); have hT3 := Aside0.mk (blk_new w3 (.cells #[.slice tA l.length tc] 27)); have hB3 := Aside0.mk (below_alloc (below_step hB2.out hb3) (.cells #[.slice tA l.length tc] 27)); have a0 := blk_cell (blk_alloc (blk_below hS2.out hb3) (.cells #[.slice tA l.length tc] 27)) 0; have d0 := blk_cell hF3.out 0; simp only [List.getElem?_toArray, List.getElem?_cons_zero] at a0 d0; replace hb3 := Aside0.mk hb3; replace hO3 := Aside0.mk hO3)
        | (go_at_call 15; refine (hali.out _ hB3.out).mono ?_; clear hali; rintro e w4 ⟨rfl, hb4⟩; clear a0 d0; have hF4 := Aside0.mk (blk_below hF3.out hb4); have hT4 := Aside0.mk (blk_below hT3.out hb4); have hB4 := Aside0.mk (below_step hB3.out hb4); have hB34 := Aside0.mk (below_step (below_alloc (Below.refl w3.heap.size w3) (.cells #[.slice tA l.length tc] 27)) hb4); have d0 := blk_cell hF4.out 0; have d1 := blk_cell hF4.out 1; have d2 := blk_cell hF4.out 2; simp only [List.getElem?_toArray, List.getElem?_cons_zero, List.getElem?_cons_succ] at d0 d1 d2; have hO14 := Aside0.mk (hO1.out.inn.below (below_step (below_alloc (below_step (below_alloc (below_step (below_alloc (Below.refl w1.heap.size w1) (.cells #[.int .i64 F.verdict, .int .u32 F.commits, .slice rA F.row.length rc, .int .i64 F.steps] 43)) hb2.out) (.cells #[.int .i64 S.verdict, .int .u32 S.commits, .slice sA S.row.length sc, .int .i64 S.steps] 43)) hb3.out) (.cells #[.slice tA l.length tc] 27)) hb4)); replace hb4 := Aside0.mk hb4)
        | (go_at_call 22; refine (clone_c g _ w4 (hvW.out w4 hB4.out) hg1000.out).mono ?_; rintro e w5 ⟨⟨u5, rfl, hO5⟩, hb5⟩; have hB5 := Aside0.mk (below_step hB4.out hb5); have hF5 := Aside0.mk (blk_below hF4.out hb5); have hT5 := Aside0.mk (blk_below hT4.out hb5); have hB35 := Aside0.mk (below_step hB34.out hb5); have hdel := Aside0.mk (deleteFunc_c 19 #[.pointer (some ⟨w3.heap.size, 0, none⟩)] (fun x => !keptN l x.tx) g u5 w4 w5 hO5 hb5.size hg1000.out enters_sw1 (fun x _ W hW => sw1_c huniq.out x w3.heap.size tA tc W (blk_cell ((hW.block _ (blk_lt hT4.out)).trans hT5.out) 0) ((show Sl kTxn w3 tA tc l from (Kd.R_reads' hO3.out).2).below (hB35.out.trans (hW.mono hB34.out.size))))); rw [hfil.out] at hdel; replace hb5 := Aside0.mk hb5; replace hO5 := Aside0.mk hO5)
        | (go_at_call 21; refine hdel.out.mono ?_; clear hdel; rintro e w6 ⟨⟨u6, rfl, hO6⟩, hb6⟩; have hszc := hB4.out.size; have hB6 := Aside0.mk (hB5.out.trans (hb6.mono hszc)); have hF6 := Aside0.mk ((hb6.block _ (blk_lt hF4.out)).trans hF5.out); replace hb6 := Aside0.mk hb6; replace hO6 := Aside0.mk hO6)
        | (go_at_call 14; refine (hchk2.out _ _ hO6.out.inn hB6.out).mono ?_; clear hchk2; rintro e w7 ⟨⟨rv7, rfl, hO7⟩, hb7⟩; obtain ⟨gA, gc, er7⟩ := Kd.R_slice hO7; subst er7; unfold encFound; rw [hl4.out, hl5.out]; have hB7 := Aside0.mk (below_step hB6.out hb7); have hF7 := blk_alloc (blk_below hF6.out hb7) (.cells #[.int .i64 F.verdict, .int .u32 G.commits, .slice gA F.row.length gc, .int .i64 G.steps] 43); have z0 := blk_cell hF7 0; have z2 := blk_cell hF7 2; simp only [List.getElem?_toArray, List.getElem?_cons_zero, List.getElem?_cons_succ] at z0 z2; replace hF7 := Aside0.mk hF7; replace hb7 := Aside0.mk hb7; replace hO7 := Aside0.mk hO7)
      go_ret
      exact ⟨rfl, below_alloc hB7.out _⟩
    | true =>
      have hFe : F.verdict = 0 := by simpa using hFv
      obtain ⟨r, hr, hnd, hlt, hleg, hkf, hc, hcon⟩ := hl3 hFe
      obtain ⟨k1, k2, k3, k4⟩ := hpos.out r hlt hnd hkf
      have k5 := k4 F.commits
      have hrl : F.row.length = r.length := by rw [hr, List.length_map]
      rw [hleg, ← hrl, ← hr] at k5
      rw [← hr] at k1 k2 k3 hcon
      have hc32 : F.commits < 2 ^ 32 := Nat.lt_of_lt_of_le hc (Nat.pow_le_pow_right (by decide) (by omega))
      have hkee2 := Aside0.mk (fun rv W hr hb => hkee.out F.row rv W hr hb)
      have hlg2 := Aside0.mk (fun rv W hr hb => hlg.out F.row F.commits hc32 rv W hr hb)
      rw [k1, k2] at hkee2
      rw [k3, k5] at hlg2
      clear hl1 hl2 hl3 hpos hkee hlg k1 k2 k3 k4 k5 hFv hF2 hrl hkf hleg hlt hnd
      replace hl4 := Aside0.mk hl4
      replace hl5 := Aside0.mk hl5
      replace hcon := Aside0.mk hcon
      replace hc := Aside0.mk hc
      replace hc32 := Aside0.mk hc32
      replace hr := Aside0.mk hr
      have hml : l.length ≤ 6 := hl6
      cases hSv : (S.verdict == 0)
      all_goals
        go_enter Tryd.func4, Tryd.ntmps4
        go_wp2_with first
          | (go_at_call 14; refine (hchk.out _ (Below.refl _ _)).mono ?_; clear hchk; rintro e w1 ⟨⟨rv, rfl, hO1⟩, hb1⟩; obtain ⟨rA, rc, er⟩ := Kd.R_slice hO1; subst er; unfold encFound; rw [hFe]; have hn1 := Aside0.mk (blk_new w1 (.cells #[.int .i64 0, .int .u32 F.commits, .slice rA F.row.length rc, .int .i64 F.steps] 43)); replace hb1 := Aside0.mk hb1; replace hO1 := Aside0.mk hO1)
          | (go_at_call 16; refine (hsea.out _ (below_alloc hb1.out _)).mono ?_; clear hsea; rintro e w2 ⟨⟨rv2, rfl, hO2⟩, hb2⟩; obtain ⟨sA, sc, er2⟩ := Kd.R_slice hO2; subst er2; unfold encFound; have hF2 := Aside0.mk (blk_alloc (blk_below hn1.out hb2) (.cells #[.int .i64 S.verdict, .int .u32 S.commits, .slice sA S.row.length sc, .int .i64 S.steps] 43)); have hS2 := Aside0.mk (blk_new w2 (.cells #[.int .i64 S.verdict, .int .u32 S.commits, .slice sA S.row.length sc, .int .i64 S.steps] 43)); have hB2 := Aside0.mk (below_alloc (below_step (below_alloc hb1.out (.cells #[.int .i64 0, .int .u32 F.commits, .slice rA F.row.length rc, .int .i64 F.steps] 43)) hb2) (.cells #[.int .i64 S.verdict, .int .u32 S.commits, .slice sA S.row.length sc, .int .i64 S.steps] 43)); replace hb2 := Aside0.mk hb2; replace hO2 := Aside0.mk hO2)
          | (go_at_call 11; refine (htb.out _ hB2.out).mono ?_; clear htb; rintro e w3 ⟨⟨u, rfl, hO3⟩, hb3⟩; obtain ⟨tA, tc, et⟩ := Kd.R_slice hO3; subst et; have hF3 := Aside0.mk (blk_alloc (blk_below hF2.out hb3) (.cells #[.slice tA l.length tc] 27)); have hT3 := Aside0.mk (blk_new w3 (.cells #[.slice tA l.length tc] 27)); have hB3 := Aside0.mk (below_alloc (below_step hB2.out hb3) (.cells #[.slice tA l.length tc] 27)); have a0 := blk_cell (blk_alloc (blk_below hS2.out hb3) (.cells #[.slice tA l.length tc] 27)) 0; have d0 := blk_cell hF3.out 0; simp only [List.getElem?_toArray, List.getElem?_cons_zero] at a0 d0; replace hb3 := Aside0.mk hb3; replace hO3 := Aside0.mk hO3)
          | (go_at_call 15; refine (hali.out _ hB3.out).mono ?_; clear hali; rintro e w4 ⟨rfl, hb4⟩; clear a0 d0; have hF4 := Aside0.mk (blk_below hF3.out hb4); have hT4 := Aside0.mk (blk_below hT3.out hb4); have hB4 := Aside0.mk (below_step hB3.out hb4); have hB34 := Aside0.mk (below_step (below_alloc (Below.refl w3.heap.size w3) (.cells #[.slice tA l.length tc] 27)) hb4); have d0 := blk_cell hF4.out 0; have d1 := blk_cell hF4.out 1; have d2 := blk_cell hF4.out 2; simp only [List.getElem?_toArray, List.getElem?_cons_zero, List.getElem?_cons_succ] at d0 d1 d2; have hO14 := Aside0.mk (hO1.out.inn.below (below_step (below_alloc (below_step (below_alloc (below_step (below_alloc (Below.refl w1.heap.size w1) (.cells #[.int .i64 0, .int .u32 F.commits, .slice rA F.row.length rc, .int .i64 F.steps] 43)) hb2.out) (.cells #[.int .i64 S.verdict, .int .u32 S.commits, .slice sA S.row.length sc, .int .i64 S.steps] 43)) hb3.out) (.cells #[.slice tA l.length tc] 27)) hb4)); replace hb4 := Aside0.mk hb4)
          | (go_at_call 17; refine (hkee2.out _ w4 hO14.out hB4.out).mono ?_; clear hkee2; rintro e w5 ⟨rfl, hb5⟩; clear d0 d1 d2; have hF5 := Aside0.mk (blk_below hF4.out hb5); have hT5 := Aside0.mk (blk_below hT4.out hb5); have hB5 := Aside0.mk (below_step hB4.out hb5); have hB35 := Aside0.mk (below_step hB34.out hb5); have d1 := blk_cell hF5.out 1; have d2 := blk_cell hF5.out 2; simp only [List.getElem?_toArray, List.getElem?_cons_zero, List.getElem?_cons_succ] at d1 d2; have hO15 := Aside0.mk (hO14.out.below hb5); replace hb5 := Aside0.mk hb5)
          | (go_at_call 12; refine (hlg2.out _ w5 hO15.out hB5.out).mono ?_; clear hlg2; rintro e w6 ⟨rfl, hb6⟩; clear d1 d2; have hF6 := Aside0.mk (blk_below hF5.out hb6); have hT6 := Aside0.mk (blk_below hT5.out hb6); have hB6 := Aside0.mk (below_step hB5.out hb6); have hB36 := Aside0.mk (below_step hB35.out hb6); have d0 := blk_cell hT6.out 0; simp only [List.getElem?_toArray, List.getElem?_cons_zero] at d0; have hO16 := Aside0.mk (hO15.out.below hb6); replace hb6 := Aside0.mk hb6)
        go_loopw [13, 91] (fun _ i wr => ∃ j : Nat, j ≤ l.length ∧ i = .int .i64 j ∧ Below w6.heap.size w6 wr) (fun _ i _ => l.length - (intOf i).toNat)
        case atStart => exact ⟨0, Nat.zero_le _, rfl, Below.refl _ _⟩
        case round =>
          obtain ⟨j, hj, rfl, hb6r⟩ := hrel
          have hFr := Aside0.mk (blk_below hF6.out hb6r)
          have hTr := Aside0.mk (blk_below hT6.out hb6r)
          have hBr := Aside0.mk (below_step hB6.out hb6r)
          have hB3r := Aside0.mk (below_step hB36.out hb6r)
          have d1 := blk_cell hFr.out 1
          have d2 := blk_cell hFr.out 2
          simp only [List.getElem?_toArray, List.getElem?_cons_zero, List.getElem?_cons_succ] at d1 d2
          by_cases hlt : j < l.length
          · have hcj := Aside0.mk (hcon.out j hlt)
            have hbit := Aside0.mk (u32_bit hc32.out j)
            have hO1r := Aside0.mk (hO16.out.below hb6r)
            go_wp2
            refine region_qb (by kernel_rfl) (by kernel_rfl) ?_
            iterate 9
              refine quiet_go rfl ?_
              apply Exists.intro
              refine ⟨fun V hV => ?_, ?_⟩
              focus
                have d1' := hV.cell d1
                have d2' := hV.cell d2
                go_simp
                try rfl
            refine quiet_go rfl ⟨.bool (F.row.contains (j : Int)), fun V hV => ?_, ?_⟩
            focus
              refine quiet_call (f := 18) (args := #[.slice rA F.row.length rc, .int .i64 j]) (by go_simp) ((contains_int F.row j _ V (hO1r.out.below hV)).mono ?_)
              rintro e W' ⟨rfl, rfl⟩
              exact ⟨rfl, hV⟩
            refine quiet_go rfl ?_
            apply Exists.intro
            refine ⟨fun V hV => ?_, ?_⟩
            focus
              go_simp
              try rfl
            refine wpQuiet_nil ?_
            intro w9 hB9
            go_simp
            rw [hbit.out, hcj.out, contains_one]
            replace hcon := Aside0.mk hcon
            replace hcj := Aside0.mk hcj
            go_wp2
            go_roundw
            case rel => exact ⟨j + 1, by omega, by go_num, below_step hb6r hB9⟩
            case measure => simp [intOf]; omega
          · obtain rfl : j = l.length := by omega
            go_wp2_with first
              | (go_at_call 22; refine (clone_c g _ wr (hvW.out wr hBr.out) hg1000.out).mono ?_; rintro e w7 ⟨⟨u7, rfl, hO7⟩, hb7⟩; have hB7 := Aside0.mk (below_step hBr.out hb7); have hF7 := Aside0.mk (blk_below hFr.out hb7); have hT7 := Aside0.mk (blk_below hTr.out hb7); have hB37 := Aside0.mk (below_step hB3r.out hb7); have hdel := Aside0.mk (deleteFunc_c 19 #[.pointer (some ⟨w3.heap.size, 0, none⟩)] (fun x => !keptN l x.tx) g u7 wr w7 hO7 hb7.size hg1000.out enters_sw1 (fun x _ W hW => sw1_c huniq.out x w3.heap.size tA tc W (blk_cell ((hW.block _ (blk_lt hTr.out)).trans hT7.out) 0) ((show Sl kTxn w3 tA tc l from (Kd.R_reads' hO3.out).2).below (hB37.out.trans (hW.mono hB3r.out.size))))); rw [hfil.out] at hdel; replace hb7 := Aside0.mk hb7; replace hO7 := Aside0.mk hO7)
              | (go_at_call 21; refine hdel.out.mono ?_; clear hdel; rintro e w8 ⟨⟨u8, rfl, hO8⟩, hb8⟩; have hszc := hBr.out.size; have hB8 := Aside0.mk (hB7.out.trans (hb8.mono hszc)); have hF8 := Aside0.mk ((hb8.block _ (blk_lt hFr.out)).trans hF7.out); replace hb8 := Aside0.mk hb8; replace hO8 := Aside0.mk hO8)
              | (go_at_call 14; refine (hchk2.out _ _ hO8.out.inn hB8.out).mono ?_; clear hchk2; rintro e w9 ⟨⟨rv9, rfl, hO9⟩, hb9⟩; obtain ⟨gA, gc, er9⟩ := Kd.R_slice hO9; subst er9; unfold encFound; rw [hl4.out, hl5.out]; rw [hFe]; have hB9 := Aside0.mk (below_step hB8.out hb9); have hF9 := blk_alloc (blk_below hF8.out hb9) (.cells #[.int .i64 0, .int .u32 G.commits, .slice gA F.row.length gc, .int .i64 G.steps] 43); have z0 := blk_cell hF9 0; have z2 := blk_cell hF9 2; simp only [List.getElem?_toArray, List.getElem?_cons_zero, List.getElem?_cons_succ] at z0 z2; replace hF9 := Aside0.mk hF9; replace hb9 := Aside0.mk hb9; replace hO9 := Aside0.mk hO9)
            go_ret
            exact ⟨rfl, below_alloc hB9.out _⟩
end Go.Proofs.YtnogalajfccioaaDoor
