/- Law OpaqueSerial: the walk. -/
import Derived.Test.YtnogalajfccioaaDoorLawOS
namespace Go.Proofs.YtnogalajfccioaaDoor
open Go.RowKit Go.Proofs.YtnogalajfccioaaDoorW.PrintWords
theorem range_snoc (j : Nat) : (List.range (j + 1)).map Int.ofNat = (List.range j).map Int.ofNat ++ [(j : Int)] := by rw [List.range_succ, List.map_append]; rfl
/-- What is asked of the events, plain. -/
theorem os_law {g : List Ev} (hw : why g = 0) (hs : serialB g = true) : legal (table g) (List.range (table g).length) (bits (table g) 2) < (table g).length ∨ (checkF g 125184).verdict = 0 := by
  have hle := legalF_le (table g) (bits (table g) 2) (List.range (table g).length) Mem0
  rw [List.length_range] at hle
  rcases Nat.lt_or_eq_of_le hle with h | h
  · exact .inl h
  · exact .inr (opaque_serial (table_len hw) hs h)
set_option maxRecDepth 100000 in
set_option maxHeartbeats 2000000 in
theorem OpaqueSerial_c (h : List Ev) (v : Value) (w : World) (hv : In kEv w v h) (hk : Kinds w) :
    Calls Tryd.prog 3 #[v] w fun e w' => e = .returned (.bool true) ∧ Below w.heap.size w w' := by
  obtain ⟨vA, vc, ev, hvc⟩ : ∃ A c, v = .slice A h.length c ∧ h.length ≤ c := by obtain ⟨A, c, e, hle, _⟩ := hv; exact ⟨A, c, e, hle⟩
  subst ev
  have hmax : h.length ≤ 9223372036854775807 := by obtain ⟨A, c, e, _, hC⟩ := hv; exact hC.2.1
  obtain ⟨m, hm, hm1, hm2⟩ : ∃ m : Nat, min ((h.length : Nat) : Int) 62 = m ∧ m ≤ h.length ∧ m ≤ 62 := ⟨min h.length 62, by omega, by omega, by omega⟩
  have hv2 := hv.take hm1
  have hgl : (h.take m).length = m := by simp; omega
  generalize h.take m = g at *
  have hser := Aside0.mk (fun W (hb : Below w.heap.size w W) => Serial_c g _ W (hv2.below hb) (hk.below hb))
  have hali := Aside0.mk (fun W (hb : Below w.heap.size w W) => alive13_c W (hk.below hb))
  replace hv := Aside0.mk hv
  replace hv2 := Aside0.mk hv2
  replace hk := Aside0.mk hk
  replace hgl := Aside0.mk hgl
  cases hsi : serialIs g with
  | false =>
    rw [hsi] at hser
    replace hsi := Aside0.mk hsi
    cases hw : (why g == 0) with
    | false =>
      have hw1 : (why g != 0) = true := by simpa using hw
      clear hw
      go_enter Tryd.func3, Tryd.ntmps3
      go_wp2_with first
        | (go_at_call 9; refine (hser.out _ (Below.refl _ _)).mono ?_; clear hser; rintro e w1 ⟨rfl, hb1⟩; replace hb1 := Aside0.mk hb1)
        | (go_at_call 10; refine (hali.out _ hb1.out).mono ?_; clear hali; rintro e w2 ⟨rfl, hb2⟩; replace hb2 := Aside0.mk hb2)
      go_ret
      exact ⟨rfl, below_step hb1.out hb2.out⟩
    | true =>
      have hw0 : why g = 0 := by simpa using hw
      rw [hw0] at hser
      replace hw0 := Aside0.mk hw0
      clear hw
      go_enter Tryd.func3, Tryd.ntmps3
      go_wp2_with first
        | (go_at_call 9; refine (hser.out _ (Below.refl _ _)).mono ?_; clear hser; rintro e w1 ⟨rfl, hb1⟩; replace hb1 := Aside0.mk hb1)
        | (go_at_call 10; refine (hali.out _ hb1.out).mono ?_; clear hali; rintro e w2 ⟨rfl, hb2⟩; replace hb2 := Aside0.mk hb2)
      go_ret
      exact ⟨rfl, below_step hb1.out hb2.out⟩
  | true =>
    rw [hsi] at hser
    have hsi2 : why g = 0 ∧ serialB g = true := by simpa [serialIs] using hsi
    obtain ⟨hw0, hsb⟩ := hsi2
    rw [hw0] at hser
    have hl6 := table_len hw0
    have hlaw := Aside0.mk (os_law hw0 hsb)
    have hmay : mayB g 125184 = 0 := by unfold mayB; rw [if_neg (by simp [hw0]), if_neg (by omega)]
    have hco : checkOf g 125184 = checkF g 125184 := by unfold checkOf; rw [if_pos hmay]; rfl
    have htab : tableOf g = table g := by simp [tableOf, hw0]
    have htb := Aside0.mk (fun W (hb : Below w.heap.size w W) => Table_c g _ W (hv2.out.below hb) (hk.out.below hb))
    have hch := Aside0.mk (fun W (hb : Below w.heap.size w W) => Check_c g 125184 _ W (hv2.out.below hb) (hk.out.below hb))
    rw [hco, hmay] at hch
    rw [hw0, htab] at htb
    have hlg := Aside0.mk (fun W (hb : Below w.heap.size w W) (r : Value) (hr : In (Kd.int .i64) W r ((List.range (table g).length).map Int.ofNat)) => Legal_c g _ (bits (table g) 2) _ r W (hv2.out.below hb) hr (Nat.lt_trans (bits_lt _ 2 hl6) (by decide)) (hk.out.below hb))
    have hmw := mayWhy_ok hw0 (row := List.range (table g).length) (fun k hk => List.mem_range.1 hk) List.nodup_range
    have hln := legalN_ok hw0 (row := List.range (table g).length) (fun k hk => List.mem_range.1 hk) List.nodup_range (bits (table g) 2)
    rw [hmw, hln] at hlg
    have hbits := Aside0.mk (show mask (table g).length (fun i => (at_ (table g) i).state == 2) = bits (table g) 2 from rfl)
    clear hsi hmay hco htab hmw hln
    replace hw0 := Aside0.mk hw0
    replace hsb := Aside0.mk hsb
    generalize legal (table g) (List.range (table g).length) (bits (table g) 2) = L at *
    generalize checkF g 125184 = F at *
    generalize table g = l at *
    go_enter Tryd.func3, Tryd.ntmps3
    go_wp2_with first
      | (go_at_call 9; refine (hser.out _ (Below.refl _ _)).mono ?_; clear hser; rintro e w1 ⟨rfl, hb1⟩; replace hb1 := Aside0.mk hb1)
      | (go_at_call 11; refine (htb.out _ hb1.out).mono ?_; clear htb; rintro e w2 ⟨⟨u, rfl, hO⟩, hb2⟩; obtain ⟨tA, tc, et⟩ := Kd.R_slice hO; subst et; replace hO := Aside0.mk hO; replace hb2 := Aside0.mk (below_step hb1.out hb2))
    have hwb := hb2.out
    go_loopw [7, 8, 9, 10, 43] (fun cm r _ _ i wr => ∃ (j x : Nat) (rA : Option Addr) (rc : Nat), j ≤ l.length ∧ i = .int .i64 j ∧ cm = .int .u32 x ∧ Aside0 (x = mask j (fun i => (at_ l i).state == 2)) ∧ r = .slice rA j rc ∧ Aside0 (Own (Kd.int .i64) 3 w2 wr (.slice rA j rc) ((List.range j).map Int.ofNat)) ∧ Below w.heap.size w wr ∧ Aside0 (Below w2.heap.size w2 wr)) (fun _ _ _ _ i _ => l.length - (intOf i).toNat)
    case atStart => exact ⟨0, 0, none, 0, Nat.zero_le _, rfl, rfl, ⟨rfl⟩, rfl, ⟨Own.nil _ _ _ _⟩, hwb, ⟨Below.refl _ _⟩⟩
    case round =>
      obtain ⟨j, x, rA, rc, hj, rfl, rfl, hx, rfl, hR, hbw, hb2w⟩ := hrel
      by_cases hlt : j < l.length
      · obtain ⟨ad, t, Ai, ci, e, hxt, a0, a1, a2, a3, a4, a5⟩ := get_Txn (Kd.C_below (Kd.R_reads' hO.out).2.2 hb2w.out) j hlt
        subst e
        have hs := Aside0.mk (show mask (j + 1) (fun i => (at_ l i).state == 2) = x ||| (if t.state == 2 then 2 ^ j else 0) by
          have h1 := hxt.out
          have h2 := hx.out
          rw [h2, mask, at_, List.getD_eq_getElem?_getD, h1]
          rfl)
        have hxl := Aside0.mk (show x < 2 ^ 32 by have := hx.out; rw [this]; exact mask_lt32 _ (by omega))
        replace a5 := Aside0.mk a5
        cases hst : (t.state == 2) with
        | true =>
          rw [hst] at hs
          go_wp2_with (at_builtin; refine append_one (Kd.int .i64) (w0 := w2) rfl (.tmp 48) (.tmp 50) 31 3 (.int .i64 0) 8 rfl Tryd.underlying31 Tryd.info_int rfl (by decide) (by decide) _ ((List.range j).map Int.ofNat) (j : Int) [.int .i64 j] rfl (by simp only [World.size_alloc]; rfl) rfl (hR.out.below (below_alloc (Below.refl _ _) _)) (below_alloc hb2w.out _) (by simp; omega) ?_; intro v1 w4 hO4 hB4 hg4 _; obtain ⟨vA4, vc4, ev4⟩ := Kd.R_slice hO4; rw [show ((List.range j).map Int.ofNat ++ [(j : Int)]).length = j + 1 by simp] at ev4; subst ev4; have hb4 := blk_grown (blk_new wr (.cells #[.int .i64 t.name, .int .i64 t.first, .int .i64 t.last, .int .i64 t.state, .slice Ai t.ops.length ci] 34)) hg4 (fun e => absurd (Kd.R_lt hR.out _ e.symm) (Nat.lt_irrefl _)); have d3 := blk_cell hb4 3; simp only [List.getElem?_toArray, List.getElem?_cons_zero, List.getElem?_cons_succ] at d3; rw [← range_snoc] at hO4; replace hO4 := Aside0.mk hO4; replace hb4 := Aside0.mk hb4; replace hg4 := Aside0.mk hg4; have hB4w := Aside0.mk (below_step hwb hB4); replace hB4 := Aside0.mk hB4)
          rw [u32_shl1m (show j < 32 by omega), u32_or hxl.out (u32_pow (show j < 32 by omega))]
          go_roundw
          case rel => exact ⟨j + 1, x ||| 2 ^ j, vA4, vc4, by omega, by go_num, rfl, ⟨hs.out.symm⟩, rfl, hO4, hB4w.out, hB4⟩
          case measure => simp [intOf]; omega
        | false =>
          rw [hst] at hs
          go_wp2_with (at_builtin; refine append_one (Kd.int .i64) (w0 := w2) rfl (.tmp 48) (.tmp 50) 31 3 (.int .i64 0) 8 rfl Tryd.underlying31 Tryd.info_int rfl (by decide) (by decide) _ ((List.range j).map Int.ofNat) (j : Int) [.int .i64 j] rfl (by simp only [World.size_alloc]; rfl) rfl (hR.out.below (below_alloc (Below.refl _ _) _)) (below_alloc hb2w.out _) (by simp; omega) ?_; intro v1 w4 hO4 hB4 hg4 _; obtain ⟨vA4, vc4, ev4⟩ := Kd.R_slice hO4; rw [show ((List.range j).map Int.ofNat ++ [(j : Int)]).length = j + 1 by simp] at ev4; subst ev4; have hb4 := blk_grown (blk_new wr (.cells #[.int .i64 t.name, .int .i64 t.first, .int .i64 t.last, .int .i64 t.state, .slice Ai t.ops.length ci] 34)) hg4 (fun e => absurd (Kd.R_lt hR.out _ e.symm) (Nat.lt_irrefl _)); have d3 := blk_cell hb4 3; simp only [List.getElem?_toArray, List.getElem?_cons_zero, List.getElem?_cons_succ] at d3; rw [← range_snoc] at hO4; replace hO4 := Aside0.mk hO4; replace hb4 := Aside0.mk hb4; replace hg4 := Aside0.mk hg4; have hB4w := Aside0.mk (below_step hwb hB4); replace hB4 := Aside0.mk hB4)
          go_roundw
          case rel => exact ⟨j + 1, x, vA4, vc4, by omega, by go_num, rfl, ⟨by rw [hs.out]; simp⟩, rfl, hO4, hB4w.out, hB4⟩
          case measure => simp [intOf]; omega
      · obtain rfl : j = l.length := by omega
        rw [hbits.out] at hx
        obtain rfl := hx.out
        have hleg := Aside0.mk (hlg.out wr hbw _ hR.out.inn)
        by_cases hlt2 : L < l.length
        · go_wp2_with first
            | (go_at_call 12; refine hleg.out.mono ?_; clear hleg; rintro e w5 ⟨rfl, hb5⟩; have hB5 := Aside0.mk (below_step hbw hb5))
            | (go_at_call 13; refine (hch.out _ hB5.out).mono ?_; clear hch; rintro e w6 ⟨⟨rv6, rfl, hO6⟩, hb6⟩; obtain ⟨rA6, rc6, er6⟩ := Kd.R_slice hO6; subst er6; have hB6 := Aside0.mk (below_step hB5.out hb6); unfold encChk)
            | (go_at_call 10; refine (hali.out _ (hB6.out.alloc hB6.out.size _)).mono ?_; clear hali; rintro e w7 ⟨rfl, hb7⟩)
          go_ret
          exact ⟨rfl, below_step (hB6.out.alloc hB6.out.size _) hb7⟩
        · have hver : F.verdict = 0 := hlaw.out.resolve_left hlt2
          go_wp2_with first
            | (go_at_call 12; refine hleg.out.mono ?_; clear hleg; rintro e w5 ⟨rfl, hb5⟩; have hB5 := Aside0.mk (below_step hbw hb5))
            | (go_at_call 13; refine (hch.out _ hB5.out).mono ?_; clear hch; rintro e w6 ⟨⟨rv6, rfl, hO6⟩, hb6⟩; obtain ⟨rA6, rc6, er6⟩ := Kd.R_slice hO6; subst er6; have hB6 := Aside0.mk (below_step hB5.out hb6); unfold encChk; rw [hver])
            | (go_at_call 10; refine (hali.out _ (hB6.out.alloc hB6.out.size _)).mono ?_; clear hali; rintro e w7 ⟨rfl, hb7⟩; have hc7 := pw_cell_below hb7 (blk_cell (blk_new w6 (.cells #[.int .i64 0, .int .i64 F.place, .int .u32 F.commits, .slice rA6 F.row.length rc6, .int .i64 F.steps] 38)) 0))
          go_ret
          exact ⟨rfl, below_step (hB6.out.alloc hB6.out.size _) hb7⟩
end Go.Proofs.YtnogalajfccioaaDoor
