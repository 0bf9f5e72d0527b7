/- Layers 6 and 7: the place of a transaction by its name; whether a row keeps the order. -/
import Derived.Test.YtnogalajfccioaaDoorLegal3
import Derived.Test.YtnogalajfccioaaDoorAfter3
import Derived.Test.YtnogalajfccioaaDoorQuietB
import Derived.Test.YtnogalajfccioaaDoorP6
namespace Go.Proofs.YtnogalajfccioaaDoor
open Go.RowKit Go.Proofs.YtnogalajfccioaaDoorW.PrintWords
def findI (l : List Txn) (n : Int) : Int := idx (fun t => t.name == n) l
theorem find1_c (n : Int) (b : Nat) (t : Txn) (u : Value) (w : World) (hb : w.cell? ⟨b, 0, none⟩ = some (.int .i64 n)) :
    Calls Tryd.prog 51 #[.agg #[.int .i64 t.name, .int .i64 t.first, .int .i64 t.last, .int .i64 t.state, u], .pointer (some ⟨b, 0, none⟩)] w fun e w' => e = .returned (.bool (t.name == n)) ∧ Below w.heap.size w w' := by
  obtain ⟨nm, f, la, st, ops⟩ := t
  dsimp only
  have hlt : b < w.heap.size := World.block_lt_of_cell? w _ hb
  go_enter Tryd.func51, Tryd.ntmps51
  go_wp2
  go_ret
  exact ⟨rfl, (Below.refl _ _).alloc (Nat.le_refl _) _⟩
def keepsWhy (h : List Ev) (row : List Int) : Int := if why h ≠ 0 then why h else if row.any (odd (afterOf h).length) then 7 else 0
def keepsB (h : List Ev) (row : List Int) : Bool := decide (keepsWhy h row = 0) && keepsF (afterOf h) row 0
theorem keepsF_drop {a : List Nat} {row : List Int} {j : Nat} {x : Int} (hx : row[j]? = some x) (s : Nat) :
    keepsF a (row.drop j) s = if (a.getD x.toNat 0 ||| 2 ^ x.toNat) &&& s = 0 then keepsF a (row.drop (j + 1)) (s ||| 2 ^ x.toNat) else false := by
  obtain ⟨hl, he⟩ := List.getElem?_eq_some_iff.1 hx
  rw [List.drop_eq_getElem_cons hl, he]
  rfl
set_option maxRecDepth 100000 in
theorem keeps1_c (n : Nat) (A : Option Addr) (c : Nat) (b : Nat) (i : Int) (w : World) (hb : w.cell? ⟨b, 0, none⟩ = some (.slice A n c)) :
    Calls Tryd.prog 48 #[.int .i64 i, .pointer (some ⟨b, 0, none⟩)] w fun e w' => e = .returned (.bool (odd n i)) ∧ Below w.heap.size w w' := by
  cases hi : decide (i < 0) with
  | true =>
    have h1 : i < 0 := by simpa using hi
    have ho := Aside0.mk (show odd n i = true by simp [odd, h1])
    go_enter Tryd.func48, Tryd.ntmps48
    go_wp2
    go_ret
    exact ⟨by rw [ho.out]; rfl, Below.refl _ _⟩
  | false =>
    have h1 : ¬ i < 0 := by simpa using hi
    have ho := Aside0.mk (show odd n i = decide ((n : Int) ≤ i) by simp [odd, h1])
    go_enter Tryd.func48, Tryd.ntmps48
    go_wp2
    go_ret
    exact ⟨by rw [ho.out]; rfl, Below.refl _ _⟩
theorem afterOf_lt {h : List Ev} : ∀ a, a ∈ afterOf h → a < 2 ^ (afterOf h).length := by
  intro a ha
  unfold afterOf at ha ⊢
  split at ha
  · rename_i hw
    rw [if_pos hw]
    unfold after at ha ⊢
    obtain ⟨i, _, rfl⟩ := List.mem_map.1 ha
    simpa using mask_lt _ _
  · cases ha
theorem afterOf_len (h : List Ev) : (afterOf h).length ≤ 6 := by
  unfold afterOf
  split
  · simp only [after, List.length_map, List.length_range]; exact table_len (by assumption)
  · simp
set_option maxRecDepth 100000 in
set_option maxHeartbeats 200000 in
theorem Keeps_c (h : List Ev) (row : List Int) (v r : Value) (w : World) (hv : In kEv w v h) (hr : In (Kd.int .i64) w r row) (hk : Kinds w) :
    Calls Tryd.prog 17 #[v, r] w fun e w' => e = .returned (.tuple #[.bool (keepsB h row), .int .i64 (keepsWhy h row)]) ∧ Below w.heap.size w w' := by
  have ht := Aside0.mk (After_c h v w hv hk)
  have hr0 := Aside0.mk hr
  obtain ⟨rA, rc, rfl, hrc, hR0⟩ := hr
  have hmax : row.length ≤ 9223372036854775807 := hR0.2.1
  have hR := Aside0.mk hR0
  clear hR0
  replace hv := Aside0.mk hv
  replace hk := Aside0.mk hk
  have hcall := Aside0.mk (show ∀ args W, (callFunc 48 args).run Tryd.prog W = .ok (.enter 48 args) W from fun _ _ => by kernel_rfl)
  go_enter Tryd.func17, Tryd.ntmps17
  cases hw : (why h == 0) with
  | false =>
    have hw1 : why h ≠ 0 := by simpa using hw
    have hx := Aside0.mk (show keepsWhy h row = why h by simp [keepsWhy, hw1])
    have hx2 := Aside0.mk (show keepsB h row = false by simp [keepsB, hx.out, hw1])
    rw [hx.out, hx2.out]
    replace hw1 : (why h != 0) = true := by simpa using hw1
    go_wp2_with (go_at_call 26; refine ht.out.mono ?_; rintro e w1 ⟨⟨u, rfl, hO⟩, hb⟩; obtain ⟨uA, uc, rfl⟩ := Kd.R_slice hO)
    go_ret2
    exact ⟨rfl, below_alloc hb _⟩
  | true =>
    have hw0 : why h = 0 := by simpa using hw
    have hlen := Aside0.mk (afterOf_len h)
    have hlt := Aside0.mk (afterOf_lt (h := h))
    rw [hw0] at ht
    clear hw
    cases hodd : row.any (odd (afterOf h).length) with
    | true =>
      have hx := Aside0.mk (show keepsWhy h row = 7 by simp [keepsWhy, hw0, hodd])
      have hx2 := Aside0.mk (show keepsB h row = false by simp [keepsB, hx.out])
      rw [hx.out, hx2.out]
      replace hw0 := Aside0.mk hw0
      replace hodd := Aside0.mk hodd
      go_wp2_with first
        | (go_at_call 26; refine ht.out.mono ?_; clear ht; rintro e w1 ⟨⟨u, rfl, hO⟩, hb⟩; obtain ⟨uA, uc, rfl⟩ := Kd.R_slice hO; have hblk := Aside0.mk (blk_new w1 (.cells #[.slice uA (afterOf h).length uc] 55)); have hb1 := Aside0.mk (below_alloc hb (.cells #[.slice uA (afterOf h).length uc] 55)); replace hO := Aside0.mk hO; replace hb := Aside0.mk hb; have hcf := Aside0.mk (containsFunc_int 48 #[.pointer (some ⟨w1.heap.size, 0, none⟩)] (odd (afterOf h).length) row (.slice rA row.length rc) (w1.alloc (.cells #[.slice uA (afterOf h).length uc] 55)) (hr0.out.below hb1.out) hcall.out (fun x _ W hb2 => keeps1_c (afterOf h).length uA uc w1.heap.size x W (odd_cell hblk.out hb2))))
        | (go_at_call 47; refine hcf.out.mono ?_; rintro e w3 ⟨rfl, hb3⟩; rw [hodd.out]; replace hb3 := Aside0.mk hb3)
      go_ret2
      exact ⟨rfl, below_step hb1.out hb3.out⟩
    | false =>
      have hx := Aside0.mk (show keepsWhy h row = 0 by simp [keepsWhy, hw0, hodd])
      have hx2 := Aside0.mk (show keepsB h row = keepsF (afterOf h) row 0 by simp [keepsB, hx.out])
      rw [hx.out, hx2.out]
      replace hw0 := Aside0.mk hw0
      have hin := Aside0.mk (List.any_eq_false.1 hodd)
      replace hodd := Aside0.mk hodd
      generalize afterOf h = aft at *
      go_wp2_with first
        | (go_at_call 26; refine ht.out.mono ?_; clear ht; rintro e w1 ⟨⟨u, rfl, hO⟩, hb⟩; obtain ⟨uA, uc, rfl⟩ := Kd.R_slice hO; have hblk := Aside0.mk (blk_new w1 (.cells #[.slice uA aft.length uc] 55)); have hb1 := Aside0.mk (below_alloc hb (.cells #[.slice uA aft.length uc] 55)); have hC := Aside0.mk (Kd.C_alloc (Kd.R_reads' hO).2.2 (.cells #[.slice uA aft.length uc] 55)); replace hO := Aside0.mk hO; replace hb := Aside0.mk hb; have hcf := Aside0.mk (containsFunc_int 48 #[.pointer (some ⟨w1.heap.size, 0, none⟩)] (odd aft.length) row (.slice rA row.length rc) (w1.alloc (.cells #[.slice uA aft.length uc] 55)) (hr0.out.below hb1.out) hcall.out (fun x _ W hb2 => keeps1_c aft.length uA uc w1.heap.size x W (odd_cell hblk.out hb2))))
        | (go_at_call 47; refine hcf.out.mono ?_; rintro e w3 ⟨rfl, hb3⟩; rw [hodd.out]; replace hb3 := Aside0.mk hb3)
      have hblk3 := Aside0.mk (odd_cell hblk.out hb3.out)
      have hb13 := Aside0.mk (below_step hb1.out hb3.out)
      clear hcf hb hb1
      go_loopw [8, 10, 24] (fun s _ i wr => ∃ j : Nat, j ≤ row.length ∧ i = .int .i64 j ∧ Below w3.heap.size w3 wr ∧ ∃ sn : Nat, s = .int .u32 sn ∧ Aside0 (sn < 2 ^ 6) ∧ Aside0 (keepsF aft row 0 = keepsF aft (row.drop j) sn)) (fun _ _ i _ => row.length - (intOf i).toNat)
      case atStart => exact ⟨0, Nat.zero_le _, rfl, Below.refl _ _, 0, rfl, ⟨by decide⟩, ⟨by simp⟩⟩
      case round =>
        obtain ⟨j, hj, rfl, hb3r, sn, rfl, hsn, hrun⟩ := hrel
        have hbr := below_step hb13.out hb3r
        by_cases hlt2 : j < row.length
        · obtain ⟨ad, x, rfl, hxj, e0⟩ := get_int (Kd.C_below hR.out hbr) j hlt2
          have hxo := hin.out x (List.mem_of_getElem? hxj.out)
          obtain ⟨xn, rfl⟩ : ∃ xn : Nat, x = xn := ⟨x.toNat, by simp [odd] at hxo; omega⟩
          have hxl : xn < aft.length := by simp [odd] at hxo; omega
          clear hxo
          obtain ⟨ad2, a, rfl, hax, e1⟩ := get_u32 (Kd.C_below hC.out (below_step hb3.out hb3r)) xn hxl
          have hstep := Aside0.mk (keepsF_drop (a := aft) hxj.out sn)
          have hl6 := hlen.out
          have ha32 : a < 2 ^ 32 := Nat.lt_of_lt_of_le (hlt.out a (List.mem_of_getElem? hax.out)) (Nat.pow_le_pow_right (by decide) (by omega))
          have hx32 : 2 ^ xn < 2 ^ 32 := u32_pow (by omega)
          have hs32 : sn < 2 ^ 32 := Nat.lt_trans hsn.out (by decide)
          have q1 := u32_shl1 (k := xn) (by omega)
          have q1b := u32_shl1m (k := xn) (by omega)
          have q2 := u32_or ha32 hx32
          have q3 := u32_and (Nat.or_lt_two_pow ha32 hx32) hs32
          have q4 := u32_or hs32 hx32
          have hga : aft.getD (xn : Int).toNat 0 = a := by rw [Int.toNat_natCast, List.getD_eq_getElem?_getD, hax.out]; rfl
          rw [hga, Int.toNat_natCast] at hstep
          have hs6 := Aside0.mk (Nat.or_lt_two_pow hsn.out (Nat.pow_lt_pow_right (by decide : 1 < 2) (show xn < 6 by omega)))
          have hblkr := pw_cell_below hb3r hblk3.out
          replace ha32 := Aside0.mk ha32
          replace hx32 := Aside0.mk hx32
          replace hs32 := Aside0.mk hs32
          replace hga := Aside0.mk hga
          replace q1 := Aside0.mk q1
          replace q1b := Aside0.mk q1b
          replace q2 := Aside0.mk q2
          replace q3 := Aside0.mk q3
          replace q4 := Aside0.mk q4
          cases hz : ((a ||| 2 ^ xn) &&& sn == 0) with
          | true =>
            have hz0 : (a ||| 2 ^ xn) &&& sn = 0 := by simpa using hz
            have hzb : ((((a ||| 2 ^ xn) &&& sn : Nat) : Int) != 0) = false := by rw [hz0]; rfl
            have hst := Aside0.mk (hstep.out.trans (if_pos hz0))
            clear hz hz0
            go_wp2
            refine region_qb (by kernel_rfl) (by kernel_rfl) ?_
            iterate 10
              refine quiet_go rfl ?_
              apply Exists.intro
              refine ⟨fun V hV => ?_, ?_⟩
              focus
                have e1' := hV.cell e1
                have k3' := hV.cell hblkr
                go_simp
                try rfl
            refine wpQuiet_nil ?_
            intro w6 hB6
            go_simp
            rw [q1.out, q2.out, q3.out, hzb]
            go_wp2
            rw [q1b.out, q4.out]
            go_roundw
            case rel => exact ⟨j + 1, by omega, by go_num, below_step hb3r hB6, sn ||| 2 ^ xn, rfl, hs6, ⟨by rw [hrun.out, hst.out]⟩⟩
            case measure => simp [intOf]; omega
          | false =>
            have hz0 : ¬ (a ||| 2 ^ xn) &&& sn = 0 := by simpa using hz
            have hzb : ((((a ||| 2 ^ xn) &&& sn : Nat) : Int) != 0) = true := by simp only [bne_iff_ne, ne_eq]; omega
            have hst := Aside0.mk (hstep.out.trans (if_neg hz0))
            clear hz hz0
            go_wp2
            refine region_qb (by kernel_rfl) (by kernel_rfl) ?_
            iterate 10
              refine quiet_go rfl ?_
              apply Exists.intro
              refine ⟨fun V hV => ?_, ?_⟩
              focus
                have e1' := hV.cell e1
                have k3' := hV.cell hblkr
                go_simp
                try rfl
            refine wpQuiet_nil ?_
            intro w6 hB6
            go_simp
            rw [q1.out, q2.out, q3.out, hzb]
            go_wp2
            go_ret2
            exact ⟨by rw [hrun.out, hst.out]; rfl, below_step hbr hB6⟩
        · go_wp2
          go_ret2
          exact ⟨by rw [hrun.out, List.drop_eq_nil_of_le (by omega)]; rfl, hbr⟩
/-! ### table.Find, and the law's own function on it -/
theorem enters_find : ∀ args W, (callFunc 51 args).run Tryd.prog W = .ok (.enter 51 args) W := enters_of Tryd.func51 (by kernel_rfl) rfl
set_option maxRecDepth 100000 in
theorem Find_c (l : List Txn) (n : Int) (v : Value) (w : World) (hv : In kTxn w v l) :
    Calls Tryd.prog 20 #[v, .int .i64 n] w fun e w' => e = .returned (.tuple #[.int .i64 (if findI l n < 0 then 0 else findI l n), .int .i64 (if findI l n < 0 then 7 else 0)]) ∧ Below w.heap.size w w' := by
  have hb0 := Aside0.mk (below_alloc (Below.refl w.heap.size w) (.cells #[.int .i64 n] 3))
  have hcell := Aside0.mk (blk_new w (.cells #[.int .i64 n] 3))
  have hi := Aside0.mk (indexFunc_Txn 51 #[.pointer (some ⟨w.heap.size, 0, none⟩)] (fun t => t.name == n) l v _ (hv.below hb0.out) enters_find (fun x _ W hW A4 c4 _ => find1_c n w.heap.size x _ W (blk_cell (blk_below hcell.out hW) 0)))
  have hmf : ∀ (fn : Fn) (first cap : Array Value) (w : World), (Instr.makeFunc fn first cap).run Tryd.prog w = .ok (.func fn first cap) w := fun _ _ _ _ => rfl
  replace hv := Aside0.mk hv
  have hfi : idx (fun t : Txn => t.name == n) l = findI l n := rfl
  rw [hfi] at hi
  by_cases hneg : findI l n < 0
  · rw [if_pos hneg, if_pos hneg]
    go_enter Tryd.func20, Tryd.ntmps20
    go_wp2_with (go_at_call 50; refine hi.out.mono ?_; clear hi; rintro e w1 ⟨rfl, hb⟩)
    go_ret2
    exact ⟨rfl, below_step hb0.out hb⟩
  · rw [if_neg hneg, if_neg hneg]
    go_enter Tryd.func20, Tryd.ntmps20
    go_wp2_with (go_at_call 50; refine hi.out.mono ?_; clear hi; rintro e w1 ⟨rfl, hb⟩)
    go_ret2
    exact ⟨rfl, below_step hb0.out hb⟩
/-- The place of a name, and whether its transaction is kept. -/
theorem find_kept {l : List Txn} (hu : ∀ i j, i < l.length → j < l.length → (at_ l i).name = (at_ l j).name → i = j) (n : Int) :
    (findI l n < 0 ∧ keptN l n = false) ∨ ∃ (j : Nat) (t : Txn), findI l n = j ∧ l[j]? = some t ∧ j < l.length ∧ keptN l n = (t.state != 3 && t.state != 0) := by
  unfold findI idx
  cases hf : l.findIdx? (fun t => t.name == n) with
  | none =>
    left
    refine ⟨by show (-1 : Int) < 0; decide, ?_⟩
    unfold keptN
    rw [List.any_eq_false]
    intro x hx
    have := List.findIdx?_eq_none_iff.1 hf x hx
    simp at this
    simp [this]
  | some j =>
    obtain ⟨hj, hp, _⟩ := List.findIdx?_eq_some_iff_getElem.1 hf
    refine .inr ⟨j, l[j], rfl, List.getElem?_eq_getElem hj, hj, ?_⟩
    have hp1 : l[j].name = n := by simpa using hp
    rw [Bool.eq_iff_iff]
    unfold keptN
    rw [List.any_eq_true]
    constructor
    · rintro ⟨x, hx, h1⟩
      obtain ⟨i, hi, e⟩ := at_mem hx
      rw [Bool.and_eq_true, beq_iff_eq] at h1
      have := hu i j hi hj (by rw [e, at_get hj, h1.1, hp1])
      subst this
      rw [at_get hj] at e
      rw [e]
      exact h1.2
    · intro h1
      exact ⟨l[j], List.getElem_mem hj, by rw [h1, hp1]; simp⟩
theorem enters_sw1 : ∀ args W, (callFunc 19 args).run Tryd.prog W = .ok (.enter 19 args) W := enters_of Tryd.func19 (by kernel_rfl) rfl
set_option maxRecDepth 100000 in
set_option maxHeartbeats 1000000 in
theorem sw1_c {l : List Txn} (hu : ∀ i j, i < l.length → j < l.length → (at_ l i).name = (at_ l j).name → i = j) (x : Ev) (b : Nat) (A : Option Addr) (c : Nat) (W : World)
    (hb : W.cell? ⟨b, 0, none⟩ = some (.slice A l.length c)) (hC : Sl kTxn W A c l) :
    Calls Tryd.prog 19 #[.agg #[.int .i64 x.kind, .int .i64 x.tx, .int .i64 x.var, .int .i64 x.val], .pointer (some ⟨b, 0, none⟩)] W fun e W' => e = .returned (.bool (!keptN l x.tx)) ∧ Below W.heap.size W W' := by
  have hB := below_alloc (Below.refl W.heap.size W) (.cells #[.int .i64 x.kind, .int .i64 x.tx, .int .i64 x.var, .int .i64 x.val] 49)
  have hb2 := pw_cell_below hB hb
  have hfd := Aside0.mk (Find_c l x.tx (.slice A l.length c) _ (show In kTxn _ (.slice A l.length c) l from ⟨A, c, rfl, hC.below hB⟩))
  have hm : l.length ≤ 9223372036854775807 := hC.2.2.1
  replace hB := Aside0.mk hB
  replace hC := Aside0.mk hC
  rcases find_kept hu x.tx with ⟨h1, h2⟩ | ⟨j, t, h1, h2, h3, h4⟩
  · rw [if_pos h1, if_pos h1] at hfd
    rw [h2]
    go_enter Tryd.func19, Tryd.ntmps19
    go_wp2_with (go_at_call 20; refine hfd.out.mono ?_; clear hfd; rintro e w1 ⟨rfl, hb1⟩)
    go_ret
    exact ⟨rfl, below_step hB.out hb1⟩
  · have hneg : ¬ findI l x.tx < 0 := by omega
    rw [if_neg hneg, if_neg hneg, h1] at hfd
    clear hneg
    rw [h4]
    replace h2 := Aside0.mk h2
    replace h4 := Aside0.mk h4
    clear h1
    go_enter Tryd.func19, Tryd.ntmps19
    have fin : ∀ w1, Below (W.alloc (.cells #[.int .i64 x.kind, .int .i64 x.tx, .int .i64 x.var, .int .i64 x.val] 49)).heap.size (W.alloc (.cells #[.int .i64 x.kind, .int .i64 x.tx, .int .i64 x.var, .int .i64 x.val] 49)) w1 → Below W.heap.size W w1 := fun w1 h => below_step hB.out h
    replace fin := Aside0.mk fin
    have hget := Aside0.mk (fun w1 (hb1 : Below (W.alloc (.cells #[.int .i64 x.kind, .int .i64 x.tx, .int .i64 x.var, .int .i64 x.val] 49)).heap.size (W.alloc (.cells #[.int .i64 x.kind, .int .i64 x.tx, .int .i64 x.var, .int .i64 x.val] 49)) w1) => get_Txn (hC.out.below (fin.out w1 hb1)).2 j h3)
    cases e3 : (t.state == 3) with
    | true =>
      have e4 : t.state = 3 := by simpa using e3
      rw [e4]
      go_wp2_with (go_at_call 20; refine hfd.out.mono ?_; clear hfd; rintro e w1 ⟨rfl, hb1⟩; obtain ⟨ad, y, A4, c4, rfl, hy, a0, a1, a2, a3, a4, s4⟩ := hget.out w1 hb1; obtain rfl : t = y := Option.some.inj (h2.out.symm.trans hy.out); have k1 := pw_cell_below hb1 hb2; rw [e4] at a3)
      go_ret
      exact ⟨rfl, fin.out _ hb1⟩
    | false =>
      cases e0 : (t.state == 0) with
      | true =>
        have e4 : t.state = 0 := by simpa using e0
        rw [e4]
        go_wp2_with (go_at_call 20; refine hfd.out.mono ?_; clear hfd; rintro e w1 ⟨rfl, hb1⟩; obtain ⟨ad, y, A4, c4, rfl, hy, a0, a1, a2, a3, a4, s4⟩ := hget.out w1 hb1; obtain rfl : t = y := Option.some.inj (h2.out.symm.trans hy.out); have k1 := pw_cell_below hb1 hb2; rw [e4] at a3)
        go_ret
        exact ⟨rfl, fin.out _ hb1⟩
      | false =>
        have hr : (!(t.state != 3 && t.state != 0)) = false := by simp [bne, e3, e0]
        rw [hr]
        go_wp2_with (go_at_call 20; refine hfd.out.mono ?_; clear hfd; rintro e w1 ⟨rfl, hb1⟩; obtain ⟨ad, y, A4, c4, rfl, hy, a0, a1, a2, a3, a4, s4⟩ := hget.out w1 hb1; obtain rfl : t = y := Option.some.inj (h2.out.symm.trans hy.out); have k1 := pw_cell_below hb1 hb2)
        go_ret
        exact ⟨rfl, fin.out _ hb1⟩
end Go.Proofs.YtnogalajfccioaaDoor
