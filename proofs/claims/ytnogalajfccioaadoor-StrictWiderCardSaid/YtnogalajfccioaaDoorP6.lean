/- Events of some transactions alone, plain: their table, and what it says of order, choices and rows. -/
import Derived.Test.YtnogalajfccioaaDoorP5
namespace Go.Proofs.YtnogalajfccioaaDoor
/-! ### places of what is kept -/
def rank {α : Type} (q : α → Bool) (h : List α) (n : Nat) : Nat := ((h.take n).filter q).length
theorem filter_get {α : Type} {q : α → Bool} {h : List α} {n : Nat} {e : α} (he : h[n]? = some e) (hq : q e = true) : (h.filter q)[rank q h n]? = some e := by
  obtain ⟨hl, rfl⟩ := List.getElem?_eq_some_iff.1 he
  have hs : h = h.take n ++ h[n] :: h.drop (n + 1) := by
    rw [← List.drop_eq_getElem_cons hl, List.take_append_drop]
  have hf : h.filter q = (h.take n).filter q ++ h[n] :: (h.drop (n + 1)).filter q := by
    conv => lhs; rw [hs]
    rw [List.filter_append, List.filter_cons, if_pos hq]
  unfold rank
  rw [hf, List.getElem?_append_right (Nat.le_refl _)]
  simp
theorem rank_le {α : Type} (q : α → Bool) (h : List α) {m n : Nat} (hmn : m ≤ n) : rank q h m ≤ rank q h n := by
  unfold rank
  exact (List.Sublist.filter q (List.take_sublist_take_left hmn)).length_le
theorem rank_lt {α : Type} {q : α → Bool} {h : List α} {m n : Nat} {e : α} (hmn : m < n) (he : h[m]? = some e) (hq : q e = true) : rank q h m < rank q h n := by
  refine Nat.lt_of_lt_of_le ?_ (rank_le q h (show m + 1 ≤ n from hmn))
  unfold rank
  rw [List.take_add_one, he, List.filter_append]
  simp [hq]
theorem filter_pos {α : Type} {q : α → Bool} : ∀ {h : List α} {i : Nat} {e : α}, (h.filter q)[i]? = some e → ∃ n, h[n]? = some e ∧ q e = true ∧ rank q h n = i
  | [], i, e, he => by simp at he
  | x :: h, i, e, he => by
    rw [List.filter_cons] at he
    split at he
    · rename_i hx
      cases i with
      | zero =>
        have : x = e := by simpa using he
        subst this
        exact ⟨0, rfl, hx, rfl⟩
      | succ i =>
        obtain ⟨n, h1, h2, h3⟩ := filter_pos (show (h.filter q)[i]? = some e by simpa using he)
        refine ⟨n + 1, by simpa using h1, h2, ?_⟩
        unfold rank at h3 ⊢
        rw [List.take_succ_cons, List.filter_cons, if_pos hx, List.length_cons, h3]
    · rename_i hx
      obtain ⟨n, h1, h2, h3⟩ := filter_pos he
      refine ⟨n + 1, by simpa using h1, h2, ?_⟩
      unfold rank at h3 ⊢
      rw [List.take_succ_cons, List.filter_cons, if_neg hx, h3]

/-! ### tables of what is kept -/
section
variable {q : Int → Bool} {h : List Ev}
/-- The events of the names that are kept. -/
def justQ (q : Int → Bool) (h : List Ev) : List Ev := h.filter fun e => q e.tx
theorem mine_just {t : Int} (ht : q t = true) : mine (justQ q h) t = mine h t := by
  unfold mine justQ
  rw [List.filter_filter]
  refine List.filter_congr fun e _ => ?_
  by_cases he : e.tx = t
  · simp [he, ht]
  · simp [he]
/-- A place of the table of what is kept, and its place in the table of all. -/
structure Same (q : Int → Bool) (h : List Ev) (i j : Nat) : Prop where
  li : i < (table (justQ q h)).length
  lj : j < (table h).length
  name : (at_ (table (justQ q h)) i).name = (at_ (table h) j).name
  kept : q (at_ (table h) j).name = true
  state : (at_ (table (justQ q h)) i).state = (at_ (table h) j).state
  ops : (at_ (table (justQ q h)) i).ops = (at_ (table h) j).ops
  first : ∃ f : Nat, (at_ (table h) j).first = f ∧ (at_ (table (justQ q h)) i).first = (rank (fun e : Ev => q e.tx) h f : Nat) ∧ ∃ e, h[f]? = some e ∧ q e.tx = true
  last : ∃ f : Nat, (at_ (table h) j).last = f ∧ (at_ (table (justQ q h)) i).last = (rank (fun e : Ev => q e.tx) h f : Nat) ∧ ∃ e, h[f]? = some e ∧ q e.tx = true
theorem same_of {i j : Nat} (li : i < (table (justQ q h)).length) (lj : j < (table h).length) (hn : (at_ (table (justQ q h)) i).name = (at_ (table h) j).name) (hq : q (at_ (table h) j).name = true) : Same q h i j := by
  obtain ⟨a, _, ea, ha⟩ := table_get li
  obtain ⟨b, _, eb, hb⟩ := table_get lj
  rw [ea, eb] at hn
  rw [eb] at hq
  have hst := ha.stat
  rw [hn, mine_just hq, ← hb.stat] at hst
  simp only [Prod.mk.injEq] at hst
  obtain ⟨f, l, f1, f2, f3, f4, ⟨ef, f5, f6⟩, ⟨el, f7, f8⟩, f9⟩ := hb.span
  obtain ⟨f', l', g1, g2, g3, g4, ⟨ef', g5, g6⟩, ⟨el', g7, g8⟩, g9⟩ := ha.span
  have qf : q ef.tx = true := by rw [f6]; exact hq
  have ql : q el.tx = true := by rw [f8]; exact hq
  have hf : f' = rank (fun e : Ev => q e.tx) h f := by
    obtain ⟨n, n1, n2, n3⟩ := filter_pos g5
    have h1 := (f9 n ef' n1 (by rw [g6, hn])).1
    have h2 := rank_le (fun e : Ev => q e.tx) h h1
    have h3 := (g9 _ _ (filter_get (q := fun e : Ev => q e.tx) f5 qf) (by rw [f6, hn])).1
    omega
  have hl : l' = rank (fun e : Ev => q e.tx) h l := by
    obtain ⟨n, n1, n2, n3⟩ := filter_pos g7
    have h1 := (f9 n el' n1 (by rw [g8, hn])).2
    have h2 := rank_le (fun e : Ev => q e.tx) h h1
    have h3 := (g9 _ _ (filter_get (q := fun e : Ev => q e.tx) f7 ql) (by rw [f8, hn])).2
    omega
  subst hf hl
  refine ⟨li, lj, by rw [ea, eb]; exact hn, by rw [eb]; exact hq, by rw [ea, eb]; exact hst.1, by rw [ea, eb]; exact hst.2.1, ⟨f, by rw [eb, f1], by rw [ea, g1], ef, f5, qf⟩, ⟨l, by rw [eb, f2], by rw [ea, g2], el, f7, ql⟩⟩
theorem table_name {h : List Ev} {e : Ev} (he : e ∈ h) : ∃ j, j < (table h).length ∧ (at_ (table h) j).name = e.tx := by
  obtain ⟨k, hk, hn⟩ := (tabInv h).all e he
  obtain ⟨j, hj⟩ := List.mem_iff_getElem?.1 hk
  have hl : j < (table h).length := by have := (List.getElem?_eq_some_iff.1 hj).1; simpa [table] using this
  obtain ⟨k', h1, h2, _⟩ := table_get hl
  rw [hj] at h1
  cases h1
  exact ⟨j, hl, by rw [h2, hn]⟩
theorem name_inj {h : List Ev} {i j : Nat} (hi : i < (table h).length) (hj : j < (table h).length) (e : (at_ (table h) i).name = (at_ (table h) j).name) : i = j := by
  obtain ⟨a, a1, a2, _⟩ := table_get hi
  obtain ⟨b, b1, b2, _⟩ := table_get hj
  rw [a2, b2] at e
  rcases Nat.decEq i j with h1 | h1
  · exact absurd e ((tabInv h).name_ne a1 b1 h1)
  · exact h1
theorem table_event {h : List Ev} {j : Nat} (hj : j < (table h).length) : ∃ e, e ∈ h ∧ e.tx = (at_ (table h) j).name := by
  obtain ⟨b, _, b2, b3⟩ := table_get hj
  obtain ⟨f, l, _, _, _, _, ⟨e, f5, f6⟩, _⟩ := b3.span
  exact ⟨e, List.mem_of_getElem? f5, by rw [b2]; exact f6⟩
theorem same_down {i : Nat} (hi : i < (table (justQ q h)).length) : ∃ j, Same q h i j := by
  obtain ⟨e, he, hn⟩ := table_event hi
  obtain ⟨he, hq⟩ := List.mem_filter.1 he
  obtain ⟨j, hj, hjn⟩ := table_name he
  have hq' : q e.tx = true := hq
  exact ⟨j, same_of hi hj (by rw [← hn, hjn]) (by rw [hjn]; exact hq')⟩
theorem same_up {j : Nat} (hj : j < (table h).length) (hq : q (at_ (table h) j).name = true) : ∃ i, Same q h i j := by
  obtain ⟨e, he, hn⟩ := table_event hj
  obtain ⟨i, hi, hin⟩ := table_name (h := justQ q h) (e := e) (List.mem_filter.2 ⟨he, by rw [hn]; exact hq⟩)
  exact ⟨i, same_of hi hj (by rw [hin, hn]) hq⟩
theorem Same.uniq {i j k : Nat} (a : Same q h i j) (b : Same q h i k) : j = k := name_inj a.lj b.lj (by rw [← a.name, ← b.name])
theorem Same.inj {i j k : Nat} (a : Same q h i k) (b : Same q h j k) : i = j := name_inj a.li b.li (by rw [a.name, b.name])
theorem Same.before {i j a b : Nat} (x : Same q h i a) (y : Same q h j b) : before (table (justQ q h)) i j = before (table h) a b := by
  obtain ⟨l, l1, l2, el, l3, l4⟩ := x.last
  obtain ⟨f, f1, f2, ef, f3, f4⟩ := y.first
  unfold Go.Proofs.YtnogalajfccioaaDoor.before
  rw [x.state, l1, l2, f1, f2]
  congr 1
  rw [decide_eq_decide]
  constructor
  · intro hh
    rcases Nat.lt_or_ge l f with h1 | h1
    · omega
    · have := rank_le (fun e : Ev => q e.tx) h h1
      omega
  · intro hh
    have := rank_lt (q := fun e : Ev => q e.tx) (h := h) (m := l) (n := f) (by omega) l3 l4
    omega
theorem Same.rise {i j a b : Nat} (x : Same q h i a) (y : Same q h j b) (hij : i < j) : a < b := by
  obtain ⟨f, f1, f2, _⟩ := x.first
  obtain ⟨g, g1, g2, _⟩ := y.first
  have h1 := first_rise hij y.li
  rw [f2, g2] at h1
  rcases Nat.lt_or_ge a b with h2 | h2
  · exact h2
  · have h3 : (at_ (table h) b).first ≤ (at_ (table h) a).first := by
      rcases Nat.lt_or_eq_of_le h2 with h2 | rfl
      · exact Int.le_of_lt (first_rise h2 x.lj)
      · exact Int.le_refl _
    rw [f1, g1] at h3
    have := rank_le (fun e : Ev => q e.tx) h (show g ≤ f by omega)
    omega
end

/-! ### choices and rows -/
section
variable {q : Int → Bool} {h : List Ev}
/-- The place in the table of all. -/
noncomputable def ups (q : Int → Bool) (h : List Ev) (i : Nat) : Nat := (Classical.epsilon fun j => Same q h i j)
theorem ups_same {i : Nat} (hi : i < (table (justQ q h)).length) : Same q h i (ups q h i) := Classical.epsilon_spec (p := fun j => Same q h i j) (same_down hi)
theorem ups_rise {i j : Nat} (hij : i < j) (hj : j < (table (justQ q h)).length) : ups q h i < ups q h j := (ups_same (Nat.lt_trans hij hj)).rise (ups_same hj) hij
theorem ups_inj {i j : Nat} (hi : i < (table (justQ q h)).length) (hj : j < (table (justQ q h)).length) (e : ups q h i = ups q h j) : i = j := by
  rcases Nat.lt_trichotomy i j with h1 | h1 | h1
  · exact absurd e (Nat.ne_of_lt (ups_rise h1 hj))
  · exact h1
  · exact absurd e.symm (Nat.ne_of_lt (ups_rise h1 hi))
/-- A choice of some, as one of all. -/
noncomputable def spread (q : Int → Bool) (h : List Ev) (c : Nat) : Nat := mask (table h).length fun k => (List.range (table (justQ q h)).length).any fun i => ups q h i == k && c.testBit i
theorem spread_lt (c : Nat) : spread q h c < 2 ^ (table h).length := mask_lt _ _
theorem spread_bit {c k : Nat} : (spread q h c).testBit k = true ↔ ∃ i, i < (table (justQ q h)).length ∧ ups q h i = k ∧ c.testBit i = true := by
  unfold spread
  rw [mask_bit, Bool.and_eq_true, decide_eq_true_iff, List.any_eq_true]
  constructor
  · rintro ⟨_, i, hi, h2⟩
    simp only [Bool.and_eq_true, beq_iff_eq] at h2
    exact ⟨i, List.mem_range.1 hi, h2.1, h2.2⟩
  · rintro ⟨i, hi, rfl, hc⟩
    exact ⟨(ups_same hi).lj, i, List.mem_range.2 hi, by simp [hc]⟩
theorem spread_ups {c i : Nat} (hi : i < (table (justQ q h)).length) : (spread q h c).testBit (ups q h i) = c.testBit i := by
  cases hc : c.testBit i with
  | true => exact spread_bit.2 ⟨i, hi, rfl, hc⟩
  | false =>
    cases hs : (spread q h c).testBit (ups q h i) with
    | false => rfl
    | true =>
      obtain ⟨j, hj, he, hc2⟩ := spread_bit.1 hs
      rw [ups_inj hj hi he, hc] at hc2
      cases hc2
theorem lt_of_bit {a b i : Nat} (ha : a.testBit i = false) (hb : b.testBit i = true) (hj : ∀ j, i < j → a.testBit j = b.testBit j) : a < b := by
  have h1 : a >>> (i + 1) = b >>> (i + 1) := by
    apply Nat.eq_of_testBit_eq
    intro j
    rw [Nat.testBit_shiftRight, Nat.testBit_shiftRight]
    exact hj _ (by omega)
  have ea := Nat.div_add_mod a (2 ^ i)
  have eb := Nat.div_add_mod b (2 ^ i)
  have ha2 : a / 2 ^ i % 2 = 0 := by
    have := ha
    rw [Nat.testBit_eq_decide_div_mod_eq, decide_eq_false_iff_not] at this
    omega
  have hb2 : b / 2 ^ i % 2 = 1 := by
    have := hb
    rw [Nat.testBit_eq_decide_div_mod_eq, decide_eq_true_iff] at this
    exact this
  have h2 : a / 2 ^ i / 2 = b / 2 ^ i / 2 := by
    rw [Nat.shiftRight_eq_div_pow, Nat.shiftRight_eq_div_pow, Nat.pow_succ, ← Nat.div_div_eq_div_mul, ← Nat.div_div_eq_div_mul] at h1
    exact h1
  have h3 : a / 2 ^ i + 1 = b / 2 ^ i := by omega
  have h4 : a % 2 ^ i < 2 ^ i := Nat.mod_lt _ (Nat.two_pow_pos i)
  rw [← h3] at eb
  rw [Nat.mul_add, Nat.mul_one] at eb
  omega
theorem spread_rise {a b : Nat} (ha : a < 2 ^ (table (justQ q h)).length) (hb : b < 2 ^ (table (justQ q h)).length) (hab : a < b) : spread q h a < spread q h b := by
  have key : ∀ m, m ≤ (table (justQ q h)).length → (∀ j, m ≤ j → a.testBit j = b.testBit j) → spread q h a < spread q h b := by
    intro m
    induction m with
    | zero => intro _ hj; exact absurd (Nat.eq_of_testBit_eq fun j => hj j (Nat.zero_le _)) (Nat.ne_of_lt hab)
    | succ m ih =>
      intro hm hj
      by_cases he : a.testBit m = b.testBit m
      · refine ih (by omega) fun j h1 => ?_
        rcases Nat.lt_or_eq_of_le h1 with h1 | rfl
        · exact hj j h1
        · exact he
      · cases ham : a.testBit m with
        | true =>
          have hbm : b.testBit m = false := by rw [ham] at he; simpa using he
          have := lt_of_bit hbm ham (fun j h1 => (hj j h1).symm)
          omega
        | false =>
          have hbm : b.testBit m = true := by rw [ham] at he; simpa using he
          refine lt_of_bit (i := ups q h m) (by rw [spread_ups hm, ham]) (by rw [spread_ups hm, hbm]) fun j h1 => ?_
          rw [Bool.eq_iff_iff, spread_bit, spread_bit]
          have hgt : ∀ i, i < (table (justQ q h)).length → ups q h i = j → m < i := fun i hi e => by
            subst e
            rcases Nat.lt_trichotomy i m with h2 | h2 | h2
            · have := ups_rise h2 hm; omega
            · subst h2; omega
            · exact h2
          constructor
          · rintro ⟨i, hi, e, hc⟩; exact ⟨i, hi, e, by rw [← hj i (hgt i hi e)]; exact hc⟩
          · rintro ⟨i, hi, e, hc⟩; exact ⟨i, hi, e, by rw [hj i (hgt i hi e)]; exact hc⟩
  refine key _ (Nat.le_refl _) fun j hj => ?_
  rw [Nat.testBit_lt_two_pow (Nat.lt_of_lt_of_le ha (Nat.pow_le_pow_right (by decide) hj)), Nat.testBit_lt_two_pow (Nat.lt_of_lt_of_le hb (Nat.pow_le_pow_right (by decide) hj))]
theorem choice_iff {l : List Txn} (hl : l.length ≤ 6) {c : Nat} : c ∈ choices l ↔ c < 2 ^ l.length ∧ ∀ i, i < l.length → if c.testBit i = true then (at_ l i).state = 2 ∨ (at_ l i).state = 1 else (at_ l i).state ≠ 2 := by
  unfold choices isChoice
  rw [List.mem_filter, List.mem_range, Bool.and_eq_true, List.all_eq_true, decide_eq_true_iff]
  constructor
  · rintro ⟨_, h1, h2⟩
    refine ⟨h2, fun i hi => ?_⟩
    have := h1 i (List.mem_range.2 hi)
    split at this
    · rename_i hc; rw [if_pos hc]; simpa using this
    · rename_i hc; rw [if_neg hc]; simpa using this
  · rintro ⟨h2, h1⟩
    refine ⟨Nat.lt_of_lt_of_le h2 (Nat.pow_le_pow_right (n := 2) (by omega) hl), fun i hi => ?_, h2⟩
    have := h1 i (List.mem_range.1 hi)
    split at this
    · rename_i hc; rw [if_pos hc]; simpa using this
    · rename_i hc; rw [if_neg hc]; simpa using this
theorem choices_rise (l : List Txn) : (choices l).Pairwise (· < ·) := List.Pairwise.filter _ List.pairwise_lt_range
theorem just_len (hl : (table h).length ≤ 6) : (table (justQ q h)).length ≤ 6 := by
  have h1 : ((List.range (table (justQ q h)).length).map (ups q h)).Nodup := by
    unfold List.Nodup
    rw [List.pairwise_map]
    refine List.Pairwise.imp_of_mem (fun {a b} ha hb hab => ?_) List.pairwise_lt_range
    exact Nat.ne_of_lt (ups_rise hab (List.mem_range.1 hb))
  have := nodup_le (n := (table h).length) h1 (fun k hk => by
    obtain ⟨i, hi, rfl⟩ := List.mem_map.1 hk
    exact (ups_same (List.mem_range.1 hi)).lj)
  simp at this
  omega
/-- What is kept: all that commit or may. -/
def Keeps12 (q : Int → Bool) (h : List Ev) : Prop := ∀ j, j < (table h).length → (q (at_ (table h) j).name = true ↔ (at_ (table h) j).state = 1 ∨ (at_ (table h) j).state = 2)
theorem choices_spread (hl : (table h).length ≤ 6) (hq : Keeps12 q h) : choices (table h) = (choices (table (justQ q h))).map (spread q h) := by
  have hl' : (table (justQ q h)).length ≤ 6 := just_len hl
  have p2 : ((choices (table (justQ q h))).map (spread q h)).Pairwise (· < ·) := by
    rw [List.pairwise_map]
    exact List.Pairwise.imp_of_mem (fun {a b} ha hb hab => spread_rise (choice_lt ha) (choice_lt hb) hab) (choices_rise _)
  have nd : ∀ {l : List Nat}, l.Pairwise (· < ·) → l.Nodup := fun hp => hp.imp (fun hab => Nat.ne_of_lt hab)
  refine List.Perm.eq_of_pairwise (le := (· < ·)) (fun a b _ _ h1 h2 => by omega) (choices_rise _) p2 ((List.perm_ext_iff_of_nodup (nd (choices_rise _)) (nd p2)).2 fun c => ?_)
  rw [List.mem_map, choice_iff hl]
  constructor
  · rintro ⟨h1, h2⟩
    have hb : ∀ i, i < (table (justQ q h)).length → (mask (table (justQ q h)).length fun i => c.testBit (ups q h i)).testBit i = c.testBit (ups q h i) := fun i hi => by rw [mask_bit]; simp [hi]
    refine ⟨mask (table (justQ q h)).length fun i => c.testBit (ups q h i), (choice_iff hl').2 ⟨mask_lt _ _, fun i hi => ?_⟩, ?_⟩
    · rw [hb i hi, (ups_same hi).state]
      exact h2 _ (ups_same hi).lj
    · refine bit_ext (table h).length (spread_lt _) h1 fun k hk => ?_
      rw [Bool.eq_iff_iff, spread_bit]
      constructor
      · rintro ⟨i, hi, rfl, hc⟩
        rw [hb i hi] at hc
        exact hc
      · intro hc
        have := h2 k hk
        rw [if_pos hc] at this
        obtain ⟨i, hi⟩ := same_up hk ((hq k hk).2 (by rcases this with h | h; exact .inr h; exact .inl h))
        refine ⟨i, hi.li, (ups_same hi.li).uniq hi, ?_⟩
        rw [hb i hi.li, (ups_same hi.li).uniq hi]
        exact hc
  · rintro ⟨c', hc', rfl⟩
    obtain ⟨h1, h2⟩ := (choice_iff hl').1 hc'
    refine ⟨spread_lt _, fun k hk => ?_⟩
    by_cases hkq : q (at_ (table h) k).name = true
    · obtain ⟨i, hi⟩ := same_up hk hkq
      have he := (ups_same hi.li).uniq hi
      rw [← he, spread_ups hi.li, ← (ups_same hi.li).state]
      exact h2 i hi.li
    · have hb : (spread q h c').testBit k = false := by
        cases hs : (spread q h c').testBit k with
        | false => rfl
        | true =>
          obtain ⟨i, hi, rfl, _⟩ := spread_bit.1 hs
          exact absurd (ups_same hi).kept hkq
      rw [hb]
      simp only [Bool.false_eq_true, if_false]
      intro e
      exact hkq ((hq k hk).2 (.inr e))
theorem legalF_spread {c : Nat} : ∀ (r : List Nat) (m : Mem), (∀ i, i ∈ r → i < (table (justQ q h)).length) → legalF (table h) (spread q h c) m (r.map (ups q h)) = legalF (table (justQ q h)) c m r
  | [], _, _ => rfl
  | i :: r, m, hr => by
    have hi := hr i List.mem_cons_self
    rw [List.map_cons, legalF, legalF, (ups_same hi).ops, spread_ups hi, legalF_spread r _ (fun j hj => hr j (List.mem_cons_of_mem _ hj))]
theorem good_spread {c : Nat} {r : List Nat} (hr : ∀ i, i ∈ r → i < (table (justQ q h)).length) : Good (table (justQ q h)) c c r ↔ Good (table h) (spread q h c) (spread q h c) (r.map (ups q h)) := by
  have hinj : r.Nodup ↔ (r.map (ups q h)).Nodup := by
    unfold List.Nodup
    rw [List.pairwise_map]
    constructor
    · intro hn
      exact List.Pairwise.imp_of_mem (fun {a b} ha hb hab e => hab (ups_inj (hr a ha) (hr b hb) e)) hn
    · intro hn
      exact hn.imp (fun hab e => hab (by rw [e]))
  have hord : r.Pairwise (fun a b => before (table (justQ q h)) b a = false) ↔ (r.map (ups q h)).Pairwise (fun a b => before (table h) b a = false) := by
    rw [List.pairwise_map]
    constructor
    · intro hn
      exact List.Pairwise.imp_of_mem (fun {a b} ha hb hab => by rw [← (ups_same (hr b hb)).before (ups_same (hr a ha))]; exact hab) hn
    · intro hn
      exact List.Pairwise.imp_of_mem (fun {a b} ha hb hab => by rw [(ups_same (hr b hb)).before (ups_same (hr a ha))]; exact hab) hn
  constructor
  · rintro ⟨nd, mem, ord, leg⟩
    refine ⟨hinj.1 nd, fun k => ?_, hord.1 ord, ?_⟩
    · rw [List.mem_map]
      constructor
      · rintro ⟨i, hi, rfl⟩
        exact ⟨(ups_same (hr i hi)).lj, by rw [spread_ups (hr i hi)]; exact ((mem i).1 hi).2⟩
      · rintro ⟨_, hs⟩
        obtain ⟨i, hi, rfl, hc⟩ := spread_bit.1 hs
        exact ⟨i, (mem i).2 ⟨hi, hc⟩, rfl⟩
    · unfold legal at leg ⊢
      rw [legalF_spread r _ hr, leg, List.length_map]
  · rintro ⟨nd, mem, ord, leg⟩
    refine ⟨hinj.2 nd, fun i => ?_, hord.2 ord, ?_⟩
    · constructor
      · intro hi
        have := ((mem (ups q h i)).1 (List.mem_map.2 ⟨i, hi, rfl⟩)).2
        rw [spread_ups (hr i hi)] at this
        exact ⟨hr i hi, this⟩
      · rintro ⟨hi, hc⟩
        obtain ⟨j, hj, e⟩ := List.mem_map.1 ((mem (ups q h i)).2 ⟨(ups_same hi).lj, by rw [spread_ups hi]; exact hc⟩)
        rw [← ups_inj (hr j hj) hi e]
        exact hj
    · unfold legal at leg ⊢
      rw [legalF_spread r _ hr, List.length_map] at leg
      exact leg
theorem unmap : ∀ {r : List Nat}, (∀ k, k ∈ r → ∃ i, i < (table (justQ q h)).length ∧ ups q h i = k) → ∃ r' : List Nat, r = r'.map (ups q h) ∧ ∀ i, i ∈ r' → i < (table (justQ q h)).length
  | [], _ => ⟨[], rfl, fun i hi => by cases hi⟩
  | k :: r, hr => by
    obtain ⟨r', e, h1⟩ := unmap (r := r) (fun k hk => hr k (List.mem_cons_of_mem _ hk))
    obtain ⟨i, hi, rfl⟩ := hr k List.mem_cons_self
    refine ⟨i :: r', by rw [e, List.map_cons], fun j hj => ?_⟩
    rcases List.mem_cons.1 hj with rfl | hj
    · exact hi
    · exact h1 j hj
theorem fits_spread (c : Nat) : fits (table h) (spread q h c) = fits (table (justQ q h)) c := by
  rw [Bool.eq_iff_iff, fits_iff, fits_iff]
  constructor
  · rintro ⟨r, hr⟩
    obtain ⟨r', rfl, h1⟩ := unmap (q := q) (h := h) (r := r) (fun k hk => by
      obtain ⟨i, hi, e, _⟩ := spread_bit.1 ((hr.mem k).1 hk).2
      exact ⟨i, hi, e⟩)
    exact ⟨r', (good_spread h1).2 hr⟩
  · rintro ⟨r, hr⟩
    exact ⟨_, (good_spread (fun i hi => ((hr.mem i).1 hi).1)).1 hr⟩
theorem find_spread (hl : (table h).length ≤ 6) (hq : Keeps12 q h) : (choices (table h)).find? (fits (table h)) = ((choices (table (justQ q h))).find? (fits (table (justQ q h)))).map (spread q h) := by
  rw [choices_spread hl hq, List.find?_map]
  congr 1
  congr 1
  funext c
  exact fits_spread c
theorem Good.len_eq {l : List Txn} {who c c' : Nat} {r s : List Nat} (a : Good l who c r) (b : Good l who c' s) : r.length = s.length :=
  ((List.perm_ext_iff_of_nodup a.nd b.nd).2 fun k => (a.mem k).trans (b.mem k).symm).length_eq
/-- Without those that don't commit it is strictly serializable just as with them, and as many are told. -/
theorem strict_same {b b' : Nat} (hl : (table h).length ≤ 6) (hb : 125184 ≤ b) (hb' : 125184 ≤ b') (hq : Keeps12 q h) :
    (strict (table (justQ q h)) b').verdict = (strict (table h) b).verdict ∧ (strict (table (justQ q h)) b').row.length = (strict (table h) b).row.length := by
  have hf := find_spread hl hq
  rcases strict_spec (h := h) hl hb with ⟨c, r, h1, h2, h3, _, h5⟩ | ⟨h1, h2, h3⟩ <;> rcases strict_spec (h := justQ q h) (just_len hl) hb' with ⟨c', r', g1, g2, g3, _, g5⟩ | ⟨g1, g2, g3⟩
  · rw [h1, g1] at hf
    have hc : c = spread q h c' := by simpa using hf
    subst hc
    have := h2.len_eq ((good_spread (fun i hi => ((g2.mem i).1 hi).1)).1 g2)
    rw [List.length_map] at this
    exact ⟨by rw [h3, g3], by rw [h5, g5, List.length_map, List.length_map, this]⟩
  · rw [h1, g1] at hf; cases hf
  · rw [h1, g1] at hf; cases hf
  · exact ⟨by rw [h2, g2], by rw [h3, g3]⟩
end

/-! ### the law -/
/-- Does a row keep the order, told by bits, behind those that were seen? -/
def keepsF (a : List Nat) : List Int → Nat → Bool
  | [], _ => true
  | i :: r, seen => if (a.getD i.toNat 0 ||| 2 ^ i.toNat) &&& seen = 0 then keepsF a r (seen ||| 2 ^ i.toNat) else false
theorem after_bits {l : List Txn} {i : Nat} (hi : i < l.length) : (after l).getD i 0 = mask l.length (before l i) := by
  unfold after
  rw [List.getD_eq_getElem?_getD, List.getElem?_map, List.getElem?_range hi]
  rfl
theorem keepsF_good {l : List Txn} : ∀ (r pre : List Nat) (seen : Nat), (pre ++ r).Nodup → (pre ++ r).Pairwise (fun a b => before l b a = false) → (∀ k, k ∈ r → k < l.length) → (∀ j, seen.testBit j = true ↔ j ∈ pre) → keepsF (after l) (r.map Int.ofNat) seen = true
  | [], _, _, _, _, _, _ => rfl
  | i :: r, pre, seen, nd, ord, hr, hs => by
    have hi := hr i List.mem_cons_self
    have happ : pre ++ i :: r = pre ++ [i] ++ r := by simp
    have hz : ((after l).getD i 0 ||| 2 ^ i) &&& seen = 0 := by
      apply Nat.eq_of_testBit_eq
      intro j
      rw [Nat.zero_testBit, Nat.testBit_and, Nat.testBit_or, after_bits hi, mask_bit, Nat.testBit_two_pow]
      cases hj : seen.testBit j with
      | false => simp
      | true =>
        have hjp := (hs j).1 hj
        have h1 : before l i j = false := (List.pairwise_append.1 ord).2.2 j hjp i List.mem_cons_self
        have h2 : i ≠ j := fun e => (List.nodup_append.1 nd).2.2 j hjp i List.mem_cons_self e.symm
        simp [h1, h2]
    rw [List.map_cons, keepsF, show (Int.ofNat i).toNat = i from rfl, if_pos hz]
    exact keepsF_good r (pre ++ [i]) _ (by rw [← happ]; exact nd) (by rw [← happ]; exact ord) (fun k hk => hr k (List.mem_cons_of_mem _ hk)) (snoc_mem hs)

/-! ### what is kept may be -/
theorem runF_just {q : Int → Bool} : ∀ (h : List Ev) (now now' : Int → Int), (∀ t, q t = true → now t = now' t) → runF now h = h.length → runF now' (justQ q h) = (justQ q h).length
  | [], _, _, _, _ => rfl
  | e :: h, now, now', ha, hr => by
    rw [runF] at hr
    split at hr
    · cases hr
    · rename_i s hs
      have hr' : runF (upd now e.tx s) h = h.length := by simpa using hr
      unfold justQ
      rw [List.filter_cons]
      split
      · rename_i hq
        have ih := runF_just h (upd now e.tx s) (upd now' e.tx s) (fun t ht => by unfold upd; split; rfl; exact ha t ht) hr'
        unfold justQ at ih
        rw [runF, ← ha e.tx hq, hs]
        simp only [List.length_cons]
        rw [ih]
      · rename_i hq
        refine runF_just h (upd now e.tx s) now' (fun t ht => ?_) hr'
        unfold upd
        rw [if_neg (fun e1 => hq (by rw [← e1]; exact ht))]
        exact ha t ht
theorem namesF_mem : ∀ (h : List Ev) (l : List Int) (x : Int), x ∈ namesF l h ↔ x ∈ l ∨ ∃ e, e ∈ h ∧ e.tx = x
  | [], l, x => by simp [namesF]
  | e :: h, l, x => by
    rw [namesF, namesF_mem h, addName]
    constructor
    · rintro (h1 | ⟨y, hy, e1⟩)
      · split at h1
        · exact .inl h1
        · rcases List.mem_append.1 h1 with h1 | h1
          · exact .inl h1
          · exact .inr ⟨e, List.mem_cons_self, (List.mem_singleton.1 h1).symm⟩
      · exact .inr ⟨y, List.mem_cons_of_mem _ hy, e1⟩
    · rintro (h1 | ⟨y, hy, e1⟩)
      · left
        split
        · exact h1
        · exact List.mem_append_left _ h1
      · rcases List.mem_cons.1 hy with rfl | hy
        · left
          split
          · rename_i hc; rw [← e1]; simpa using hc
          · rw [← e1]; simp
        · exact .inr ⟨y, hy, e1⟩
theorem namesF_nodup : ∀ (h : List Ev) (l : List Int), l.Nodup → (namesF l h).Nodup
  | [], _, hl => hl
  | e :: h, l, hl => by
    rw [namesF]
    refine namesF_nodup h _ ?_
    unfold addName
    split
    · exact hl
    · rename_i hc
      rw [List.nodup_append]
      refine ⟨hl, by simp, fun a ha b hb hab => ?_⟩
      have : b = e.tx := by simpa using hb
      subst this
      subst hab
      exact hc (by simpa using ha)
theorem why_just {q : Int → Bool} {h : List Ev} (hw : why h = 0) : why (justQ q h) = 0 := by
  obtain ⟨hr, hf⟩ := WF_of_why hw
  unfold RightB at hr
  simp only [Bool.and_eq_true, decide_eq_true_iff, List.all_eq_true] at hr
  obtain ⟨⟨h1, h2⟩, h3⟩ := hr
  have hn : (names (justQ q h)).length ≤ (names h).length := by
    refine List.Nodup.length_le_of_subset (namesF_nodup _ _ List.nodup_nil) fun x hx => ?_
    rcases (namesF_mem _ _ _).1 hx with hx | ⟨e, he, e1⟩
    · cases hx
    · exact (namesF_mem _ _ _).2 (.inr ⟨e, (List.mem_filter.1 he).1, e1⟩)
  have hr2 : RightB (justQ q h) = true := by
    unfold RightB
    simp only [Bool.and_eq_true, decide_eq_true_iff, List.all_eq_true]
    exact ⟨⟨Nat.le_trans (List.length_filter_le _ _) h1, fun e he => h2 e (List.mem_filter.1 he).1⟩, Nat.le_trans hn h3⟩
  have hf2 : first (justQ q h) = (justQ q h).length := runF_just h _ _ (fun _ _ => rfl) hf
  unfold why
  rw [if_pos hr2, hf2, if_neg (Nat.lt_irrefl _)]
theorem tbl_len {h : List Ev} (hw : why h = 0) : (table h).length ≤ 6 := by
  obtain ⟨hr, _⟩ := WF_of_why hw
  unfold RightB at hr
  simp only [Bool.and_eq_true, decide_eq_true_iff, List.all_eq_true] at hr
  have hnd : ((List.range (table h).length).map fun j => (at_ (table h) j).name).Nodup := by
    unfold List.Nodup
    rw [List.pairwise_map]
    refine List.Pairwise.imp_of_mem (fun {a b} ha hb hab e => ?_) List.pairwise_lt_range
    exact absurd (name_inj (List.mem_range.1 ha) (List.mem_range.1 hb) e) (Nat.ne_of_lt hab)
  have := List.Nodup.length_le_of_subset (l₂ := names h) hnd fun x hx => by
    obtain ⟨j, hj, rfl⟩ := List.mem_map.1 hx
    obtain ⟨e, he, e1⟩ := table_event (List.mem_range.1 hj)
    exact (namesF_mem _ _ _).2 (.inr ⟨e, he, e1⟩)
  simp at this
  omega

/-! ### those that commit or may -/
def keptN (l : List Txn) (t : Int) : Bool := l.any fun x => x.name == t && (x.state != 3 && x.state != 0)
theorem state_four (l : List Ev) : (statOf l).1 = 0 ∨ (statOf l).1 = 1 ∨ (statOf l).1 = 2 ∨ (statOf l).1 = 3 := by
  induction l using snocRec with
  | h0 => exact .inl rfl
  | hs l x ih =>
    rw [statOf_snoc]
    unfold takeS
    simp only
    split
    · exact .inr (.inl rfl)
    · split
      · exact .inr (.inr (.inl rfl))
      · split
        · exact .inr (.inr (.inr rfl))
        · exact .inl rfl
theorem table_state {h : List Ev} {j : Nat} (hj : j < (table h).length) : (at_ (table h) j).state = 0 ∨ (at_ (table h) j).state = 1 ∨ (at_ (table h) j).state = 2 ∨ (at_ (table h) j).state = 3 := by
  obtain ⟨k, _, e, hk⟩ := table_get hj
  have h1 : k.t.state = (statOf (mine h k.t.name)).1 := by rw [← hk.stat]
  rw [e, h1]
  exact state_four _
theorem at_mem {l : List Txn} {x : Txn} (hx : x ∈ l) : ∃ j, j < l.length ∧ at_ l j = x := by
  obtain ⟨j, hj⟩ := List.mem_iff_getElem?.1 hx
  obtain ⟨hl, e⟩ := List.getElem?_eq_some_iff.1 hj
  exact ⟨j, hl, by rw [at_get hl, e]⟩
theorem keptN_at {h : List Ev} {j : Nat} (hj : j < (table h).length) : keptN (table h) (at_ (table h) j).name = ((at_ (table h) j).state != 3 && (at_ (table h) j).state != 0) := by
  rw [Bool.eq_iff_iff]
  unfold keptN
  rw [List.any_eq_true]
  constructor
  · rintro ⟨x, hx, h1⟩
    obtain ⟨i, hi, rfl⟩ := at_mem hx
    rw [Bool.and_eq_true, beq_iff_eq] at h1
    obtain rfl := name_inj hi hj h1.1
    exact h1.2
  · intro h1
    refine ⟨at_ (table h) j, ?_, ?_⟩
    · rw [at_get hj]; exact List.getElem_mem hj
    · rw [h1]; simp
theorem keeps12 (h : List Ev) : Keeps12 (keptN (table h)) h := by
  intro j hj
  rw [keptN_at hj]
  rcases table_state hj with e | e | e | e <;> rw [e] <;> decide
/-- THE LAW, plain. -/
theorem sw_law {g : List Ev} {q : Int → Bool} (hw : why g = 0) (hq : Keeps12 q g) :
    ((search (table g) 200000).verdict = 0 → (strict (table g) 200000).verdict = 0) ∧ (strict (table g) 200000).verdict ≠ 2 ∧
    ((strict (table g) 200000).verdict = 0 → ∃ r : List Nat, (strict (table g) 200000).row = r.map Int.ofNat ∧ r.Nodup ∧ (∀ k, k ∈ r → k < (table g).length) ∧ legal (table g) r (strict (table g) 200000).commits = r.length ∧ keepsF (after (table g)) (r.map Int.ofNat) 0 = true ∧
      (strict (table g) 200000).commits < 2 ^ (table g).length ∧ ∀ k, k < (table g).length → (strict (table g) 200000).commits.testBit k = (r.map Int.ofNat).contains (k : Int)) ∧
    (strict (table (justQ q g)) 200000).verdict = (strict (table g) 200000).verdict ∧ (strict (table (justQ q g)) 200000).row.length = (strict (table g) 200000).row.length := by
  have hl := tbl_len hw
  refine ⟨strict_wider hl (by omega), ?_, ?_, strict_same hl (by omega) (by omega) hq⟩
  · rcases strict_spec (h := g) (b := 200000) hl (by omega) with ⟨_, _, _, _, e, _⟩ | ⟨_, e, _⟩ <;> rw [e] <;> decide
  · intro hv
    rcases strict_spec (h := g) (b := 200000) hl (by omega) with ⟨c, r, h1, hg, e, ec, er⟩ | ⟨_, e, _⟩
    · have hc := choice_lt (List.mem_of_find?_eq_some h1)
      rw [ec]
      refine ⟨r, er, hg.nd, fun k hk => ((hg.mem k).1 hk).1, hg.leg, keepsF_good r [] 0 hg.nd hg.ord (fun k hk => ((hg.mem k).1 hk).1) (fun j => by simp), hc, fun k hk => ?_⟩
      rw [Bool.eq_iff_iff, List.contains_iff_mem, List.mem_map]
      constructor
      · intro hb; exact ⟨k, (hg.mem k).2 ⟨hk, hb⟩, rfl⟩
      · rintro ⟨j, hj, e2⟩
        have : j = k := Int.ofNat.inj e2
        subst this
        exact ((hg.mem j).1 hj).2
    · rw [e] at hv; cases hv
end Go.Proofs.YtnogalajfccioaaDoor
