/- Rows that explain, plain: what a search finds, said without the search; strict serializability. -/
import Derived.Test.YtnogalajfccioaaDoorP4
namespace Go.Proofs.YtnogalajfccioaaDoor
/-- A row of who that explains: each of them once, in an order that may be, legal. -/
structure Good (l : List Txn) (who c : Nat) (r : List Nat) : Prop where
  nd : r.Nodup
  mem : ∀ k, k ∈ r ↔ k < l.length ∧ who.testBit k = true
  ord : r.Pairwise fun a b => before l b a = false
  leg : legal l r c = r.length
theorem bit_pow (inn k j : Nat) : (inn ||| 2 ^ k).testBit j = true ↔ inn.testBit j = true ∨ j = k := by
  rw [Nat.testBit_or, Nat.testBit_two_pow, Bool.or_eq_true, decide_eq_true_iff]
  exact or_congr_right eq_comm
theorem snoc_mem {row : List Nat} {inn k : Nat} (h : ∀ j, inn.testBit j = true ↔ j ∈ row) : ∀ j, (inn ||| 2 ^ k).testBit j = true ↔ j ∈ row ++ [k] := by
  intro j
  rw [bit_pow, h j]
  simp
theorem free_of {l : List Txn} {who inn k : Nat} : freeB l who inn k = true ↔ ∀ i, i < l.length → who.testBit i = true → inn.testBit i = false → before l i k = false := by
  unfold freeB
  rw [List.all_eq_true]
  constructor
  · intro h i hi h1 h2
    have := h i (List.mem_range.2 hi)
    simpa [h1, h2] using this
  · intro h i hi
    have := h i (List.mem_range.1 hi)
    cases h1 : who.testBit i <;> cases h2 : inn.testBit i <;> simp_all
theorem ext_good {l : List Txn} {who c : Nat} : ∀ (t row : List Nat) (inn : Nat), Ext l who c row inn t → (∀ j, inn.testBit j = true ↔ j ∈ row) →
    t.Nodup ∧ (∀ k, k ∈ t → k ∉ row ∧ k < l.length) ∧ (∀ k, who.testBit k = true ↔ k ∈ row ∨ k ∈ t) ∧ t.Pairwise (fun a b => before l b a = false) ∧ (t ≠ [] → legal l (row ++ t) c = (row ++ t).length)
  | [], row, inn, h, hi => by
    have h' : inn = who := h
    subst h'
    exact ⟨List.nodup_nil, fun k hk => (by cases hk), fun k => by rw [hi k]; simp, List.Pairwise.nil, fun hne => absurd rfl hne⟩
  | k :: t, row, inn, h, hi => by
    obtain ⟨h1, h2, h3, h4⟩ := h
    obtain ⟨a1, a2, a3, a4, a5⟩ := ext_good t (row ++ [k]) (inn ||| 2 ^ k) h4 (snoc_mem hi)
    simp only [Bool.and_eq_true, Bool.not_eq_true'] at h2
    obtain ⟨⟨b1, b2⟩, b3⟩ := h2
    have hkr : k ∉ row := fun hk => by rw [(hi k).2 hk] at b2; cases b2
    refine ⟨List.nodup_cons.2 ⟨fun hk => (a2 k hk).1 (by simp), a1⟩, ?_, ?_, ?_, ?_⟩
    · intro j hj
      rcases List.mem_cons.1 hj with rfl | hj
      · exact ⟨hkr, h1⟩
      · exact ⟨fun hjr => (a2 j hj).1 (List.mem_append_left _ hjr), (a2 j hj).2⟩
    · intro j
      rw [a3 j]
      simp [or_assoc]
    · refine List.pairwise_cons.2 ⟨fun b hb => ?_, a4⟩
      refine free_of.1 b3 b (a2 b hb).2 ((a3 b).2 (.inr hb)) ?_
      cases hbi : inn.testBit b with
      | false => rfl
      | true => exact absurd (List.mem_append_left [k] ((hi b).1 hbi)) (a2 b hb).1
    · intro _
      rcases List.eq_nil_or_concat t with rfl | ⟨t', x, e⟩
      · simpa using h3
      · have := a5 (by rw [e]; simp)
        simpa using this
theorem good_of_ext {l : List Txn} {who c : Nat} {r : List Nat} (h : Ext l who c [] 0 r) : Good l who c r := by
  obtain ⟨a1, a2, a3, a4, a5⟩ := ext_good r [] 0 h (fun j => by simp)
  refine ⟨a1, fun k => ⟨fun hk => ⟨(a2 k hk).2, (a3 k).2 (.inr hk)⟩, fun ⟨_, hk⟩ => ?_⟩, a4, ?_⟩
  · rcases (a3 k).1 hk with h | h
    · cases h
    · exact h
  · cases r with
    | nil => rfl
    | cons x r => exact a5 (by simp)
theorem good_ext {l : List Txn} {who c : Nat} (hwho : who < 2 ^ l.length) (hirr : ∀ i, i < l.length → before l i i = false) : ∀ (t row : List Nat) (inn : Nat), Good l who c (row ++ t) → (∀ j, inn.testBit j = true ↔ j ∈ row) → Ext l who c row inn t
  | [], row, inn, h, hi => by
    refine Nat.eq_of_testBit_eq fun k => ?_
    have h1 := h.mem k
    rw [List.append_nil, ← hi k] at h1
    cases hk : who.testBit k with
    | true =>
      refine h1.2 ⟨?_, hk⟩
      rcases Nat.lt_or_ge k l.length with h | h
      · exact h
      · rw [Nat.testBit_lt_two_pow (Nat.lt_of_lt_of_le hwho (Nat.pow_le_pow_right (by decide) h))] at hk
        cases hk
    | false =>
      cases hn : inn.testBit k with
      | false => rfl
      | true => rw [(h1.1 hn).2] at hk; cases hk
  | k :: t, row, inn, h, hi => by
    obtain ⟨nd, mem, ord, leg⟩ := h
    have hk := (mem k).1 (by simp)
    have hkr : k ∉ row := by
      have := List.nodup_append.1 nd
      intro hk
      exact this.2.2 k hk k (by simp) rfl
    have happ : row ++ k :: t = row ++ [k] ++ t := by simp
    refine ⟨hk.1, ?_, ?_, ?_⟩
    · have hin : inn.testBit k = false := by
        cases hn : inn.testBit k with
        | false => rfl
        | true => exact absurd ((hi k).1 hn) hkr
      rw [hk.2, hin]
      simp only [Bool.not_false, Bool.and_self, Bool.true_and]
      refine free_of.2 fun i hil hw hni => ?_
      have him := (mem i).2 ⟨hil, hw⟩
      rcases List.mem_append.1 him with h1 | h1
      · rw [(hi i).2 h1] at hni; cases hni
      · rcases List.mem_cons.1 h1 with rfl | h1
        · exact hirr i hil
        · exact (List.pairwise_cons.1 (List.pairwise_append.1 ord).2.1).1 i h1
    · have := legal_prefix (l := l) (c := c) (r := row ++ [k]) (s := t) (by rw [← happ]; exact leg)
      simpa using this
    · refine good_ext hwho hirr t (row ++ [k]) _ (by rw [← happ]; exact ⟨nd, mem, ord, leg⟩) (snoc_mem hi)
theorem irr_table (h : List Ev) : ∀ i, i < (table h).length → before (table h) i i = false := fun _ hi => not_before_back (Nat.le_refl _) hi
theorem nodup_le {n : Nat} {row : List Nat} (h : row.Nodup) (hr : ∀ k, k ∈ row → k < n) : row.length ≤ n := by
  have h2 : row ⊆ List.range n := fun k hk => List.mem_range.2 (hr k hk)
  have h3 := List.Nodup.length_le_of_subset h h2
  simpa using h3
theorem Good.len {l : List Txn} {who c : Nat} {r : List Nat} (h : Good l who c r) : r.length ≤ l.length := nodup_le h.nd (fun k hk => ((h.mem k).1 hk).1)
/-- Those that don't commit leave the memory alone. -/
theorem legalF_filter (l : List Txn) (c : Nat) : ∀ (r : List Nat) (m : Mem), legalF l c m r = r.length → legalF l c m (r.filter fun k => c.testBit k) = (r.filter fun k => c.testBit k).length
  | [], _, _ => rfl
  | k :: r, m, h => by
    rw [legalF] at h
    split at h
    · cases h
    · rename_i ho
      have h' : legalF l c (if c.testBit k then with_ m (at_ l k).ops else m) r = r.length := by simpa using h
      have ih := legalF_filter l c r _ h'
      rw [List.filter_cons]
      cases hk : c.testBit k with
      | true =>
        rw [hk] at ih
        simp only [if_true] at ih ⊢
        rw [legalF, if_neg ho, hk, if_pos rfl, ih]
        rfl
      | false =>
        rw [hk] at ih
        simpa using ih
theorem good_filter {l : List Txn} {who c : Nat} {r : List Nat} (h : Good l who c r) (hc : ∀ k, c.testBit k = true → who.testBit k = true) : Good l c c (r.filter fun k => c.testBit k) where
  nd := List.Pairwise.filter _ h.nd
  mem := fun k => by
    rw [List.mem_filter, h.mem k]
    constructor
    · rintro ⟨⟨a, b⟩, d⟩; exact ⟨a, d⟩
    · rintro ⟨a, d⟩; exact ⟨⟨a, hc k d⟩, d⟩
  ord := h.ord.filter _
  leg := legalF_filter l c r _ h.leg

/-! ### strict -/
def strictC (l : List Txn) : List Nat → Nat → Out × Nat × Nat
  | [], left => (.no, 0, left)
  | c :: cs, left => match rowF l c c left with
    | (.no, left') => strictC l cs left'
    | (o, left') => (o, c, left')
def strict (l : List Txn) (budget : Nat) : Found := foundOf budget (strictC l (choices l) budget)
theorem S_bound {l : List Txn} (hl : l.length ≤ 6) (who inn : Nat) : S (rem l who inn) ≤ 1956 := by
  rw [← S6]; exact S_le (Nat.le_trans (rem_le _ _ _) hl)
theorem strictC_costs {l : List Txn} (hl : l.length ≤ 6) : ∀ cs left, (strictC l cs left).2.2 ≤ left ∧ ((strictC l cs left).1 = .unknown → left < cs.length * 1956) := by
  intro cs
  induction cs with
  | nil => intro left; exact ⟨Nat.le_refl _, fun e => by cases e⟩
  | cons c cs ih =>
    intro left
    have h := (from_costs l c c (l.length + 1) [] 0 left).mono (S_bound hl c 0)
    rw [strictC, List.length_cons, Nat.succ_mul]
    unfold rowF
    split
    · rename_i left' heq
      rw [heq] at h
      obtain ⟨h1, h2, _⟩ := h
      obtain ⟨a1, a3⟩ := ih left'
      simp only at h1 h2
      exact ⟨by omega, fun e => by have := a3 e; omega⟩
    · rename_i o left' _ heq
      rw [heq] at h
      obtain ⟨h1, h2, h3⟩ := h
      simp only at h1 h2 h3 ⊢
      exact ⟨h1, fun e => by have := (h3 e).2; omega⟩
theorem strict_known {l : List Txn} {b : Nat} (hl : l.length ≤ 6) (hb : 125184 ≤ b) : (strictC l (choices l) b).1 ≠ .unknown := fun e => by
  have h1 := (strictC_costs hl (choices l) b).2 e
  have h3 := Nat.mul_le_mul (choices_len l) (Nat.le_refl 1956)
  omega
open Classical in
/-- Whether some row explains a choice's own transactions. -/
noncomputable def fits (l : List Txn) (c : Nat) : Bool := decide (∃ r, Good l c c r)
theorem fits_iff {l : List Txn} {c : Nat} : fits l c = true ↔ ∃ r, Good l c c r := by unfold fits; simp
theorem strictC_yes {l : List Txn} (hirr : ∀ i, i < l.length → before l i i = false) : ∀ cs left r c x, (∀ c, c ∈ cs → c < 2 ^ l.length) → strictC l cs left = (.yes r, c, x) → Good l c c r ∧ cs.find? (fits l) = some c := by
  intro cs
  induction cs with
  | nil => intro left r c x _ h; simp [strictC] at h
  | cons c0 cs ih =>
    intro left r c x hcs h
    rw [strictC] at h
    unfold rowF at h
    split at h
    · rename_i left' heq
      obtain ⟨h1, h2⟩ := ih _ _ _ _ (fun c hc => hcs c (List.mem_cons_of_mem _ hc)) h
      refine ⟨h1, ?_⟩
      have hno : fits l c0 = false := by
        cases hf : fits l c0 with
        | false => rfl
        | true =>
          obtain ⟨r0, hr0⟩ := fits_iff.1 hf
          have := from_complete l c0 c0 (l.length + 1) [] 0 left r0 (good_ext (hcs c0 List.mem_cons_self) hirr r0 [] 0 hr0 (fun j => by simp)) (by have := hr0.len; omega)
          rw [heq] at this
          exact absurd rfl this
      rw [List.find?_cons, hno]
      exact h2
    · rename_i o left' _ heq
      simp only [Prod.mk.injEq] at h
      obtain ⟨rfl, rfl, rfl⟩ := h
      obtain ⟨t, ht, he⟩ := from_sound _ _ _ _ _ _ _ _ _ heq
      rw [List.nil_append] at ht
      subst ht
      have hg := good_of_ext he
      exact ⟨hg, by rw [List.find?_cons, fits_iff.2 ⟨_, hg⟩]⟩
theorem strictC_no {l : List Txn} (hirr : ∀ i, i < l.length → before l i i = false) : ∀ cs left c x, (∀ c, c ∈ cs → c < 2 ^ l.length) → strictC l cs left = (.no, c, x) → cs.find? (fits l) = none := by
  intro cs
  induction cs with
  | nil => intros; rfl
  | cons c0 cs ih =>
    intro left c x hcs h
    rw [strictC] at h
    unfold rowF at h
    split at h
    · rename_i left' heq
      have h2 := ih _ _ _ (fun c hc => hcs c (List.mem_cons_of_mem _ hc)) h
      have hno : fits l c0 = false := by
        cases hf : fits l c0 with
        | false => rfl
        | true =>
          obtain ⟨r0, hr0⟩ := fits_iff.1 hf
          have := from_complete l c0 c0 (l.length + 1) [] 0 left r0 (good_ext (hcs c0 List.mem_cons_self) hirr r0 [] 0 hr0 (fun j => by simp)) (by have := hr0.len; omega)
          rw [heq] at this
          exact absurd rfl this
      rw [List.find?_cons, hno]
      exact h2
    · rename_i o left' hne heq
      simp only [Prod.mk.injEq] at h
      obtain ⟨rfl, _, _⟩ := h
      exact (hne rfl).elim
theorem choice_lt {l : List Txn} {c : Nat} (h : c ∈ choices l) : c < 2 ^ l.length := by
  have := (List.mem_filter.1 h).2
  unfold isChoice at this
  simp at this
  exact this.2
theorem choice_all {l : List Txn} {c : Nat} (h : c ∈ choices l) : ∀ k, c.testBit k = true → (allOf l).testBit k = true := fun k hk => by
  unfold allOf
  rw [Nat.testBit_two_pow_sub_one]
  rcases Nat.lt_or_ge k l.length with h1 | h1
  · simpa using h1
  · rw [Nat.testBit_lt_two_pow (Nat.lt_of_lt_of_le (choice_lt h) (Nat.pow_le_pow_right (by decide) h1))] at hk
    cases hk
/-- What a strict check tells, with enough of a budget: the first choice whose own transactions a row explains, and such a row; or none. -/
theorem strict_spec {h : List Ev} {b : Nat} (hl : (table h).length ≤ 6) (hb : 125184 ≤ b) :
    (∃ c r, (choices (table h)).find? (fits (table h)) = some c ∧ Good (table h) c c r ∧ (strict (table h) b).verdict = 0 ∧ (strict (table h) b).commits = c ∧ (strict (table h) b).row = r.map Int.ofNat) ∨
    ((choices (table h)).find? (fits (table h)) = none ∧ (strict (table h) b).verdict = 1 ∧ (strict (table h) b).row = []) := by
  have hk := strict_known hl hb
  unfold strict
  rcases hs : strictC (table h) (choices (table h)) b with ⟨o, c, x⟩
  rw [hs] at hk
  cases o with
  | yes r =>
    obtain ⟨h1, h2⟩ := strictC_yes (irr_table h) _ _ _ _ _ (fun c hc => choice_lt hc) hs
    exact .inl ⟨c, r, h2, h1, rfl, rfl, rfl⟩
  | no => exact .inr ⟨strictC_no (irr_table h) _ _ _ _ (fun c hc => choice_lt hc) hs, rfl, rfl⟩
  | unknown => exact absurd rfl hk
/-- What is explained is strictly serializable. -/
theorem strict_wider {h : List Ev} {b b' : Nat} (hl : (table h).length ≤ 6) (hb : 125184 ≤ b) (hv : (search (table h) b').verdict = 0) : (strict (table h) b).verdict = 0 := by
  unfold search at hv
  rcases hs : searchC (table h) (choices (table h)) b' with ⟨o, c, x⟩
  rw [hs] at hv
  cases o with
  | no => cases hv
  | unknown => cases hv
  | yes r =>
    obtain ⟨h1, h2⟩ := searchC_yes _ _ _ _ _ _ hs
    have hg := good_filter (good_of_ext h2) (choice_all h1)
    rcases strict_spec (h := h) hl hb with ⟨_, _, _, _, hv, _⟩ | ⟨hn, _⟩
    · exact hv
    · have := List.find?_eq_none.1 hn c h1
      exact absurd (fits_iff.2 ⟨_, hg⟩) this
end Go.Proofs.YtnogalajfccioaaDoor
