/- Serial search, plain: what is found explains, what explains is found, how many steps it takes. -/
import Derived.Test.YtnogalajfccioaaDoorP1
namespace Go.Proofs.YtnogalajfccioaaDoor
/-- A row that goes on: each next one is of who, not there yet, free, and legal; at the end all of who are there. -/
def Ext (l : List Txn) (who c : Nat) : List Nat → Nat → List Nat → Prop
  | _, inn, [] => inn = who
  | row, inn, k :: t => k < l.length ∧ (who.testBit k && !inn.testBit k && freeB l who inn k) = true ∧ legal l (row ++ [k]) c = row.length + 1 ∧ Ext l who c (row ++ [k]) (inn ||| 2 ^ k) t
theorem fromL_zero (l : List Txn) (who c n : Nat) (row : List Nat) (inn k left : Nat) : fromL l who c n row inn 0 k left = (.no, left) := by rw [fromL.eq_def]
theorem fromL_succ (l : List Txn) (who c n : Nat) (row : List Nat) (inn d k left : Nat) : fromL l who c n row inn (d + 1) k left =
    if (who.testBit k && !inn.testBit k) && freeB l who inn k then
      match left with
      | 0 => (.unknown, 0)
      | left + 1 =>
        if legal l (row ++ [k]) c = row.length + 1 then
          match fromF l who c n (row ++ [k]) (inn ||| 2 ^ k) left with
          | (.no, left) => fromL l who c n row inn d (k + 1) left
          | r => r
        else fromL l who c n row inn d (k + 1) left
    else fromL l who c n row inn d (k + 1) left := by
  conv => lhs; rw [fromL.eq_def]
  rfl
theorem fromL_sound {l : List Txn} {who c n : Nat} (ih : ∀ row inn left r x, fromF l who c n row inn left = (.yes r, x) → ∃ t, r = row ++ t ∧ Ext l who c row inn t) :
    ∀ d k row inn left r x, k + d ≤ l.length → fromL l who c n row inn d k left = (.yes r, x) → ∃ t, r = row ++ t ∧ Ext l who c row inn t := by
  intro d
  induction d with
  | zero => intro k row inn left r x _ h; rw [fromL_zero] at h; cases h
  | succ d ihd =>
    intro k row inn left r x hk h
    rw [fromL_succ] at h
    split at h
    · rename_i hg
      cases left with
      | zero => simp at h
      | succ left =>
        simp only at h
        split at h
        · rename_i hl
          split at h
          · exact ihd _ _ _ _ _ _ (by omega) h
          · obtain ⟨t, ht, he⟩ := ih _ _ _ _ _ h
            exact ⟨k :: t, by rw [ht]; simp, by omega, hg, hl, he⟩
        · exact ihd _ _ _ _ _ _ (by omega) h
    · exact ihd _ _ _ _ _ _ (by omega) h
theorem from_sound (l : List Txn) (who c : Nat) : ∀ n row inn left r x, fromF l who c n row inn left = (.yes r, x) → ∃ t, r = row ++ t ∧ Ext l who c row inn t := by
  intro n
  induction n with
  | zero => intro row inn left r x h; simp [fromF] at h
  | succ n ih =>
    intro row inn left r x h
    rw [fromF] at h
    split at h
    · rename_i he
      simp only [Prod.mk.injEq, Out.yes.injEq] at h
      exact ⟨[], by simp [h.1], he⟩
    · exact fromL_sound ih _ _ _ _ _ _ _ (by omega) h
theorem fromL_complete {l : List Txn} {who c n : Nat} (ih : ∀ row inn left t, Ext l who c row inn t → t.length < n → (fromF l who c n row inn left).1 ≠ .no)
    {row : List Nat} {inn k : Nat} {t : List Nat} (he : Ext l who c row inn (k :: t)) (ht : t.length < n) : ∀ d k0 left, k0 ≤ k → k < k0 + d → (fromL l who c n row inn d k0 left).1 ≠ .no := by
  intro d
  induction d with
  | zero => intro k0 left h1 h2; omega
  | succ d ihd =>
    intro k0 left h1 h2
    rw [fromL_succ]
    by_cases hk : k0 = k
    · subst hk
      obtain ⟨_, hg, hl, he2⟩ := he
      rw [if_pos hg]
      cases left with
      | zero => simp
      | succ left =>
        simp only [hl, if_true]
        have := ih _ _ left _ he2 ht
        split
        · rename_i h; rw [h] at this; simp at this
        · exact this
    · split
      · cases left with
        | zero => simp
        | succ left =>
          simp only
          split
          · split
            · exact ihd _ _ (by omega) (by omega)
            · rename_i h
              intro h3
              exact h _ (Prod.ext h3 rfl)
          · exact ihd _ _ (by omega) (by omega)
      · exact ihd _ _ (by omega) (by omega)
theorem from_complete (l : List Txn) (who c : Nat) : ∀ n row inn left t, Ext l who c row inn t → t.length < n → (fromF l who c n row inn left).1 ≠ .no := by
  intro n
  induction n with
  | zero => intro row inn left t _ h; omega
  | succ n ih =>
    intro row inn left t he ht
    rw [fromF]
    split
    · simp
    · rename_i hne
      cases t with
      | nil => exact absurd he hne
      | cons k t => exact fromL_complete ih he (by simpa using ht) _ _ _ (Nat.zero_le _) (by have := he.1; omega)

/-! ### steps -/
/-- How many places from k on, d of them, are so. -/
def cnt (p : Nat → Bool) : Nat → Nat → Nat
  | 0, _ => 0
  | d + 1, k => (if p k then 1 else 0) + cnt p d (k + 1)
theorem cnt_congr {p q : Nat → Bool} : ∀ d k0, (∀ j, k0 ≤ j → j < k0 + d → p j = q j) → cnt p d k0 = cnt q d k0
  | 0, _, _ => rfl
  | d + 1, k0, h => by
    unfold cnt
    rw [h k0 (Nat.le_refl _) (by omega), cnt_congr d (k0 + 1) (fun j h1 h2 => h j (by omega) (by omega))]
theorem cnt_less {p q : Nat → Bool} {k : Nat} (hp : p k = true) (hq : q k = false) (h : ∀ j, j ≠ k → q j = p j) : ∀ d k0, k0 ≤ k → k < k0 + d → cnt q d k0 + 1 = cnt p d k0
  | 0, _, h1, h2 => by omega
  | d + 1, k0, h1, h2 => by
    unfold cnt
    by_cases e : k0 = k
    · subst e
      rw [hp, hq, cnt_congr d (k0 + 1) (fun j h3 _ => h j (by omega))]
      simp
      omega
    · rw [h k0 e]
      have := cnt_less hp hq h d (k0 + 1) (by omega) (by omega)
      omega
theorem cnt_le (p : Nat → Bool) : ∀ d k, cnt p d k ≤ d
  | 0, _ => Nat.le_refl _
  | d + 1, k => by
    unfold cnt
    have := cnt_le p d (k + 1)
    split <;> omega
def rem (l : List Txn) (who inn : Nat) : Nat := cnt (fun j => who.testBit j && !inn.testBit j) l.length 0
theorem rem_less {l : List Txn} {who inn k : Nat} (hk : k < l.length) (h : (who.testBit k && !inn.testBit k) = true) : rem l who (inn ||| 2 ^ k) + 1 = rem l who inn := by
  unfold rem
  refine cnt_less (k := k) h ?_ ?_ _ _ (Nat.zero_le _) (by omega)
  · simp [Nat.testBit_or]
  · intro j hj
    simp [Nat.testBit_or, Ne.symm hj]
def S : Nat → Nat
  | 0 => 0
  | m + 1 => (m + 1) * (1 + S m)
theorem S_pred {m : Nat} (h : 0 < m) : S m = m * (1 + S (m - 1)) := by
  cases m with
  | zero => omega
  | succ m => rfl
theorem S_le {m n : Nat} (h : m ≤ n) : S m ≤ S n := by
  induction h with
  | refl => exact Nat.le_refl _
  | step h ih =>
    rename_i n
    refine Nat.le_trans ih ?_
    show S n ≤ (n + 1) * (1 + S n)
    have : 1 * (1 + S n) ≤ (n + 1) * (1 + S n) := Nat.mul_le_mul_right _ (by omega)
    omega
/-- A search's outcome costs no more than b. -/
def Costs (left b : Nat) (r : Out × Nat) : Prop := r.2 ≤ left ∧ left ≤ r.2 + b ∧ (r.1 = .unknown → r.2 = 0 ∧ left < b)
theorem Costs.mono {left a b : Nat} {r : Out × Nat} (h : Costs left a r) (hab : a ≤ b) : Costs left b r := ⟨h.1, by have := h.2.1; omega, fun e => ⟨(h.2.2 e).1, by have := (h.2.2 e).2; omega⟩⟩
theorem fromL_costs {l : List Txn} {who c n : Nat} (ih : ∀ row inn left, Costs left (S (rem l who inn)) (fromF l who c n row inn left)) (row : List Nat) (inn : Nat) :
    ∀ d k left, k + d ≤ l.length → Costs left (cnt (fun j => who.testBit j && !inn.testBit j) d k * (1 + S (rem l who inn - 1))) (fromL l who c n row inn d k left) := by
  intro d
  induction d with
  | zero => intro k left _; rw [fromL_zero]; exact ⟨Nat.le_refl _, by simp, fun e => by cases e⟩
  | succ d ihd =>
    intro k left hk
    rw [fromL_succ]
    unfold cnt
    by_cases hg : ((who.testBit k && !inn.testBit k) && freeB l who inn k) = true
    · rw [if_pos hg]
      have hg1 : (who.testBit k && !inn.testBit k) = true := by
        rw [Bool.and_eq_true] at hg
        exact hg.1
      have hr := rem_less (l := l) (by omega) hg1
      rw [if_pos hg1, Nat.add_mul, Nat.one_mul]
      generalize hB : cnt (fun j => who.testBit j && !inn.testBit j) d (k + 1) * (1 + S (rem l who inn - 1)) = B at *
      have ihk := fun left => ihd (k + 1) left (by omega)
      rw [hB] at ihk
      cases left with
      | zero => exact ⟨Nat.le_refl _, by simp, fun _ => ⟨rfl, by omega⟩⟩
      | succ left =>
        simp only
        have skip : ∀ a left', left' ≤ left → left ≤ left' + a → a ≤ S (rem l who inn - 1) → Costs (left + 1) (1 + S (rem l who inn - 1) + B) (fromL l who c n row inn d (k + 1) left') := fun a left' h1 h2 h3 => by
          obtain ⟨a1, a2, a3⟩ := ihk left'
          exact ⟨by omega, by omega, fun e => ⟨(a3 e).1, by have := (a3 e).2; omega⟩⟩
        split
        · have h1 := ih (row ++ [k]) (inn ||| 2 ^ k) left
          have he : rem l who (inn ||| 2 ^ k) = rem l who inn - 1 := by omega
          rw [he] at h1
          split
          · rename_i left' heq
            rw [heq] at h1
            exact skip _ _ h1.1 h1.2.1 (Nat.le_refl _)
          · obtain ⟨a1, a2, a3⟩ := h1
            exact ⟨by omega, by omega, fun e => ⟨(a3 e).1, by have := (a3 e).2; omega⟩⟩
        · exact skip 0 left (Nat.le_refl _) (by omega) (Nat.zero_le _)
    · rw [if_neg hg]
      refine (ihd (k + 1) left (by omega)).mono (Nat.mul_le_mul_right _ ?_)
      omega
theorem from_costs (l : List Txn) (who c : Nat) : ∀ n row inn left, Costs left (S (rem l who inn)) (fromF l who c n row inn left) := by
  intro n
  induction n with
  | zero => intro row inn left; rw [fromF]; exact ⟨Nat.le_refl _, by simp, fun e => by cases e⟩
  | succ n ih =>
    intro row inn left
    rw [fromF]
    split
    · exact ⟨Nat.le_refl _, by simp, fun e => by cases e⟩
    · have := fromL_costs ih row inn l.length 0 left (by omega)
      refine this.mono ?_
      show rem l who inn * (1 + S (rem l who inn - 1)) ≤ S (rem l who inn)
      by_cases h : 0 < rem l who inn
      · rw [S_pred h]; exact Nat.le_refl _
      · have : rem l who inn = 0 := by omega
        rw [this]; simp
/-- A greater budget changes nothing, if the smaller one was enough. -/
theorem fromL_more {l : List Txn} {who c n e : Nat} (ih : ∀ row inn left o x, fromF l who c n row inn left = (o, x) → o ≠ .unknown → fromF l who c n row inn (left + e) = (o, x + e)) (row : List Nat) (inn : Nat) :
    ∀ d k left o x, fromL l who c n row inn d k left = (o, x) → o ≠ .unknown → fromL l who c n row inn d k (left + e) = (o, x + e) := by
  intro d
  induction d with
  | zero => intro k left o x h _; rw [fromL_zero] at h ⊢; cases h; rfl
  | succ d ihd =>
    intro k left o x h ho
    rw [fromL_succ] at h ⊢
    split
    · rename_i hg
      rw [if_pos hg] at h
      cases left with
      | zero => simp at h; exact absurd h.1.symm ho
      | succ left =>
        rw [show left + 1 + e = (left + e) + 1 by omega]
        simp only at h ⊢
        split
        · rename_i hl
          rw [if_pos hl] at h
          cases hf : fromF l who c n (row ++ [k]) (inn ||| 2 ^ k) left with
          | mk o1 x1 =>
            rw [hf] at h
            cases o1 with
            | no =>
              rw [ih _ _ _ _ _ hf (by simp)]
              exact ihd _ _ _ _ h ho
            | unknown => simp at h; exact absurd h.1.symm ho
            | yes r =>
              rw [ih _ _ _ _ _ hf (by simp)]
              simp at h ⊢
              exact ⟨h.1, by omega⟩
        · rename_i hl
          rw [if_neg hl] at h
          exact ihd _ _ _ _ h ho
    · rename_i hg
      rw [if_neg hg] at h
      exact ihd _ _ _ _ h ho
theorem from_more (l : List Txn) (who c e : Nat) : ∀ n row inn left o x, fromF l who c n row inn left = (o, x) → o ≠ .unknown → fromF l who c n row inn (left + e) = (o, x + e) := by
  intro n
  induction n with
  | zero => intro row inn left o x h _; rw [fromF] at h ⊢; cases h; rfl
  | succ n ih =>
    intro row inn left o x h ho
    rw [fromF] at h ⊢
    split
    · rename_i hw; rw [if_pos hw] at h; cases h; rfl
    · rename_i hw
      rw [if_neg hw] at h
      exact fromL_more ih _ _ _ _ _ _ _ h ho

/-! ### all choices -/
def allOf (l : List Txn) : Nat := 2 ^ l.length - 1
/-- One search. -/
def rowF (l : List Txn) (who c left : Nat) : Out × Nat := fromF l who c (l.length + 1) [] 0 left
def searchC (l : List Txn) : List Nat → Nat → Out × Nat × Nat
  | [], left => (.no, 0, left)
  | c :: cs, left => match rowF l (allOf l) c left with
    | (.no, left') => searchC l cs left'
    | (o, left') => (o, c, left')
def foundOf (budget : Nat) : Out × Nat × Nat → Found
  | (.yes row, c, left) => ⟨0, c, row.map Int.ofNat, (budget : Int) - left⟩
  | (.unknown, _, left) => ⟨2, 0, [], (budget : Int) - left⟩
  | (.no, _, left) => ⟨1, 0, [], (budget : Int) - left⟩
def search (l : List Txn) (budget : Nat) : Found := foundOf budget (searchC l (choices l) budget)
theorem searchC_costs (l : List Txn) : ∀ cs left, (searchC l cs left).2.2 ≤ left ∧ left ≤ (searchC l cs left).2.2 + cs.length * S (rem l (allOf l) 0) ∧ ((searchC l cs left).1 = .unknown → (searchC l cs left).2.2 = 0 ∧ left < cs.length * S (rem l (allOf l) 0)) := by
  intro cs
  induction cs with
  | nil => intro left; exact ⟨Nat.le_refl _, by simp [searchC], fun e => by cases e⟩
  | cons c cs ih =>
    intro left
    have h := from_costs l (allOf l) c (l.length + 1) [] 0 left
    generalize S (rem l (allOf l) 0) = s at *
    rw [searchC, List.length_cons, Nat.succ_mul]
    unfold rowF
    split
    · rename_i left' heq
      rw [heq] at h
      obtain ⟨h1, h2, _⟩ := h
      obtain ⟨a1, a2, a3⟩ := ih left'
      simp only at h1 h2
      exact ⟨by omega, by omega, fun e => ⟨(a3 e).1, by have := (a3 e).2; omega⟩⟩
    · rename_i o left' _ heq
      rw [heq] at h
      obtain ⟨h1, h2, h3⟩ := h
      simp only at h1 h2 h3 ⊢
      exact ⟨h1, by omega, fun e => ⟨(h3 e).1, by have := (h3 e).2; omega⟩⟩
theorem searchC_yes (l : List Txn) : ∀ cs left r c x, searchC l cs left = (.yes r, c, x) → c ∈ cs ∧ Ext l (allOf l) c [] 0 r := by
  intro cs
  induction cs with
  | nil => intro left r c x h; simp [searchC] at h
  | cons c0 cs ih =>
    intro left r c x h
    rw [searchC] at h
    unfold rowF at h
    split at h
    · obtain ⟨h1, h2⟩ := ih _ _ _ _ h
      exact ⟨List.mem_cons_of_mem _ h1, h2⟩
    · rename_i o left' _ heq
      simp only [Prod.mk.injEq] at h
      obtain ⟨rfl, rfl, rfl⟩ := h
      obtain ⟨t, ht, he⟩ := from_sound _ _ _ _ _ _ _ _ _ heq
      rw [List.nil_append] at ht
      exact ⟨List.mem_cons_self, ht ▸ he⟩
theorem searchC_no {l : List Txn} {c : Nat} {r : List Nat} (he : Ext l (allOf l) c [] 0 r) (hr : r.length ≤ l.length) : ∀ cs left, c ∈ cs → (searchC l cs left).1 ≠ .no := by
  intro cs
  induction cs with
  | nil => intro left h; cases h
  | cons c0 cs ih =>
    intro left h
    rw [searchC]
    unfold rowF
    rcases List.mem_cons.1 h with rfl | h
    · have := from_complete l (allOf l) c (l.length + 1) [] 0 left r he (by omega)
      split
      · rename_i heq; rw [heq] at this; simp at this
      · rename_i heq; rw [heq] at this; exact this
    · split
      · exact ih _ h
      · rename_i o left' hne heq
        intro e
        exact hne e
theorem choices_len (l : List Txn) : (choices l).length ≤ 64 := by
  unfold choices
  refine Nat.le_trans (List.length_filter_le _ _) (by simp)
theorem S6 : S 6 = 1956 := by decide
theorem rem_le (l : List Txn) (who inn : Nat) : rem l who inn ≤ l.length := cnt_le _ _ _
theorem search_known {l : List Txn} {b : Nat} (hl : l.length ≤ 6) (hb : 125184 ≤ b) : (searchC l (choices l) b).1 ≠ .unknown := by
  intro e
  have h1 := ((searchC_costs l (choices l) b).2.2 e).2
  have h2 : S (rem l (allOf l) 0) ≤ S 6 := S_le (Nat.le_trans (rem_le _ _ _) hl)
  rw [S6] at h2
  have h3 := Nat.mul_le_mul (choices_len l) h2
  omega
/-- If some choice and row explain all, the search with a great budget says yes. -/
theorem search_yes {l : List Txn} {c : Nat} {r : List Nat} {b : Nat} (hl : l.length ≤ 6) (hb : 125184 ≤ b) (hc : c ∈ choices l) (he : Ext l (allOf l) c [] 0 r) (hr : r.length ≤ l.length) : (search l b).verdict = 0 := by
  have h1 := search_known hl hb
  have h2 := searchC_no he hr (choices l) b hc
  unfold search
  cases h : searchC l (choices l) b with
  | mk o q =>
    rw [h] at h1 h2
    obtain ⟨c', x⟩ := q
    cases o with
    | yes r => rfl
    | unknown => exact absurd rfl h1
    | no => exact absurd rfl h2
end Go.Proofs.YtnogalajfccioaaDoor
