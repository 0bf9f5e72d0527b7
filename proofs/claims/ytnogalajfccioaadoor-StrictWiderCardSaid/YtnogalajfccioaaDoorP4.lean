/- Layers 8, 10, 13, plain: parts of events; transactions one after the other are opaque. -/
import Derived.Test.YtnogalajfccioaaDoorP3
namespace Go.Proofs.YtnogalajfccioaaDoor
/-! ### legal rows -/
def memF (l : List Txn) (c : Nat) (m : Mem) (row : List Nat) : Mem := row.foldl (fun m i => if c.testBit i then with_ m (at_ l i).ops else m) m
theorem legalF_le (l : List Txn) (c : Nat) : ∀ (r : List Nat) (m : Mem), legalF l c m r ≤ r.length
  | [], _ => Nat.le_refl _
  | i :: r, m => by
    unfold legalF
    split
    · exact Nat.zero_le _
    · have := legalF_le l c r (if c.testBit i then with_ m (at_ l i).ops else m)
      simp only [List.length_cons]
      omega
theorem legalF_append (l : List Txn) (c : Nat) (s : List Nat) : ∀ (r : List Nat) (m : Mem), legalF l c m (r ++ s) = if legalF l c m r = r.length then r.length + legalF l c (memF l c m r) s else legalF l c m r
  | [], m => by simp [legalF, memF]
  | i :: r, m => by
    have cons : ∀ r, legalF l c m (i :: r) = if own (at_ l i).ops m < (at_ l i).ops.length then 0 else legalF l c (if c.testBit i then with_ m (at_ l i).ops else m) r + 1 := fun _ => rfl
    have e1 : memF l c m (i :: r) = memF l c (if c.testBit i then with_ m (at_ l i).ops else m) r := rfl
    rw [List.cons_append, cons, cons, e1]
    generalize (if c.testBit i then with_ m (at_ l i).ops else m) = m'
    by_cases ho : own (at_ l i).ops m < (at_ l i).ops.length
    · simp [ho]
    · simp only [ho, if_false, List.length_cons, legalF_append l c s r m']
      by_cases h1 : legalF l c m' r = r.length
      · rw [if_pos h1, if_pos (by omega)]
        omega
      · rw [if_neg h1, if_neg (by omega)]
theorem legal_prefix {l : List Txn} {c : Nat} {r s : List Nat} (h : legal l (r ++ s) c = (r ++ s).length) : legal l r c = r.length := by
  unfold legal at *
  rw [legalF_append] at h
  split at h
  · assumption
  · have := legalF_le l c r Mem0
    simp at h
    omega
theorem legalF_congr {l l' : List Txn} {c c' : Nat} : ∀ (r : List Nat) (m : Mem), (∀ i, i ∈ r → (at_ l i).ops = (at_ l' i).ops ∧ c.testBit i = c'.testBit i) → legalF l c m r = legalF l' c' m r ∧ memF l c m r = memF l' c' m r
  | [], m, _ => ⟨rfl, rfl⟩
  | i :: r, m, h => by
    obtain ⟨h1, h2⟩ := h i List.mem_cons_self
    have ih := legalF_congr r (if c.testBit i then with_ m (at_ l i).ops else m) (fun j hj => h j (List.mem_cons_of_mem _ hj))
    unfold legalF
    have e1 : memF l c m (i :: r) = memF l c (if c.testBit i then with_ m (at_ l i).ops else m) r := rfl
    have e2 : memF l' c' m (i :: r) = memF l' c' (if c'.testBit i then with_ m (at_ l' i).ops else m) r := rfl
    rw [e1, e2, ← h1, ← h2, ih.1, ih.2]
    exact ⟨rfl, rfl⟩
theorem own_le : ∀ (o : List Op) (m : Mem), own o m ≤ o.length
  | [], _ => Nat.le_refl _
  | a :: o, m => by
    unfold own
    have := own_le o m
    have := own_le o (m.put a)
    simp only [List.length_cons]
    split
    · omega
    · split <;> omega
theorem own_prefix {a b : List Op} (h : a <+: b) : ∀ (m : Mem), own b m = b.length → own a m = a.length := by
  obtain ⟨t, rfl⟩ := h
  induction a with
  | nil => intro m _; rfl
  | cons o a ih =>
    intro m h
    rw [List.cons_append] at h
    unfold own at h ⊢
    simp only [List.length_cons] at h ⊢
    split
    · rename_i hw
      rw [if_pos hw] at h
      rw [ih (m.put o) (by omega)]
    · rename_i hw
      rw [if_neg hw] at h
      split
      · rename_i hv
        rw [if_pos hv] at h
        rw [ih m (by omega)]
      · rename_i hv
        rw [if_neg hv] at h
        omega
theorem legal_snoc {l : List Txn} {c : Nat} {r : List Nat} {k : Nat} (h : legal l r c = r.length) (ho : own (at_ l k).ops (memF l c Mem0 r) = (at_ l k).ops.length) : legal l (r ++ [k]) c = (r ++ [k]).length := by
  unfold legal at *
  rw [legalF_append, if_pos h]
  simp [legalF, ho]
theorem legal_own {l : List Txn} {c : Nat} {r : List Nat} {k : Nat} (h : legal l (r ++ [k]) c = (r ++ [k]).length) : own (at_ l k).ops (memF l c Mem0 r) = (at_ l k).ops.length := by
  have h0 := legal_prefix h
  unfold legal at *
  rw [legalF_append, if_pos h0] at h
  have hle := own_le (at_ l k).ops (memF l c Mem0 r)
  simp only [List.length_append, List.length_cons, List.length_nil, legalF] at h
  split at h
  · omega
  · omega
/-! ### parts of events that may be -/
theorem runF_take : ∀ (h : List Ev) (now : Int → Int) (k : Nat), runF now h = h.length → runF now (h.take k) = (h.take k).length
  | [], now, k, _ => by simp [runF]
  | e :: h, now, 0, _ => by simp [runF]
  | e :: h, now, k + 1, hr => by
    rw [List.take_succ_cons]
    unfold runF at hr ⊢
    cases hm : mv (now e.tx) e.kind with
    | none => rw [hm] at hr; simp at hr
    | some s =>
      rw [hm] at hr
      simp only [List.length_cons] at hr ⊢
      rw [runF_take h _ k (by omega)]
theorem namesF_take_len : ∀ (h : List Ev) (l : List Int) (k : Nat), (namesF l (h.take k)).length ≤ (namesF l h).length
  | [], l, k => by simp
  | e :: h, l, 0 => by
    rw [List.take_zero]
    show l.length ≤ _
    have : ∀ (h : List Ev) (l : List Int), l.length ≤ (namesF l h).length := by
      intro h
      induction h with
      | nil => intro l; exact Nat.le_refl _
      | cons e h ih =>
        intro l
        refine Nat.le_trans ?_ (ih _)
        unfold addName
        split <;> simp
    exact this _ _
  | e :: h, l, k + 1 => by
    rw [List.take_succ_cons]
    exact namesF_take_len h _ k
theorem WF_of_why {h : List Ev} (hw : why h = 0) : RightB h = true ∧ first h = h.length := by
  unfold why at hw
  split at hw
  · rename_i h1
    split at hw
    · cases hw
    · rename_i h2
      refine ⟨h1, ?_⟩
      have : ∀ (h : List Ev) (now : Int → Int), runF now h ≤ h.length := by
        intro h
        induction h with
        | nil => intro now; exact Nat.le_refl _
        | cons e h ih =>
          intro now
          unfold runF
          split
          · exact Nat.zero_le _
          · have := ih (upd now e.tx ‹_›); simp only [List.length_cons]; omega
      have := this h (fun _ => 0)
      unfold first at *
      omega
  · cases hw
theorem why_take {h : List Ev} (hw : why h = 0) (k : Nat) : why (h.take k) = 0 := by
  obtain ⟨hr, hf⟩ := WF_of_why hw
  have hr2 : RightB (h.take k) = true := by
    unfold RightB at *
    simp only [Bool.and_eq_true, decide_eq_true_eq] at *
    obtain ⟨⟨h1, h2⟩, h3⟩ := hr
    refine ⟨⟨?_, ?_⟩, ?_⟩
    · simp; omega
    · rw [List.all_eq_true] at h2 ⊢
      exact fun x hx => h2 x (List.mem_of_mem_take hx)
    · exact Nat.le_trans (namesF_take_len h [] k) h3
  unfold why
  rw [if_pos hr2, if_neg]
  have := runF_take h (fun _ => 0) k hf
  unfold first
  omega
/-! ### opacity -/
def checkL (h : List Ev) (budget : Nat) : Nat → Nat → Checked → Checked
  | 0, _, out => out
  | d + 1, k, out =>
    let f := search (table (h.take k)) budget
    let out := ({ out with verdict := f.verdict, place := k, steps := out.steps + f.steps } : Checked)
    if f.verdict = 0 then checkL h budget d (k + 1) { out with commits := f.commits, row := f.row } else out
def checkF (h : List Ev) (budget : Nat) : Checked := checkL h budget (h.length + 1) 0 ⟨0, 0, 0, [], 0⟩
theorem checkL_yes {h : List Ev} {b : Nat} : ∀ d k out, (∀ j, k ≤ j → j < k + d → (search (table (h.take j)) b).verdict = 0) → out.verdict = 0 → (checkL h b d k out).verdict = 0
  | 0, _, _, _, ho => ho
  | d + 1, k, out, hs, ho => by
    unfold checkL
    have h0 := hs k (Nat.le_refl _) (by omega)
    simp only [h0, if_true]
    exact checkL_yes d (k + 1) _ (fun j h1 h2 => hs j (by omega) (by omega)) rfl
/-! ### one after the other -/
def apartB (h : List Ev) (t : Txn) : Bool := decide (t.last - t.first + 1 ≠ ((mine h t.name).length : Int))
def serialB (h : List Ev) : Bool := !((table h).any (apartB h))
theorem serial_span {h : List Ev} (hs : serialB h = true) {k : Keep} (hk : k ∈ keepF [] 0 h) {f l : Nat} (h1 : k.t.first = f) (h2 : k.t.last = l) {n : Nat} {e : Ev} (hf : f ≤ n) (hl : n ≤ l) (he : h[n]? = some e) : e.tx = k.t.name := by
  obtain ⟨f', l', a1, a2, a3, a4, _, _, a7⟩ := ((tabInv h).ok k hk).span
  obtain rfl : f' = f := by omega
  obtain rfl : l' = l := by omega
  have hap : apartB h k.t = false := by
    have : (table h).any (apartB h) = false := by simpa [serialB] using hs
    have := List.any_eq_false.1 this k.t (List.mem_map.2 ⟨k, hk, rfl⟩)
    simpa using this
  have hc : (mine h k.t.name).length = l' - f' + 1 := by
    unfold apartB at hap
    simp only [decide_eq_false_iff_not, Decidable.not_not] at hap
    omega
  obtain ⟨p, hp⟩ : ∃ p : Ev → Bool, p = fun e => e.tx == k.t.name := ⟨_, rfl⟩
  have hm : (mine h k.t.name).length = h.countP p := by rw [hp, List.countP_eq_length_filter]; rfl
  have hsplit : h = h.take f' ++ ((h.drop f').take (l' - f' + 1) ++ (h.drop f').drop (l' - f' + 1)) := by rw [List.take_append_drop, List.take_append_drop]
  have c1 : (h.take f').countP p = 0 := by
    rw [List.countP_eq_zero]
    intro a ha hpa
    obtain ⟨m, hm⟩ := List.mem_iff_getElem?.1 ha
    rw [List.getElem?_take] at hm
    split at hm
    · have := a7 m a hm (by rw [hp] at hpa; simpa using hpa)
      omega
    · cases hm
  have c3 : ((h.drop f').drop (l' - f' + 1)).countP p = 0 := by
    rw [List.countP_eq_zero]
    intro a ha hpa
    obtain ⟨m, hm⟩ := List.mem_iff_getElem?.1 ha
    rw [List.getElem?_drop, List.getElem?_drop] at hm
    have := a7 _ a hm (by rw [hp] at hpa; simpa using hpa)
    omega
  have hlen : ((h.drop f').take (l' - f' + 1)).length = l' - f' + 1 := by simp; omega
  have c2 : ((h.drop f').take (l' - f' + 1)).countP p = ((h.drop f').take (l' - f' + 1)).length := by
    have h3 := hm
    rw [hsplit, List.countP_append, List.countP_append, c1, c3] at h3
    rw [← hsplit] at h3
    omega
  have hall := List.countP_eq_length.1 c2 e (by
    refine List.mem_iff_getElem?.2 ⟨n - f', ?_⟩
    rw [List.getElem?_take, if_pos (by omega), List.getElem?_drop, ← he]
    congr 1
    omega)
  rw [hp] at hall
  simpa using hall
/-- Of transactions one after the other, all but the last one of a part are whole. -/
theorem serial_whole {h : List Ev} (hs : serialB h = true) (n : Nat) {i : Nat} (hi : i + 1 < (table (h.take n)).length) : at_ (table (h.take n)) i = at_ (table h) i := by
  obtain ⟨a, ha, ea, hka⟩ := table_get (h := h.take n) (i := i) (by omega)
  obtain ⟨b, hb, eb, hkb⟩ := table_get hi
  have hrise := (tabInv (h.take n)).rise _ _ _ _ (Nat.lt_succ_self i) ha hb
  have hsplit : keepF [] 0 h = keepF (keepF [] 0 (h.take n)) (0 + (h.take n).length) (h.drop n) := by rw [← keepF_append, List.take_append_drop]
  obtain ⟨a', ha', hn', hf', _, hsame⟩ := keepF_more (h.drop n) _ (0 + ((h.take n).length : Int)) i a ha
  rw [← hsplit] at ha'
  have ham := List.mem_of_getElem? ha'
  obtain ⟨f, l, b1, b2, b3, b4, _, _, b7⟩ := ((tabInv h).ok a' ham).span
  obtain ⟨g, _, c1, _, _, c4, ⟨x, c5, c6⟩, _⟩ := hkb.span
  obtain ⟨_, _, _, _, _, c4b, _⟩ := hkb.span
  have hgn : g < (h.take n).length := (List.getElem?_eq_some_iff.1 c5).1
  have hxh : h[g]? = some x := by
    rw [List.getElem?_take] at c5
    split at c5
    · exact c5
    · cases c5
  have heq : a' = a := hsame (fun e he hx => by
    obtain ⟨m, hm⟩ := List.mem_iff_getElem?.1 he
    rw [List.getElem?_drop] at hm
    have h1 := b7 _ _ hm (hx.trans hn'.symm)
    have h2 := serial_span hs ham b1 b2 (n := g) (by have := hrise.1; omega) (by simp at hgn; omega) hxh
    exact hrise.2 (by rw [← hn', ← h2, c6]))
  obtain ⟨hl, _⟩ := List.getElem?_eq_some_iff.1 ha'
  have hil : i < (table h).length := by simpa [table] using hl
  obtain ⟨a2, ha2, ea2, _⟩ := table_get hil
  rw [ha'] at ha2
  cases ha2
  rw [ea, ea2, heq]
theorem table_take_len (h : List Ev) (n : Nat) : (table (h.take n)).length ≤ (table h).length := by
  have hsplit : keepF [] 0 h = keepF (keepF [] 0 (h.take n)) (0 + (h.take n).length) (h.drop n) := by rw [← keepF_append, List.take_append_drop]
  have := keepF_len_le (h.drop n) (keepF [] 0 (h.take n)) (0 + ((h.take n).length : Int))
  rw [← hsplit] at this
  simpa [table] using this
theorem ops_take (h : List Ev) (n : Nat) {i : Nat} (hi : i < (table (h.take n)).length) : (at_ (table (h.take n)) i).ops <+: (at_ (table h) i).ops := by
  obtain ⟨a, ha, ea, hka⟩ := table_get hi
  have hsplit : keepF [] 0 h = keepF (keepF [] 0 (h.take n)) (0 + (h.take n).length) (h.drop n) := by rw [← keepF_append, List.take_append_drop]
  obtain ⟨a', ha', _, _, hp, _⟩ := keepF_more (h.drop n) _ (0 + ((h.take n).length : Int)) i a ha
  rw [← hsplit] at ha'
  obtain ⟨a2, ha2, ea2, _⟩ := table_get (h := h) (i := i) (by have := table_take_len h n; omega)
  rw [ha'] at ha2
  cases ha2
  rw [ea, ea2]
  exact hp
theorem bits_bit (l : List Txn) (s : Int) (i : Nat) : (bits l s).testBit i = (decide (i < l.length) && ((at_ l i).state == s)) := mask_bit _ _ _
theorem bits_choice {l : List Txn} (hl : l.length ≤ 6) : bits l 2 ∈ choices l := by
  have h1 : bits l 2 < 2 ^ l.length := mask_lt _ _
  unfold choices
  refine List.mem_filter.2 ⟨List.mem_range.2 (Nat.lt_of_lt_of_le h1 (Nat.pow_le_pow_right (n := 2) (by omega) hl)), ?_⟩
  unfold isChoice
  rw [Bool.and_eq_true]
  refine ⟨List.all_eq_true.2 fun i hi => ?_, by simpa using h1⟩
  have hi2 := List.mem_range.1 hi
  rw [bits_bit]
  simp only [hi2, decide_true, Bool.true_and]
  split
  · rename_i h; simp [h]
  · rename_i h; simpa using h
theorem pow_or (j : Nat) : (2 ^ j - 1) ||| 2 ^ j = 2 ^ (j + 1) - 1 := by
  apply Nat.eq_of_testBit_eq
  intro i
  rw [Nat.testBit_or, Nat.testBit_two_pow_sub_one, Nat.testBit_two_pow, Nat.testBit_two_pow_sub_one]
  rcases Nat.lt_trichotomy i j with h | h | h
  · have h2 : i < j + 1 := by omega
    simp [h, h2]
  · subst h; simp
  · have h1 : ¬ i < j := by omega
    have h2 : ¬ i < j + 1 := by omega
    have h3 : ¬ j = i := by omega
    simp [h1, h2, h3]
/-- The row of all, as they begin, keeps the order. -/
theorem ext_range {h : List Ev} {c : Nat} (hl : legal (table h) (List.range (table h).length) c = (table h).length) :
    ∀ d j, j + d = (table h).length → Ext (table h) (allOf (table h)) c (List.range j) (2 ^ j - 1) (List.range' j d)
  | 0, j, hj => by
    unfold Ext allOf
    rw [← hj]
    rfl
  | d + 1, j, hj => by
    rw [List.range'_succ]
    refine ⟨by omega, ?_, ?_, ?_⟩
    · unfold allOf freeB
      rw [Nat.testBit_two_pow_sub_one, Nat.testBit_two_pow_sub_one]
      have h1 : j < (table h).length := by omega
      simp only [h1, decide_true, Nat.lt_irrefl, decide_false, Bool.not_false, Bool.true_and, Bool.and_true, List.all_eq_true, List.mem_range]
      intro i hi
      rw [Nat.testBit_two_pow_sub_one, Nat.testBit_two_pow_sub_one]
      by_cases hij : i < j
      · simp [hij]
      · rw [not_before_back (by omega) hi]
        simp
    · have hs : List.range (table h).length = (List.range j ++ [j]) ++ List.range' (j + 1) d := by
        rw [← hj, List.range_eq_range', List.range_eq_range', show j + (d + 1) = j + 1 + d by omega, ← List.range'_append_1, ← List.range'_append_1]
        simp
      have := legal_prefix (l := table h) (c := c) (r := List.range j ++ [j]) (s := List.range' (j + 1) d) (by rw [← hs, hl]; simp)
      simpa using this
    · rw [pow_or]
      have := ext_range hl d (j + 1) (by omega)
      rw [List.range_succ] at this
      exact this
theorem opaque_serial {h : List Ev} (hl : (table h).length ≤ 6) (hs : serialB h = true) (hleg : legal (table h) (List.range (table h).length) (bits (table h) 2) = (table h).length) : (checkF h 125184).verdict = 0 := by
  unfold checkF
  refine checkL_yes _ _ _ (fun n _ _ => ?_) rfl
  have hn := table_take_len h n
  have key : legal (table (h.take n)) (List.range (table (h.take n)).length) (bits (table (h.take n)) 2) = (table (h.take n)).length := by
    generalize hN : (table (h.take n)).length = N at *
    cases N with
    | zero => rfl
    | succ N =>
      have hpre : List.range (table h).length = List.range (N + 1) ++ List.range' (N + 1) ((table h).length - (N + 1)) := by
        rw [List.range_eq_range', List.range_eq_range']
        have : (table h).length = N + 1 + ((table h).length - (N + 1)) := by omega
        conv => lhs; rw [this, ← List.range'_append_1]
        simp
      have h1 := legal_prefix (l := table h) (c := bits (table h) 2) (r := List.range (N + 1)) (s := List.range' (N + 1) ((table h).length - (N + 1))) (by rw [← hpre, hleg]; simp)
      rw [List.range_succ] at h1 ⊢
      have hc : ∀ i, i ∈ List.range N → (at_ (table (h.take n)) i).ops = (at_ (table h) i).ops ∧ (bits (table (h.take n)) 2).testBit i = (bits (table h) 2).testBit i := fun i hi => by
        have hi2 := List.mem_range.1 hi
        have he := serial_whole hs n (i := i) (by omega)
        rw [bits_bit, bits_bit, he]
        have h3 : i < (table (h.take n)).length := by omega
        have h4 : i < (table h).length := by omega
        simp [h3, h4]
      have hcg := legalF_congr (List.range N) Mem0 hc
      have hown := legal_own h1
      have h0 := legal_prefix h1
      have := legal_snoc (l := table (h.take n)) (c := bits (table (h.take n)) 2) (r := List.range N) (k := N) (by unfold legal at *; rw [hcg.1]; exact h0) (by rw [hcg.2]; exact own_prefix (ops_take h n (by omega)) _ hown)
      simpa using this
  have hx : Ext (table (h.take n)) (allOf (table (h.take n))) (bits (table (h.take n)) 2) [] 0 (List.range' 0 (table (h.take n)).length) := ext_range key (table (h.take n)).length 0 (by omega)
  exact search_yes (by omega) (Nat.le_refl _) (bits_choice (by omega)) hx (by simp)
end Go.Proofs.YtnogalajfccioaaDoor
