/- Tables, plain: what a transaction's entry tells of the events. -/
import Derived.Test.YtnogalajfccioaaDoorP2
namespace Go.Proofs.YtnogalajfccioaaDoor
theorem keepF_append (h : List Ev) : ∀ (l : List Keep) (i : Int) (g : List Ev), keepF l i (h ++ g) = keepF (keepF l i h) (i + h.length) g := by
  induction h with
  | nil => intro l i g; simp [keepF]
  | cons e h ih =>
    intro l i g
    simp only [List.cons_append, keepF, List.length_cons]
    rw [ih]
    congr 1
    omega
theorem keepF_snoc (h : List Ev) (e : Ev) : keepF [] 0 (h ++ [e]) = keepStep (keepF [] 0 h) h.length e := by
  rw [keepF_append]
  simp [keepF]
/-- A transaction's own events. -/
def mine (h : List Ev) (t : Int) : List Ev := h.filter fun e => e.tx == t
theorem mine_append (h g : List Ev) (t : Int) : mine (h ++ g) t = mine h t ++ mine g t := List.filter_append ..
theorem mine_ne {e : Ev} {t : Int} (h : e.tx ≠ t) : mine [e] t = [] := by simp [mine, h]
theorem mine_eq (e : Ev) : mine [e] e.tx = [e] := by simp [mine]
/-- What is kept of a transaction, but for places. -/
def takeS (s : Int × List Op × Ev) (e : Ev) : Int × List Op × Ev :=
  (if e.kind = 6 then 1 else if e.kind = 7 then 2 else if e.kind = 9 then 3 else 0,
   if e.kind = 3 then s.2.1 ++ [⟨false, s.2.2.var, e.val⟩] else if e.kind = 5 then s.2.1 ++ [⟨true, s.2.2.var, s.2.2.val⟩] else s.2.1,
   if e.kind = 2 ∨ e.kind = 4 then e else s.2.2)
def statOf (l : List Ev) : Int × List Op × Ev := l.foldl takeS (0, [], zEv)
theorem statOf_snoc (l : List Ev) (e : Ev) : statOf (l ++ [e]) = takeS (statOf l) e := by simp [statOf, List.foldl_append]
structure KeepOK (h : List Ev) (k : Keep) : Prop where
  stat : (k.t.state, k.t.ops, k.a) = statOf (mine h k.t.name)
  span : ∃ f l : Nat, k.t.first = f ∧ k.t.last = l ∧ f ≤ l ∧ l < h.length ∧ (∃ e, h[f]? = some e ∧ e.tx = k.t.name) ∧ (∃ e, h[l]? = some e ∧ e.tx = k.t.name) ∧ ∀ n e, h[n]? = some e → e.tx = k.t.name → f ≤ n ∧ n ≤ l
theorem get_snoc {α : Type} {h : List α} {e x : α} {n : Nat} (hx : (h ++ [e])[n]? = some x) : h[n]? = some x ∨ (n = h.length ∧ x = e) := by
  by_cases hn : n < h.length
  · rw [List.getElem?_append_left hn] at hx; exact .inl hx
  · rw [List.getElem?_append_right (by omega)] at hx
    have hl : n - h.length < 1 := by have := (List.getElem?_eq_some_iff.1 hx).1; simpa using this
    have : n = h.length := by omega
    subst this
    simp at hx
    exact .inr ⟨rfl, hx.symm⟩
theorem get_snoc_left {α : Type} {h : List α} {e x : α} {n : Nat} (hx : h[n]? = some x) : (h ++ [e])[n]? = some x := by
  rw [List.getElem?_append_left (List.getElem?_eq_some_iff.1 hx).1]; exact hx
theorem KeepOK.skip {h : List Ev} {k : Keep} (hk : KeepOK h k) {e : Ev} (he : e.tx ≠ k.t.name) : KeepOK (h ++ [e]) k where
  stat := by rw [mine_append, mine_ne he, List.append_nil]; exact hk.stat
  span := by
    obtain ⟨f, l, h1, h2, h3, h4, ⟨ef, h5, h6⟩, ⟨el, h7, h8⟩, h9⟩ := hk.span
    refine ⟨f, l, h1, h2, h3, by simp; omega, ⟨ef, get_snoc_left h5, h6⟩, ⟨el, get_snoc_left h7, h8⟩, ?_⟩
    intro n x hx hxt
    rcases get_snoc hx with hx | ⟨rfl, rfl⟩
    · exact h9 n x hx hxt
    · exact absurd hxt he
theorem KeepOK.take {h : List Ev} {k : Keep} (hk : KeepOK h k) {e : Ev} (he : e.tx = k.t.name) : KeepOK (h ++ [e]) (k.take h.length e) where
  stat := by
    have e1 : (k.take h.length e).t.name = k.t.name := rfl
    rw [e1, ← he, mine_append, mine_eq, statOf_snoc, he, ← hk.stat]
    rfl
  span := by
    obtain ⟨f, l, h1, h2, h3, h4, ⟨ef, h5, h6⟩, ⟨el, h7, h8⟩, h9⟩ := hk.span
    refine ⟨f, h.length, h1, rfl, by omega, by simp, ⟨ef, get_snoc_left h5, h6⟩, ⟨e, by simp, he⟩, ?_⟩
    intro n x hx hxt
    rcases get_snoc hx with hx | ⟨rfl, rfl⟩
    · have := h9 n x hx hxt; omega
    · omega
theorem KeepOK.new {h : List Ev} {e : Ev} (hn : ∀ x, x ∈ h → x.tx ≠ e.tx) : KeepOK (h ++ [e]) ((Keep.new h.length e).take h.length e) where
  stat := by
    have e1 : ((Keep.new h.length e).take h.length e).t.name = e.tx := rfl
    have e2 : mine h e.tx = [] := by simp [mine, List.filter_eq_nil_iff]; exact fun x hx => hn x hx
    rw [e1, mine_append, mine_eq, e2]
    rfl
  span := by
    refine ⟨h.length, h.length, rfl, rfl, Nat.le_refl _, by simp, ⟨e, by simp, rfl⟩, ⟨e, by simp, rfl⟩, ?_⟩
    intro n x hx hxt
    rcases get_snoc hx with hx | ⟨rfl, rfl⟩
    · exact absurd hxt (hn x (List.mem_of_getElem? hx))
    · omega
structure TabInv (h : List Ev) (ks : List Keep) : Prop where
  ok : ∀ k, k ∈ ks → KeepOK h k
  rise : ∀ (i j : Nat) (a b : Keep), i < j → ks[i]? = some a → ks[j]? = some b → a.t.first < b.t.first ∧ a.t.name ≠ b.t.name
  all : ∀ e, e ∈ h → ∃ k, k ∈ ks ∧ k.t.name = e.tx
theorem keepStep_cases (ks : List Keep) (i : Int) (e : Ev) :
    (∃ j k, ks[j]? = some k ∧ k.t.name = e.tx ∧ (∀ j' k', j' < j → ks[j']? = some k' → k'.t.name ≠ e.tx) ∧ keepStep ks i e = ks.modify j (fun k => k.take i e)) ∨
    ((∀ k, k ∈ ks → k.t.name ≠ e.tx) ∧ keepStep ks i e = ks ++ [(Keep.new i e).take i e]) := by
  unfold keepStep
  cases hf : ks.findIdx? (fun k => k.t.name == e.tx) with
  | some j =>
    obtain ⟨hj, hp, hq⟩ := List.findIdx?_eq_some_iff_getElem.1 hf
    refine .inl ⟨j, ks[j], List.getElem?_eq_getElem hj, by simpa using hp, ?_, rfl⟩
    intro j' k' hj' hk'
    obtain ⟨hl, rfl⟩ := List.getElem?_eq_some_iff.1 hk'
    simpa using hq j' hj'
  | none =>
    refine .inr ⟨?_, rfl⟩
    intro k hk
    have := List.findIdx?_eq_none_iff.1 hf k hk
    simpa using this
theorem get_modify {ks : List Keep} {j n : Nat} {f : Keep → Keep} {x : Keep} (h : (ks.modify j f)[n]? = some x) : ∃ y, ks[n]? = some y ∧ x = if j = n then f y else y := by
  rw [List.getElem?_modify] at h
  cases hy : ks[n]? with
  | none => rw [hy] at h; simp at h
  | some y =>
    rw [hy] at h
    simp only [Option.map_eq_map, Option.map_some, Option.some.injEq] at h
    exact ⟨y, rfl, h.symm⟩
theorem TabInv.name_ne {h : List Ev} {ks : List Keep} (H : TabInv h ks) {i j : Nat} {a b : Keep} (ha : ks[i]? = some a) (hb : ks[j]? = some b) (hij : i ≠ j) : a.t.name ≠ b.t.name := by
  rcases Nat.lt_or_gt_of_ne hij with h1 | h1
  · exact (H.rise _ _ _ _ h1 ha hb).2
  · exact fun e => (H.rise _ _ _ _ h1 hb ha).2 e.symm
theorem TabInv.step {h : List Ev} {ks : List Keep} (H : TabInv h ks) (e : Ev) : TabInv (h ++ [e]) (keepStep ks h.length e) := by
  rcases keepStep_cases ks h.length e with ⟨j, k, hj, hk, _, hs⟩ | ⟨hn, hs⟩
  · rw [hs]
    constructor
    · intro x hx
      obtain ⟨n, hn⟩ := List.mem_iff_getElem?.1 hx
      obtain ⟨y, hy, rfl⟩ := get_modify hn
      have hy2 := H.ok y (List.mem_of_getElem? hy)
      split
      · rename_i e1
        subst e1
        rw [hj] at hy
        cases hy
        exact hy2.take hk.symm
      · rename_i e1
        refine hy2.skip ?_
        rw [← hk]
        exact H.name_ne hj hy e1
    · intro a b x y hab hx hy
      obtain ⟨x', hx', rfl⟩ := get_modify hx
      obtain ⟨y', hy', rfl⟩ := get_modify hy
      have := H.rise _ _ _ _ hab hx' hy'
      split <;> split <;> exact this
    · intro x hx
      have hmod : ∀ y, y ∈ ks → ∃ z, z ∈ ks.modify j (fun k => k.take h.length e) ∧ z.t.name = y.t.name := fun y hy => by
        obtain ⟨n, hn⟩ := List.mem_iff_getElem?.1 hy
        refine ⟨if j = n then y.take h.length e else y, List.mem_of_getElem? (i := n) ?_, ?_⟩
        · rw [List.getElem?_modify, hn]; rfl
        · split <;> rfl
      rcases List.mem_append.1 hx with hx | hx
      · obtain ⟨y, hy, hn⟩ := H.all x hx
        obtain ⟨z, hz, hzn⟩ := hmod y hy
        exact ⟨z, hz, hzn.trans hn⟩
      · have : x = e := by simpa using hx
        subst this
        obtain ⟨z, hz, hzn⟩ := hmod k (List.mem_of_getElem? hj)
        exact ⟨z, hz, hzn.trans hk⟩
  · rw [hs]
    have hnew : ∀ x, x ∈ h → x.tx ≠ e.tx := fun x hx => by
      obtain ⟨k, hk, hkn⟩ := H.all x hx
      rw [← hkn]
      exact hn k hk
    constructor
    · intro x hx
      rcases List.mem_append.1 hx with hx | hx
      · exact (H.ok x hx).skip (fun e1 => hn x hx e1.symm)
      · have : x = (Keep.new h.length e).take h.length e := by simpa using hx
        subst this
        exact KeepOK.new hnew
    · intro a b x y hab hx hy
      rcases get_snoc hx with hx | ⟨rfl, rfl⟩
      · rcases get_snoc hy with hy | ⟨rfl, rfl⟩
        · exact H.rise _ _ _ _ hab hx hy
        · have hxm := List.mem_of_getElem? hx
          obtain ⟨f, l, h1, h2, h3, h4, _⟩ := (H.ok x hxm).span
          exact ⟨by rw [h1]; show (f : Int) < h.length; omega, hn x hxm⟩
      · have := (List.getElem?_eq_some_iff.1 hy).1
        simp at this
        omega
    · intro x hx
      rcases List.mem_append.1 hx with hx | hx
      · obtain ⟨k, hk, hkn⟩ := H.all x hx
        exact ⟨k, List.mem_append_left _ hk, hkn⟩
      · have : x = e := by simpa using hx
        subst this
        exact ⟨_, List.mem_append_right _ (List.mem_singleton.2 rfl), rfl⟩
theorem snocRec {α : Type} {P : List α → Prop} (h0 : P []) (hs : ∀ l x, P l → P (l ++ [x])) (l : List α) : P l := by
  have : ∀ n (l : List α), l.length = n → P l := by
    intro n
    induction n with
    | zero => intro l hl; rw [List.length_eq_zero_iff.1 hl]; exact h0
    | succ n ih =>
      intro l hl
      have hne : l ≠ [] := fun e => by rw [e] at hl; simp at hl
      rw [← List.dropLast_concat_getLast hne]
      exact hs _ _ (ih _ (by simp [hl]))
  exact this _ l rfl
theorem tabInv (h : List Ev) : TabInv h (keepF [] 0 h) := by
  induction h using snocRec with
  | h0 => exact ⟨fun k hk => by simp [keepF] at hk, fun i j a b _ ha => by simp [keepF] at ha, fun e he => by cases he⟩
  | hs l x ih => rw [keepF_snoc]; exact ih.step x
/-- What is kept behind more events. -/
theorem keepF_more (g : List Ev) : ∀ (ks : List Keep) (i : Int) (j : Nat) (k : Keep), ks[j]? = some k →
    ∃ k', (keepF ks i g)[j]? = some k' ∧ k'.t.name = k.t.name ∧ k'.t.first = k.t.first ∧ k.t.ops <+: k'.t.ops ∧ ((∀ e, e ∈ g → e.tx ≠ k.t.name) → k' = k) := by
  induction g with
  | nil => intro ks i j k hk; exact ⟨k, hk, rfl, rfl, List.prefix_refl _, fun _ => rfl⟩
  | cons e g ih =>
    intro ks i j k hk
    simp only [keepF]
    have h1 : ∃ k1, (keepStep ks i e)[j]? = some k1 ∧ k1.t.name = k.t.name ∧ k1.t.first = k.t.first ∧ k.t.ops <+: k1.t.ops ∧ (e.tx ≠ k.t.name → k1 = k) := by
      rcases keepStep_cases ks i e with ⟨n, y, hn, hy, _, hs⟩ | ⟨hn, hs⟩
      · rw [hs]
        refine ⟨if n = j then k.take i e else k, ?_, ?_⟩
        · rw [List.getElem?_modify, hk]; rfl
        · split
          · rename_i e1
            subst e1
            rw [hk] at hn
            cases hn
            refine ⟨rfl, rfl, ?_, fun h => absurd hy.symm h⟩
            simp only [Keep.take]
            split
            · exact List.prefix_append _ _
            · split
              · exact List.prefix_append _ _
              · exact List.prefix_refl _
          · exact ⟨rfl, rfl, List.prefix_refl _, fun _ => rfl⟩
      · rw [hs]
        exact ⟨k, get_snoc_left hk, rfl, rfl, List.prefix_refl _, fun _ => rfl⟩
    obtain ⟨k1, a1, a2, a3, a4, a5⟩ := h1
    obtain ⟨k2, b1, b2, b3, b4, b5⟩ := ih (keepStep ks i e) (i + 1) j k1 a1
    refine ⟨k2, b1, b2.trans a2, b3.trans a3, a4.trans b4, fun h => ?_⟩
    have hk1 : k1 = k := a5 (h e List.mem_cons_self)
    subst hk1
    exact b5 (fun x hx => h x (List.mem_cons_of_mem _ hx))
theorem keepF_len_le (g : List Ev) : ∀ (ks : List Keep) (i : Int), ks.length ≤ (keepF ks i g).length := by
  induction g with
  | nil => intro ks i; exact Nat.le_refl _
  | cons e g ih =>
    intro ks i
    refine Nat.le_trans ?_ (ih _ _)
    rcases keepStep_cases ks i e with ⟨n, y, hn, hy, _, hs⟩ | ⟨hn, hs⟩ <;> rw [hs] <;> simp
/-! ### entries -/
theorem at_get {l : List Txn} {i : Nat} (h : i < l.length) : at_ l i = l[i] := by simp [at_, List.getD_eq_getElem?_getD, h]
theorem table_get {h : List Ev} {i : Nat} (hi : i < (table h).length) : ∃ k, (keepF [] 0 h)[i]? = some k ∧ at_ (table h) i = k.t ∧ KeepOK h k := by
  have h1 : i < (keepF [] 0 h).length := by simpa [table] using hi
  refine ⟨(keepF [] 0 h)[i], List.getElem?_eq_getElem h1, ?_, (tabInv h).ok _ (List.getElem_mem h1)⟩
  rw [at_get hi]
  simp [table]
theorem first_le_last {h : List Ev} {i : Nat} (hi : i < (table h).length) : (at_ (table h) i).first ≤ (at_ (table h) i).last := by
  obtain ⟨k, _, e, hk⟩ := table_get hi
  obtain ⟨f, l, h1, h2, h3, _⟩ := hk.span
  rw [e, h1, h2]
  omega
theorem first_rise {h : List Ev} {i j : Nat} (hij : i < j) (hj : j < (table h).length) : (at_ (table h) i).first < (at_ (table h) j).first := by
  obtain ⟨a, ha, ea, _⟩ := table_get (h := h) (i := i) (by omega)
  obtain ⟨b, hb, eb, _⟩ := table_get hj
  rw [ea, eb]
  exact ((tabInv h).rise _ _ _ _ hij ha hb).1
theorem not_before_back {h : List Ev} {i j : Nat} (hij : j ≤ i) (hi : i < (table h).length) : before (table h) i j = false := by
  have h1 := first_le_last hi
  have h2 : (at_ (table h) j).first ≤ (at_ (table h) i).first := by
    rcases Nat.lt_or_eq_of_le hij with h2 | rfl
    · exact Int.le_of_lt (first_rise h2 hi)
    · exact Int.le_refl _
  simp [before]
  omega
end Go.Proofs.YtnogalajfccioaaDoor
