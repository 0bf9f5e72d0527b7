/- Plain definitions: what each layer of the program computes, on lists and numbers. No program in sight. -/
namespace Go.Proofs.YtnogalajfccioaaDoor
structure Ev where
  kind : Int
  tx : Int
  var : Int
  val : Int
deriving DecidableEq, Repr
structure Op where
  write : Bool
  var : Int
  val : Int
deriving DecidableEq, Repr
structure Txn where
  name : Int
  first : Int
  last : Int
  state : Int
  ops : List Op
deriving DecidableEq, Repr
structure Found where
  verdict : Int
  commits : Nat
  row : List Int
  steps : Int
deriving DecidableEq, Repr
structure Checked where
  verdict : Int
  place : Int
  commits : Nat
  row : List Int
  steps : Int
deriving DecidableEq, Repr

/-! ### masks -/
def mask (n : Nat) (p : Nat → Bool) : Nat :=
  match n with
  | 0 => 0
  | n + 1 => mask n p ||| (if p n then 2 ^ n else 0)
theorem mask_lt (n : Nat) (p : Nat → Bool) : mask n p < 2 ^ n := by
  induction n with
  | zero => simp [mask]
  | succ n ih =>
    unfold mask
    refine Nat.or_lt_two_pow ?_ ?_
    · exact Nat.lt_trans ih (Nat.pow_lt_pow_right (by omega) (by omega))
    · split
      · exact Nat.pow_lt_pow_right (by omega) (by omega)
      · exact Nat.two_pow_pos _
theorem mask_bit (n : Nat) (p : Nat → Bool) (k : Nat) : (mask n p).testBit k = (decide (k < n) && p k) := by
  induction n with
  | zero => simp [mask]
  | succ n ih =>
    unfold mask
    rw [Nat.testBit_or, ih]
    by_cases h : k = n
    · subst h
      cases hp : p k <;> simp
    · have h2 : decide (k < n) = decide (k < n + 1) := by
        rw [decide_eq_decide]; omega
      rw [h2]
      cases hp : p n
      · simp
      · simp [Ne.symm h]
theorem mask_congr {n : Nat} {p q : Nat → Bool} (h : ∀ k, k < n → p k = q k) : mask n p = mask n q := by
  apply Nat.eq_of_testBit_eq
  intro k
  rw [mask_bit, mask_bit]
  by_cases hk : k < n
  · rw [h k hk]
  · simp [hk]
theorem mask_self {n m : Nat} (h : m < 2 ^ n) : mask n m.testBit = m := by
  apply Nat.eq_of_testBit_eq
  intro k
  rw [mask_bit]
  by_cases hk : k < n
  · simp [hk]
  · simp [hk, Nat.testBit_lt_two_pow (Nat.lt_of_lt_of_le h (Nat.pow_le_pow_right (by omega) (Nat.le_of_not_lt hk)))]
theorem bit_ext {a b : Nat} (n : Nat) (ha : a < 2 ^ n) (hb : b < 2 ^ n) (h : ∀ k, k < n → a.testBit k = b.testBit k) : a = b := by
  rw [← mask_self ha, ← mask_self hb]
  exact mask_congr h

/-! ### layer 2: text -/
def hasVar (k : Int) : Bool := k == 2 || k == 4
def hasVal (k : Int) : Bool := k == 3 || k == 4
def inB (n a b : Int) : Bool := decide (a ≤ n) && decide (n ≤ b)
def rightB (e : Ev) : Bool := inB e.kind 0 9 && inB e.tx 0 9999 && (inB e.var 0 7 && hasVar e.kind || e.var == 0) && (inB e.val (-2147483648) 2147483647 && hasVal e.kind || e.val == 0)
def addName (l : List Int) (t : Int) : List Int := if l.contains t then l else l ++ [t]
def namesF (l : List Int) : List Ev → List Int
  | [] => l
  | e :: h => namesF (addName l e.tx) h
def names (h : List Ev) : List Int := namesF [] h
def RightB (h : List Ev) : Bool := decide (h.length ≤ 60) && h.all rightB && decide ((names h).length ≤ 6)

/-! ### layer 5: proper -/
def mv (s k : Int) : Option Int :=
  if s = 0 then (if k = 0 then some 1 else none)
  else if s = 1 then (if k = 1 then some 2 else if k = 9 then some 7 else none)
  else if s = 2 then (if k = 2 then some 3 else if k = 4 then some 4 else if k = 6 then some 5 else if k = 8 then some 6 else none)
  else if s = 3 then (if k = 3 then some 2 else if k = 9 then some 7 else none)
  else if s = 4 then (if k = 5 then some 2 else if k = 9 then some 7 else none)
  else if s = 5 then (if k = 7 then some 7 else if k = 9 then some 7 else none)
  else if s = 6 then (if k = 9 then some 7 else none)
  else none
def upd (f : Int → Int) (t s : Int) : Int → Int := fun x => if x = t then s else f x
/-- How many events may be there, one behind the other. -/
def runF (now : Int → Int) : List Ev → Nat
  | [] => 0
  | e :: h => match mv (now e.tx) e.kind with
    | none => 0
    | some s => runF (upd now e.tx s) h + 1
def first (h : List Ev) : Nat := runF (fun _ => 0) h
/-- Why events are refused: 1, 6, or 0. -/
def why (h : List Ev) : Int := if RightB h then (if first h < h.length then 6 else 0) else 1
def checkAt (h : List Ev) : Nat := if RightB h then first h else 0
def WF (h : List Ev) : Prop := RightB h = true ∧ first h = h.length
instance (h : List Ev) : Decidable (WF h) := by unfold WF; exact inferInstance

/-! ### layer 6: table -/
structure Keep where
  t : Txn
  a : Ev
deriving DecidableEq, Repr
def zEv : Ev := ⟨0, 0, 0, 0⟩
def Keep.take (k : Keep) (i : Int) (e : Ev) : Keep :=
  let ops := if e.kind = 3 then k.t.ops ++ [⟨false, k.a.var, e.val⟩] else if e.kind = 5 then k.t.ops ++ [⟨true, k.a.var, k.a.val⟩] else k.t.ops
  let st := if e.kind = 6 then 1 else if e.kind = 7 then 2 else if e.kind = 9 then 3 else 0
  ⟨⟨k.t.name, k.t.first, i, st, ops⟩, if e.kind = 2 ∨ e.kind = 4 then e else k.a⟩
def Keep.new (i : Int) (e : Ev) : Keep := ⟨⟨e.tx, i, 0, 0, []⟩, zEv⟩
/-- The keepers behind one event more, of place i. -/
def keepStep (l : List Keep) (i : Int) (e : Ev) : List Keep :=
  match l.findIdx? (fun k => k.t.name == e.tx) with
  | some j => l.modify j (fun k => k.take i e)
  | none => l ++ [(Keep.new i e).take i e]
def keepF (l : List Keep) (i : Int) : List Ev → List Keep
  | [] => l
  | e :: h => keepF (keepStep l i e) (i + 1) h
def table (h : List Ev) : List Txn := (keepF [] 0 h).map (·.t)

/-! ### layer 7: order -/
def zTxn : Txn := ⟨0, 0, 0, 0, []⟩
def at_ (l : List Txn) (i : Nat) : Txn := l.getD i zTxn
def before (l : List Txn) (i k : Nat) : Bool := decide (2 ≤ (at_ l i).state) && decide ((at_ l i).last < (at_ l k).first)
def after (l : List Txn) : List Nat := (List.range l.length).map fun i => mask l.length (before l i)

/-! ### layer 9: choices -/
def bits (l : List Txn) (s : Int) : Nat := mask l.length fun i => (at_ l i).state == s
def isChoice (l : List Txn) (c : Nat) : Bool := (List.range l.length).all (fun i => if c.testBit i then (at_ l i).state == 2 || (at_ l i).state == 1 else (at_ l i).state != 2) && decide (c < 2 ^ l.length)
def choices (l : List Txn) : List Nat := (List.range 64).filter (isChoice l)

/-! ### layer 10: legal -/
abbrev Mem := List Int
def Mem0 : Mem := List.replicate 8 0
def Mem.get (m : Mem) (v : Int) : Int := m.getD v.toNat 0
def Mem.put (m : Mem) (o : Op) : Mem := if o.write then m.set o.var.toNat o.val else m
def own : List Op → Mem → Nat
  | [], _ => 0
  | o :: l, m => if o.write then own l (m.put o) + 1 else if m.get o.var = o.val then own l m + 1 else 0
def with_ (m : Mem) (l : List Op) : Mem := l.foldl Mem.put m
def legalF (l : List Txn) (c : Nat) (m : Mem) : List Nat → Nat
  | [] => 0
  | i :: row => if own (at_ l i).ops m < (at_ l i).ops.length then 0 else legalF l c (if c.testBit i then with_ m (at_ l i).ops else m) row + 1
def legal (l : List Txn) (row : List Nat) (c : Nat) : Nat := legalF l c Mem0 row

/-! ### layer 12: serial -/
/-- What a search has come to: found (a row), unknown, or none; and what is left of the budget. -/
inductive Out where
  | yes (row : List Nat)
  | unknown
  | no
deriving DecidableEq, Repr
def freeB (l : List Txn) (who inn : Nat) (k : Nat) : Bool := (List.range l.length).all fun i => !((who.testBit i && !inn.testBit i) && before l i k)
mutual
def fromF (l : List Txn) (who c : Nat) : Nat → List Nat → Nat → Nat → Out × Nat
  | 0, _, _, left => (.no, left)
  | n + 1, row, inn, left => if inn = who then (.yes row, left) else fromL l who c n row inn l.length 0 left
termination_by n => (n, 0)
def fromL (l : List Txn) (who c : Nat) (n : Nat) (row : List Nat) (inn : Nat) : Nat → Nat → Nat → Out × Nat
  | 0, _, left => (.no, left)
  | d + 1, k, left =>
    if (who.testBit k && !inn.testBit k) && freeB l who inn k then
      match left with
      | 0 => (.unknown, 0)
      | left + 1 =>
        if legal l (row ++ [k]) c = row.length + 1 then
          match fromF l who c n (row ++ [k]) (inn ||| 2 ^ k) left with
          | (.no, left) => fromL l who c n row inn d (k + 1) left
          | r => r
        else fromL l who c n row inn d (k + 1) left
    else fromL l who c n row inn d (k + 1) left
termination_by d => (n, d + 1)
end
end Go.Proofs.YtnogalajfccioaaDoor
