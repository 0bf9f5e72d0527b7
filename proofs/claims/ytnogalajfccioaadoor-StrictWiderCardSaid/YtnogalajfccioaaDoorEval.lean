/- The searches again, so that the kernel can reckon them. -/
import Derived.Test.YtnogalajfccioaaDoorP4
namespace Go.Proofs.YtnogalajfccioaaDoor
def loopE (rec : List Nat → Nat → Nat → Out × Nat) (l : List Txn) (who c : Nat) (row : List Nat) (inn : Nat) : Nat → Nat → Nat → Out × Nat
  | 0, _, left => (.no, left)
  | d + 1, k, left =>
    if (who.testBit k && !inn.testBit k) && freeB l who inn k then
      match left with
      | 0 => (.unknown, 0)
      | left + 1 =>
        if legal l (row ++ [k]) c = row.length + 1 then
          match rec (row ++ [k]) (inn ||| 2 ^ k) left with
          | (.no, left) => loopE rec l who c row inn d (k + 1) left
          | r => r
        else loopE rec l who c row inn d (k + 1) left
    else loopE rec l who c row inn d (k + 1) left
def fromE (l : List Txn) (who c : Nat) : Nat → List Nat → Nat → Nat → Out × Nat
  | 0, _, _, left => (.no, left)
  | n + 1, row, inn, left => if inn = who then (.yes row, left) else loopE (fromE l who c n) l who c row inn l.length 0 left
theorem fromL_eval {l : List Txn} {who c n : Nat} (ih : ∀ row inn left, fromF l who c n row inn left = fromE l who c n row inn left) (row : List Nat) (inn : Nat) :
    ∀ d k left, fromL l who c n row inn d k left = loopE (fromE l who c n) l who c row inn d k left := by
  intro d
  induction d with
  | zero => intro k left; rw [fromL_zero]; rfl
  | succ d ihd =>
    intro k left
    rw [fromL_succ]
    unfold loopE
    cases left with
    | zero => simp only [ihd]
    | succ left =>
      simp only [ihd, ih]
      rfl
theorem from_eval (l : List Txn) (who c : Nat) : ∀ n row inn left, fromF l who c n row inn left = fromE l who c n row inn left := by
  intro n
  induction n with
  | zero => intro row inn left; rw [fromF]; rfl
  | succ n ih =>
    intro row inn left
    rw [fromF, fromE, fromL_eval ih]
def rowE (l : List Txn) (who c left : Nat) : Out × Nat := fromE l who c (l.length + 1) [] 0 left
theorem row_eval (l : List Txn) (who c left : Nat) : rowF l who c left = rowE l who c left := from_eval ..
def searchCE (l : List Txn) : List Nat → Nat → Out × Nat × Nat
  | [], left => (.no, 0, left)
  | c :: cs, left => match rowE l (allOf l) c left with
    | (.no, left') => searchCE l cs left'
    | (o, left') => (o, c, left')
theorem searchC_eval (l : List Txn) : ∀ cs left, searchC l cs left = searchCE l cs left
  | [], _ => rfl
  | c :: cs, left => by
    unfold searchC searchCE
    rw [row_eval]
    cases rowE l (allOf l) c left with
    | mk o x =>
      cases o with
      | no => exact searchC_eval l cs x
      | unknown => rfl
      | yes r => rfl
def searchE (l : List Txn) (budget : Nat) : Found := foundOf budget (searchCE l (choices l) budget)
theorem search_eval (l : List Txn) (budget : Nat) : search l budget = searchE l budget := by unfold search searchE; rw [searchC_eval]
def checkLE (h : List Ev) (budget : Nat) : Nat → Nat → Checked → Checked
  | 0, _, out => out
  | d + 1, k, out =>
    let f := searchE (table (h.take k)) budget
    let out := ({ out with verdict := f.verdict, place := k, steps := out.steps + f.steps } : Checked)
    if f.verdict = 0 then checkLE h budget d (k + 1) { out with commits := f.commits, row := f.row } else out
theorem checkL_eval (h : List Ev) (b : Nat) : ∀ d k out, checkL h b d k out = checkLE h b d k out
  | 0, _, _ => rfl
  | d + 1, k, out => by
    unfold checkL checkLE
    simp only [search_eval, checkL_eval h b d]
def checkE (h : List Ev) (budget : Nat) : Checked := checkLE h budget (h.length + 1) 0 ⟨0, 0, 0, [], 0⟩
theorem check_eval (h : List Ev) (b : Nat) : checkF h b = checkE h b := checkL_eval ..
end Go.Proofs.YtnogalajfccioaaDoor
