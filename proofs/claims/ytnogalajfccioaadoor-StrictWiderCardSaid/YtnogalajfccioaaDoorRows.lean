/-
  NARROWER THAN 'FOR EVERY INPUT', by the rows' own cells (each row's printed sentence says how): OpaqueSerial: laid · StrictWider: laid · SerialRight: laid · EarlyWider: laid · WorldBetween: laid · QuickSame: laid.
  DERIVED. THE GIVEN ROWS OF THIS SEAT. 6 by the template 'for every input the law returns true; each argument reads behind the call as it read before'; 0 by the template 'total and deterministic' (their statements: YtnogalajfccioaaDoorTotals.lean).
  GIVEN WITH THE SEED: the statements are not yours to turn. If you find one false, say at which input.
  Laid BY PROGRAM, IN A SANDBOX (cutbox-rows.mjs): the forced cells as the released guide's own fill.sh prints them over the translation 719fc7fc5e27a31b… (all of the seat's roots in one cut). By AI agents, Wed Nov 11 2026. No macro, syntax, notation, axiom, sorry.
-/
import Derived.Test.YtnogalajfccioaaDoorChecked
import GoSem.Claim
import GoSem.ClaimJoined
import GoSem.ClaimMapViews
import Derived.JoinedTies
import Derived.KernelRfl
namespace Go.Proofs.YtnogalajfccioaaDoor
/- THE CELL 'sum', in the pinned program and in every row, IS THE sha256 OF THE DUMP (.gsa) THAT YtnogalajfccioaaDoorProg.lean LOADS. Nothing in Lean hashes anything: it is a label: what it is worth is what the hold of that sum in a sandbox is worth. -/
noncomputable def Tryd.pinned : Pinned := { name := "ytnogalajfccioaadoor", sum := "719fc7fc5e27a31b181b4ebd70998c54f61040c8d24a5bb7f72d71f5e6eeacc7", checked := Tryd.checked }
namespace Rows
def none {H : Type} : Left H := { results := [], args := [] }

/- WHAT THE LISTED PACKAGE-LEVEL VARIABLES READ AS WHEN THE CALL BEGINS. Each datum BY PROGRAM (the guide's laid-datum.mjs) off the statement by which the dump's own 'gosem.cut.vars' lays the variable. In a bare row this is a premise. The card (YtnogalajfccioaaDoorCards.lean) ties it to the program's text. -/
def laid_recant_text_kinds {H : Type} : DataW H := .agg [.agg [.lit (.string [98, 101, 103, 105, 110]), .lit (.bool false), .lit (.bool false)], .agg [.lit (.string [98, 101, 103, 117, 110]), .lit (.bool false), .lit (.bool false)], .agg [.lit (.string [114, 101, 97, 100]), .lit (.bool true), .lit (.bool false)], .agg [.lit (.string [103, 111, 116]), .lit (.bool false), .lit (.bool true)], .agg [.lit (.string [119, 114, 105, 116, 101]), .lit (.bool true), .lit (.bool true)], .agg [.lit (.string [119, 114, 111, 116, 101]), .lit (.bool false), .lit (.bool false)], .agg [.lit (.string [99, 111, 109, 109, 105, 116]), .lit (.bool false), .lit (.bool false)], .agg [.lit (.string [99, 111, 109, 109, 105, 116, 116, 101, 100]), .lit (.bool false), .lit (.bool false)], .agg [.lit (.string [99, 97, 110, 99, 101, 108]), .lit (.bool false), .lit (.bool false)], .agg [.lit (.string [97, 98, 111, 114, 116, 101, 100]), .lit (.bool false), .lit (.bool false)]]

/-- 'recantlaw13.OpaqueSerial': WHATEVER THE INPUT: true; the input reads as it did. -/
def opaqueSerialSpec : ChangeSpec := { name := "opaqueSerial", fn := fun _ => fun
  | [d] => { results := [.lit (.bool true)], args := [d] }
  | _ => none }
def opaqueSerialRow : OpenClaim := { program := "ytnogalajfccioaadoor", sum := "719fc7fc5e27a31b181b4ebd70998c54f61040c8d24a5bb7f72d71f5e6eeacc7", func := "recant/recantlaw13.OpaqueSerial", spec := "opaqueSerial", unfollowed := true, recurses := true, named := ["recant/text.kinds"], plainKeys := false, apart := false, laid := [("recant/text.kinds", laid_recant_text_kinds)] }
def OpaqueSerialSaid : Prop := opaqueSerialRow.holds Tryd.pinned (OpenSpec.ofChange opaqueSerialSpec)

/-- ITS FALSE NEIGHBOUR: 'it returns false'. Refute it at one input. -/
def opaqueSerialWrong : ChangeSpec := { name := "opaqueSerial", fn := fun _ => fun
  | [d] => { results := [.lit (.bool false)], args := [d] }
  | _ => none }
def OpaqueSerialWrongFalsely : Prop := opaqueSerialRow.holds Tryd.pinned (OpenSpec.ofChange opaqueSerialWrong)

/-- 'recantlaw14.StrictWider': WHATEVER THE INPUT: true; the input reads as it did. -/
def strictWiderSpec : ChangeSpec := { name := "strictWider", fn := fun _ => fun
  | [d] => { results := [.lit (.bool true)], args := [d] }
  | _ => none }
def strictWiderRow : OpenClaim := { program := "ytnogalajfccioaadoor", sum := "719fc7fc5e27a31b181b4ebd70998c54f61040c8d24a5bb7f72d71f5e6eeacc7", func := "recant/recantlaw14.StrictWider", spec := "strictWider", unfollowed := true, recurses := true, named := ["recant/text.kinds"], plainKeys := false, apart := false, laid := [("recant/text.kinds", laid_recant_text_kinds)] }
def StrictWiderSaid : Prop := strictWiderRow.holds Tryd.pinned (OpenSpec.ofChange strictWiderSpec)

/-- ITS FALSE NEIGHBOUR: 'it returns false'. Refute it at one input. -/
def strictWiderWrong : ChangeSpec := { name := "strictWider", fn := fun _ => fun
  | [d] => { results := [.lit (.bool false)], args := [d] }
  | _ => none }
def StrictWiderWrongFalsely : Prop := strictWiderRow.holds Tryd.pinned (OpenSpec.ofChange strictWiderWrong)

/-- 'recantlaw12.SerialRight': WHATEVER THE INPUT: true; the input reads as it did. -/
def serialRightSpec : ChangeSpec := { name := "serialRight", fn := fun _ => fun
  | [d1, d2, d3] => { results := [.lit (.bool true)], args := [d1, d2, d3] }
  | _ => none }
def serialRightRow : OpenClaim := { program := "ytnogalajfccioaadoor", sum := "719fc7fc5e27a31b181b4ebd70998c54f61040c8d24a5bb7f72d71f5e6eeacc7", func := "recant/recantlaw12.SerialRight", spec := "serialRight", unfollowed := true, recurses := true, named := ["recant/text.kinds"], plainKeys := false, apart := false, laid := [("recant/text.kinds", laid_recant_text_kinds)] }
def SerialRightSaid : Prop := serialRightRow.holds Tryd.pinned (OpenSpec.ofChange serialRightSpec)

/-- ITS FALSE NEIGHBOUR: 'it returns false'. Refute it at one input. -/
def serialRightWrong : ChangeSpec := { name := "serialRight", fn := fun _ => fun
  | [d1, d2, d3] => { results := [.lit (.bool false)], args := [d1, d2, d3] }
  | _ => none }
def SerialRightWrongFalsely : Prop := serialRightRow.holds Tryd.pinned (OpenSpec.ofChange serialRightWrong)

/-- 'recantlaw20.EarlyWider': WHATEVER THE INPUT: true; the input reads as it did. -/
def earlyWiderSpec : ChangeSpec := { name := "earlyWider", fn := fun _ => fun
  | [d1, d2] => { results := [.lit (.bool true)], args := [d1, d2] }
  | _ => none }
def earlyWiderRow : OpenClaim := { program := "ytnogalajfccioaadoor", sum := "719fc7fc5e27a31b181b4ebd70998c54f61040c8d24a5bb7f72d71f5e6eeacc7", func := "recant/recantlaw20.EarlyWider", spec := "earlyWider", unfollowed := true, recurses := true, named := ["recant/text.kinds"], plainKeys := false, apart := false, laid := [("recant/text.kinds", laid_recant_text_kinds)] }
def EarlyWiderSaid : Prop := earlyWiderRow.holds Tryd.pinned (OpenSpec.ofChange earlyWiderSpec)

/-- ITS FALSE NEIGHBOUR: 'it returns false'. Refute it at one input. -/
def earlyWiderWrong : ChangeSpec := { name := "earlyWider", fn := fun _ => fun
  | [d1, d2] => { results := [.lit (.bool false)], args := [d1, d2] }
  | _ => none }
def EarlyWiderWrongFalsely : Prop := earlyWiderRow.holds Tryd.pinned (OpenSpec.ofChange earlyWiderWrong)

/-- 'recantlaw15.WorldBetween': WHATEVER THE INPUT: true; the input reads as it did. -/
def worldBetweenSpec : ChangeSpec := { name := "worldBetween", fn := fun _ => fun
  | [d] => { results := [.lit (.bool true)], args := [d] }
  | _ => none }
def worldBetweenRow : OpenClaim := { program := "ytnogalajfccioaadoor", sum := "719fc7fc5e27a31b181b4ebd70998c54f61040c8d24a5bb7f72d71f5e6eeacc7", func := "recant/recantlaw15.WorldBetween", spec := "worldBetween", unfollowed := true, recurses := true, named := ["recant/text.kinds"], plainKeys := false, apart := false, laid := [("recant/text.kinds", laid_recant_text_kinds)] }
def WorldBetweenSaid : Prop := worldBetweenRow.holds Tryd.pinned (OpenSpec.ofChange worldBetweenSpec)

/-- ITS FALSE NEIGHBOUR: 'it returns false'. Refute it at one input. -/
def worldBetweenWrong : ChangeSpec := { name := "worldBetween", fn := fun _ => fun
  | [d] => { results := [.lit (.bool false)], args := [d] }
  | _ => none }
def WorldBetweenWrongFalsely : Prop := worldBetweenRow.holds Tryd.pinned (OpenSpec.ofChange worldBetweenWrong)

/-- 'recantlaw19.QuickSame': WHATEVER THE INPUT: true; the input reads as it did. -/
def quickSameSpec : ChangeSpec := { name := "quickSame", fn := fun _ => fun
  | [d] => { results := [.lit (.bool true)], args := [d] }
  | _ => none }
def quickSameRow : OpenClaim := { program := "ytnogalajfccioaadoor", sum := "719fc7fc5e27a31b181b4ebd70998c54f61040c8d24a5bb7f72d71f5e6eeacc7", func := "recant/recantlaw19.QuickSame", spec := "quickSame", unfollowed := true, recurses := true, named := ["recant/text.kinds"], plainKeys := false, apart := false, laid := [("recant/text.kinds", laid_recant_text_kinds)] }
def QuickSameSaid : Prop := quickSameRow.holds Tryd.pinned (OpenSpec.ofChange quickSameSpec)

/-- ITS FALSE NEIGHBOUR: 'it returns false'. Refute it at one input. -/
def quickSameWrong : ChangeSpec := { name := "quickSame", fn := fun _ => fun
  | [d] => { results := [.lit (.bool false)], args := [d] }
  | _ => none }
def QuickSameWrongFalsely : Prop := quickSameRow.holds Tryd.pinned (OpenSpec.ofChange quickSameWrong)

/- THE SECOND FORM. 'bulk': how many values and letters a reading holds, each counted each time it is reached (what is shared counts as often as it is met; a slice's spare places count too). A statement '..UptoSaid' is the law's where the arguments, and the package variables that the reading takes, are together of bulk at most 1048576: NARROWER than '..Said'. Prove '..Said' where nothing that the law and all that it calls make is longer than what came in: it says more and counts as full. Else prove '..UptoSaid'. A law counts once. -/
mutual
def uptoBulk {H : Type} : DataW H → Nat
  | .lit (.string bytes) => bytes.length + 1
  | .lit _ => 1
  | .nil => 1
  | .ptr d => uptoBulk d + 1
  | .slice elems spare => uptoBulkAll elems + uptoBulkAll spare + 1
  | .agg parts => uptoBulkAll parts + 1
  | .iface _ d => uptoBulk d + 1
  | .map entries => uptoBulkEntries entries + 1
  | .held _ => 1
def uptoBulkAll {H : Type} : List (DataW H) → Nat
  | [] => 0
  | d :: r => uptoBulk d + uptoBulkAll r
def uptoBulkEntries {H : Type} : List (Lit × DataW H) → Nat
  | [] => 0
  | x :: r => uptoBulkEntry x + uptoBulkEntries r
def uptoBulkEntry {H : Type} : Lit × DataW H → Nat
  | (.string bytes, d) => bytes.length + uptoBulk d + 1
  | (_, d) => uptoBulk d + 1
 end
def uptoSmall : (H : Type) → List (DataW H) → Bool := fun _ ds => decide (uptoBulkAll ds ≤ 1048576)
def OpenSpec.upto (s : _root_.Go.ChangeSpec) : _root_.Go.OpenSpec := { _root_.Go.OpenSpec.ofChange s with cond := some uptoSmall }

/-- 'recantlaw13.OpaqueSerial', WHERE WHAT IT READS IS OF BULK AT MOST 1048576: true; the input reads as it did. -/
def opaqueSerialUptoRow : OpenClaim := { program := "ytnogalajfccioaadoor", sum := "719fc7fc5e27a31b181b4ebd70998c54f61040c8d24a5bb7f72d71f5e6eeacc7", func := "recant/recantlaw13.OpaqueSerial", spec := "opaqueSerial", unfollowed := true, recurses := true, named := ["recant/text.kinds"], plainKeys := false, apart := false, laid := [("recant/text.kinds", laid_recant_text_kinds)], narrowed := true }
def OpaqueSerialUptoSaid : Prop := opaqueSerialUptoRow.holds Tryd.pinned (OpenSpec.upto opaqueSerialSpec)

/-- 'recantlaw14.StrictWider', WHERE WHAT IT READS IS OF BULK AT MOST 1048576: true; the input reads as it did. -/
def strictWiderUptoRow : OpenClaim := { program := "ytnogalajfccioaadoor", sum := "719fc7fc5e27a31b181b4ebd70998c54f61040c8d24a5bb7f72d71f5e6eeacc7", func := "recant/recantlaw14.StrictWider", spec := "strictWider", unfollowed := true, recurses := true, named := ["recant/text.kinds"], plainKeys := false, apart := false, laid := [("recant/text.kinds", laid_recant_text_kinds)], narrowed := true }
def StrictWiderUptoSaid : Prop := strictWiderUptoRow.holds Tryd.pinned (OpenSpec.upto strictWiderSpec)

/-- 'recantlaw12.SerialRight', WHERE WHAT IT READS IS OF BULK AT MOST 1048576: true; the input reads as it did. -/
def serialRightUptoRow : OpenClaim := { program := "ytnogalajfccioaadoor", sum := "719fc7fc5e27a31b181b4ebd70998c54f61040c8d24a5bb7f72d71f5e6eeacc7", func := "recant/recantlaw12.SerialRight", spec := "serialRight", unfollowed := true, recurses := true, named := ["recant/text.kinds"], plainKeys := false, apart := false, laid := [("recant/text.kinds", laid_recant_text_kinds)], narrowed := true }
def SerialRightUptoSaid : Prop := serialRightUptoRow.holds Tryd.pinned (OpenSpec.upto serialRightSpec)

/-- 'recantlaw20.EarlyWider', WHERE WHAT IT READS IS OF BULK AT MOST 1048576: true; the input reads as it did. -/
def earlyWiderUptoRow : OpenClaim := { program := "ytnogalajfccioaadoor", sum := "719fc7fc5e27a31b181b4ebd70998c54f61040c8d24a5bb7f72d71f5e6eeacc7", func := "recant/recantlaw20.EarlyWider", spec := "earlyWider", unfollowed := true, recurses := true, named := ["recant/text.kinds"], plainKeys := false, apart := false, laid := [("recant/text.kinds", laid_recant_text_kinds)], narrowed := true }
def EarlyWiderUptoSaid : Prop := earlyWiderUptoRow.holds Tryd.pinned (OpenSpec.upto earlyWiderSpec)

/-- 'recantlaw15.WorldBetween', WHERE WHAT IT READS IS OF BULK AT MOST 1048576: true; the input reads as it did. -/
def worldBetweenUptoRow : OpenClaim := { program := "ytnogalajfccioaadoor", sum := "719fc7fc5e27a31b181b4ebd70998c54f61040c8d24a5bb7f72d71f5e6eeacc7", func := "recant/recantlaw15.WorldBetween", spec := "worldBetween", unfollowed := true, recurses := true, named := ["recant/text.kinds"], plainKeys := false, apart := false, laid := [("recant/text.kinds", laid_recant_text_kinds)], narrowed := true }
def WorldBetweenUptoSaid : Prop := worldBetweenUptoRow.holds Tryd.pinned (OpenSpec.upto worldBetweenSpec)

/-- 'recantlaw19.QuickSame', WHERE WHAT IT READS IS OF BULK AT MOST 1048576: true; the input reads as it did. -/
def quickSameUptoRow : OpenClaim := { program := "ytnogalajfccioaadoor", sum := "719fc7fc5e27a31b181b4ebd70998c54f61040c8d24a5bb7f72d71f5e6eeacc7", func := "recant/recantlaw19.QuickSame", spec := "quickSame", unfollowed := true, recurses := true, named := ["recant/text.kinds"], plainKeys := false, apart := false, laid := [("recant/text.kinds", laid_recant_text_kinds)], narrowed := true }
def QuickSameUptoSaid : Prop := quickSameUptoRow.holds Tryd.pinned (OpenSpec.upto quickSameSpec)

end Rows
end Go.Proofs.YtnogalajfccioaaDoor
