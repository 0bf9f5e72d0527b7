/- The law OpaqueSerial holds for every input, by the tied card: the call returns true and the argument reads as it did; the package's table of kinds is tied to the program's text. -/
import Derived.Test.YtnogalajfccioaaDoorRowOS
import Derived.Test.YtnogalajfccioaaDoorCards
import Derived.Test.YtnogalajfccioaaDoorTie
import Derived.SevenTiedAt
namespace Go.Proofs.YtnogalajfccioaaDoor
open Go
theorem opaqueSerial_card : Rows.OpaqueSerialCardSaid :=
  Claim7.holds_tied_plain_at .later [] [.widerDeep] true (true, "1034ffc1888e7bbb83ab6d288c06a977d25e440fdc5d0ed4ff61de4132149f3d") true
    opaqueSerial_holds (fun _ h => by cases h) (by kernel_rfl) (fun _ h => by cases h) opaqueSerial_row_tie rfl ⟨rfl, rfl⟩ (by kernel_rfl) rfl
    (fun f fn hf hfn => by
      obtain rfl : f = 3 := Option.some.inj ((show Tryd.prog.funcNamed "recant/recantlaw13.OpaqueSerial" = some 3 by kernel_rfl).symm.trans hf) |>.symm
      obtain rfl : fn = Tryd.f3 := (Option.some.inj (Tryd.func3.symm.trans hfn)).symm
      exact ⟨by kernel_rfl, fun j t ht => by
        rw [Tryd.params3] at ht
        have h3 : t = 22 := by
          rcases j with _ | j
          · simpa using ht.symm
          · simp at ht
        subst h3
        exact (show Tryd.prog.wantsStandIn 22 = false by kernel_rfl)⟩)
    (by kernel_rfl)
#print axioms opaqueSerial_card
end Go.Proofs.YtnogalajfccioaaDoor
