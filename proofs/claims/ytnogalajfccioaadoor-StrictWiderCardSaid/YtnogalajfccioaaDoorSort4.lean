/- math/bits.Len of a small number; the walk is the kit's template for bits.Len64, turned to this claim. -/
import Derived.Test.YtnogalajfccioaaDoorSort3
import Derived.Lib.Walk
import Derived.Lib.BitFns
namespace Go.Proofs.YtnogalajfccioaaDoor
open Go.RowKit Go.Proofs.YtnogalajfccioaaDoorW.PrintWords
set_option maxHeartbeats 4000000 in
set_option maxRecDepth 100000 in
theorem len64_c (x : Int) (w : World) (h0 : 0 ≤ x) (h1 : x ≤ 64) :
    Calls Tryd.prog 126 #[.int .u64 x] w fun e w' => e = .returned (.int .i64 (Lib.bitLen x.toNat)) ∧ w' = w := by
  go_enter Tryd.func126, Tryd.ntmps126
  go_wp2
  go_ret
  refine ⟨congrArg Ending.returned (congrArg (Value.int IntKind.i64) ?_), rfl⟩
  have l := Lib.bitLen_le8' x h0 (by omega)
  have hs : x.toNat < Lib.len8tab.size := by rw [Lib.len8tab_size]; omega
  have e : ((Lib.len8tab[x.toNat]'hs).toNat : Int) = Lib.len8 x := by
    unfold Lib.len8
    rw [ByteArray.getElem?_lt' _ _ hs]
    rfl
  rw [e, Lib.len8_of x h0 (by omega)]
  unfold wrap64
  omega
theorem len_c (x : Int) (w : World) (h0 : 0 ≤ x) (h1 : x ≤ 64) :
    Calls Tryd.prog 99 #[.int .u64 x] w fun e w' => e = .returned (.int .i64 (Lib.bitLen x.toNat)) ∧ w' = w := by
  go_enter Tryd.func99, Tryd.ntmps99
  go_wp2_with (go_at_call 126; refine (len64_c x _ h0 h1).mono ?_; rintro e w' ⟨rfl, rfl⟩)
  go_ret
  exact ⟨rfl, rfl⟩
theorem bitLen_pos {n : Nat} (h : 0 < n) : 1 ≤ Lib.bitLen n := by
  unfold Lib.bitLen Lib.bitLenAux
  rw [if_neg (by omega)]
  omega
end Go.Proofs.YtnogalajfccioaaDoor
