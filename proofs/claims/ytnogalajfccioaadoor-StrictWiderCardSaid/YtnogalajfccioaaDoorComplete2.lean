/- Layer 9 (completions): the next subset. -/
import Derived.Test.YtnogalajfccioaaDoorLegal3
namespace Go.Proofs.YtnogalajfccioaaDoor
open Go.RowKit Go.Proofs.YtnogalajfccioaaDoorW.PrintWords
/-- The subset behind another one, 0 behind the last. -/
def nxt (o s : Nat) : Nat := ((s + 4294967296 - o) % 4294967296) &&& o
def subsets (o : Nat) : List Nat := (List.range 64).filter fun t => t &&& o == t
def nxtChk (o : Nat) : Bool := (subsets o).head? == some 0 && (List.range (subsets o).length).all fun i => nxt o ((subsets o).getD i 0) == (subsets o).getD (i + 1) 0
theorem nxt_all : (List.range 64).all nxtChk = true := by decide +kernel
theorem nxt_chk {o : Nat} (h : o < 64) : nxtChk o = true := List.all_eq_true.1 nxt_all o (List.mem_range.2 h)
theorem subsets_head {o : Nat} (h : o < 64) : (subsets o)[0]? = some 0 := by
  have := nxt_chk h
  simp only [nxtChk, Bool.and_eq_true, beq_iff_eq] at this
  rw [← List.head?_eq_getElem?]
  exact this.1
theorem subsets_next {o : Nat} (h : o < 64) {i : Nat} (hi : i < (subsets o).length) : nxt o ((subsets o).getD i 0) = (subsets o).getD (i + 1) 0 := by
  have := nxt_chk h
  simp only [nxtChk, Bool.and_eq_true, List.all_eq_true] at this
  have := this.2 i (List.mem_range.2 hi)
  simpa using this
theorem u32_sub (a b : Nat) (ha : a < 2 ^ 32) (hb : b < 2 ^ 32) : ((a : Int) - b) % 4294967296 = (((a + 4294967296 - b) % 4294967296 : Nat) : Int) := by
  omega
set_option maxRecDepth 100000 in
theorem choices1_c (s o : Nat) (b : Nat) (w : World) (hs : s < 2 ^ 32) (ho : o < 2 ^ 32) (hb : w.cell? ⟨b, 0, none⟩ = some (.int .u32 o)) :
    Calls Tryd.prog 76 #[.int .u32 s, .pointer (some ⟨b, 0, none⟩)] w fun e w' => e = .returned (.int .u32 (nxt o s : Nat)) ∧ w = w' := by
  have hx := Aside0.mk (u32_sub s o hs ho)
  have hy := Aside0.mk (u32_and (a := (s + 4294967296 - o) % 4294967296) (b := o) (Nat.mod_lt _ (by decide)) ho)
  replace hs := Aside0.mk hs
  replace ho := Aside0.mk ho
  go_enter Tryd.func76, Tryd.ntmps76
  go_wp2
  rw [hx.out, hy.out]
  go_ret
  exact ⟨rfl, rfl⟩
end Go.Proofs.YtnogalajfccioaaDoor
