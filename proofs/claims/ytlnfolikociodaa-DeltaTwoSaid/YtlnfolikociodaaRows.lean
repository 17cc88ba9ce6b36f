/-
  No cell of these rows narrows 'for every input' (looked for: loops, veiled, ifaces, maps, wideKeys, modest, calm, conditions, laid).
  DERIVED. THE GIVEN ROWS OF THIS SEAT. 7 by the template 'for every input the law returns true; each argument reads behind the call as it read before'; 0 by the template 'total and deterministic' (their statements: YtlnfolikociodaaTotals.lean).
  GIVEN WITH THE SEED: the statements are not yours to turn. If you find one false, say at which input.
  Laid BY PROGRAM, IN A SANDBOX (cutbox-rows.mjs): the forced cells as the released guide's own fill.sh prints them over the translation 3e7ee22d052da2dc… (all of the seat's roots in one cut). By AI agents, Wed Nov 11 2026. No macro, syntax, notation, axiom, sorry.
-/
import Derived.Test.YtlnfolikociodaaChecked
import GoSem.Claim
import GoSem.ClaimJoined
import GoSem.ClaimMapViews
import Derived.JoinedTies
import Derived.KernelRfl
namespace Go.Proofs.Ytlnfolikociodaa
/- THE CELL 'sum', in the pinned program and in every row, IS THE sha256 OF THE DUMP (.gsa) THAT YtlnfolikociodaaProg.lean LOADS. Nothing in Lean hashes anything: it is a label: what it is worth is what the hold of that sum in a sandbox is worth. -/
noncomputable def Try.pinned : Pinned := { name := "ytlnfolikociodaa", sum := "3e7ee22d052da2dc21ca2f1b3faf640b843072847fba58e8f9053e5ff56a5638", checked := Try.checked }
namespace Rows
def none {H : Type} : Left H := { results := [], args := [] }

/-- 'varvelaw03.DeltaMakes': WHATEVER THE INPUT: true; the input reads as it did. -/
def deltaMakesSpec : ChangeSpec := { name := "deltaMakes", fn := fun _ => fun
  | [d1, d2] => { results := [.lit (.bool true)], args := [d1, d2] }
  | _ => none }
def deltaMakesRow : OpenClaim := { program := "ytlnfolikociodaa", sum := "3e7ee22d052da2dc21ca2f1b3faf640b843072847fba58e8f9053e5ff56a5638", func := "varve/varvelaw03.DeltaMakes", spec := "deltaMakes", apart := false }
def DeltaMakesSaid : Prop := deltaMakesRow.holds Try.pinned (OpenSpec.ofChange deltaMakesSpec)

/-- ITS FALSE NEIGHBOUR: 'it returns false'. Refute it at one input. -/
def deltaMakesWrong : ChangeSpec := { name := "deltaMakes", fn := fun _ => fun
  | [d1, d2] => { results := [.lit (.bool false)], args := [d1, d2] }
  | _ => none }
def DeltaMakesWrongFalsely : Prop := deltaMakesRow.holds Try.pinned (OpenSpec.ofChange deltaMakesWrong)

/-- 'varvelaw03.DeltaLeast': WHATEVER THE INPUT: true; the input reads as it did. -/
def deltaLeastSpec : ChangeSpec := { name := "deltaLeast", fn := fun _ => fun
  | [d1, d2] => { results := [.lit (.bool true)], args := [d1, d2] }
  | _ => none }
def deltaLeastRow : OpenClaim := { program := "ytlnfolikociodaa", sum := "3e7ee22d052da2dc21ca2f1b3faf640b843072847fba58e8f9053e5ff56a5638", func := "varve/varvelaw03.DeltaLeast", spec := "deltaLeast", unfollowed := true, recurses := true, apart := false }
def DeltaLeastSaid : Prop := deltaLeastRow.holds Try.pinned (OpenSpec.ofChange deltaLeastSpec)

/-- ITS FALSE NEIGHBOUR: 'it returns false'. Refute it at one input. -/
def deltaLeastWrong : ChangeSpec := { name := "deltaLeast", fn := fun _ => fun
  | [d1, d2] => { results := [.lit (.bool false)], args := [d1, d2] }
  | _ => none }
def DeltaLeastWrongFalsely : Prop := deltaLeastRow.holds Try.pinned (OpenSpec.ofChange deltaLeastWrong)

/-- 'varvelaw03.DeltaApplies': WHATEVER THE INPUT: true; the input reads as it did. -/
def deltaAppliesSpec : ChangeSpec := { name := "deltaApplies", fn := fun _ => fun
  | [d1, d2] => { results := [.lit (.bool true)], args := [d1, d2] }
  | _ => none }
def deltaAppliesRow : OpenClaim := { program := "ytlnfolikociodaa", sum := "3e7ee22d052da2dc21ca2f1b3faf640b843072847fba58e8f9053e5ff56a5638", func := "varve/varvelaw03.DeltaApplies", spec := "deltaApplies", unfollowed := true, recurses := true, apart := false }
def DeltaAppliesSaid : Prop := deltaAppliesRow.holds Try.pinned (OpenSpec.ofChange deltaAppliesSpec)

/-- ITS FALSE NEIGHBOUR: 'it returns false'. Refute it at one input. -/
def deltaAppliesWrong : ChangeSpec := { name := "deltaApplies", fn := fun _ => fun
  | [d1, d2] => { results := [.lit (.bool false)], args := [d1, d2] }
  | _ => none }
def DeltaAppliesWrongFalsely : Prop := deltaAppliesRow.holds Try.pinned (OpenSpec.ofChange deltaAppliesWrong)

/-- 'varvelaw03.DeltaBack': WHATEVER THE INPUT: true; the input reads as it did. -/
def deltaBackSpec : ChangeSpec := { name := "deltaBack", fn := fun _ => fun
  | [d1, d2] => { results := [.lit (.bool true)], args := [d1, d2] }
  | _ => none }
def deltaBackRow : OpenClaim := { program := "ytlnfolikociodaa", sum := "3e7ee22d052da2dc21ca2f1b3faf640b843072847fba58e8f9053e5ff56a5638", func := "varve/varvelaw03.DeltaBack", spec := "deltaBack", unfollowed := true, recurses := true, apart := false }
def DeltaBackSaid : Prop := deltaBackRow.holds Try.pinned (OpenSpec.ofChange deltaBackSpec)

/-- ITS FALSE NEIGHBOUR: 'it returns false'. Refute it at one input. -/
def deltaBackWrong : ChangeSpec := { name := "deltaBack", fn := fun _ => fun
  | [d1, d2] => { results := [.lit (.bool false)], args := [d1, d2] }
  | _ => none }
def DeltaBackWrongFalsely : Prop := deltaBackRow.holds Try.pinned (OpenSpec.ofChange deltaBackWrong)

/-- 'varvelaw03.DeltaComposes': WHATEVER THE INPUT: true; the input reads as it did. -/
def deltaComposesSpec : ChangeSpec := { name := "deltaComposes", fn := fun _ => fun
  | [d1, d2] => { results := [.lit (.bool true)], args := [d1, d2] }
  | _ => none }
def deltaComposesRow : OpenClaim := { program := "ytlnfolikociodaa", sum := "3e7ee22d052da2dc21ca2f1b3faf640b843072847fba58e8f9053e5ff56a5638", func := "varve/varvelaw03.DeltaComposes", spec := "deltaComposes", unfollowed := true, recurses := true, apart := false }
def DeltaComposesSaid : Prop := deltaComposesRow.holds Try.pinned (OpenSpec.ofChange deltaComposesSpec)

/-- ITS FALSE NEIGHBOUR: 'it returns false'. Refute it at one input. -/
def deltaComposesWrong : ChangeSpec := { name := "deltaComposes", fn := fun _ => fun
  | [d1, d2] => { results := [.lit (.bool false)], args := [d1, d2] }
  | _ => none }
def DeltaComposesWrongFalsely : Prop := deltaComposesRow.holds Try.pinned (OpenSpec.ofChange deltaComposesWrong)

/-- 'varvelaw03.DeltaThree': WHATEVER THE INPUT: true; the input reads as it did. -/
def deltaThreeSpec : ChangeSpec := { name := "deltaThree", fn := fun _ => fun
  | [d1, d2, d3] => { results := [.lit (.bool true)], args := [d1, d2, d3] }
  | _ => none }
def deltaThreeRow : OpenClaim := { program := "ytlnfolikociodaa", sum := "3e7ee22d052da2dc21ca2f1b3faf640b843072847fba58e8f9053e5ff56a5638", func := "varve/varvelaw03.DeltaThree", spec := "deltaThree", unfollowed := true, recurses := true, apart := false }
def DeltaThreeSaid : Prop := deltaThreeRow.holds Try.pinned (OpenSpec.ofChange deltaThreeSpec)

/-- ITS FALSE NEIGHBOUR: 'it returns false'. Refute it at one input. -/
def deltaThreeWrong : ChangeSpec := { name := "deltaThree", fn := fun _ => fun
  | [d1, d2, d3] => { results := [.lit (.bool false)], args := [d1, d2, d3] }
  | _ => none }
def DeltaThreeWrongFalsely : Prop := deltaThreeRow.holds Try.pinned (OpenSpec.ofChange deltaThreeWrong)

/-- 'varvelaw03.DeltaTwo': WHATEVER THE INPUT: true; the input reads as it did. -/
def deltaTwoSpec : ChangeSpec := { name := "deltaTwo", fn := fun _ => fun
  | [d1, d2, d3] => { results := [.lit (.bool true)], args := [d1, d2, d3] }
  | _ => none }
def deltaTwoRow : OpenClaim := { program := "ytlnfolikociodaa", sum := "3e7ee22d052da2dc21ca2f1b3faf640b843072847fba58e8f9053e5ff56a5638", func := "varve/varvelaw03.DeltaTwo", spec := "deltaTwo", unfollowed := true, recurses := true, apart := false }
def DeltaTwoSaid : Prop := deltaTwoRow.holds Try.pinned (OpenSpec.ofChange deltaTwoSpec)

/-- ITS FALSE NEIGHBOUR: 'it returns false'. Refute it at one input. -/
def deltaTwoWrong : ChangeSpec := { name := "deltaTwo", fn := fun _ => fun
  | [d1, d2, d3] => { results := [.lit (.bool false)], args := [d1, d2, d3] }
  | _ => none }
def DeltaTwoWrongFalsely : Prop := deltaTwoRow.holds Try.pinned (OpenSpec.ofChange deltaTwoWrong)

/- THE SECOND FORM. 'bulk': how many values and letters a reading holds, each counted each time it is reached (what is shared counts as often as it is met; a slice's spare places count too). A statement '..UptoSaid' is the law's where the arguments, and the package variables that the reading takes, are together of bulk at most 1048576: NARROWER than '..Said'. Prove '..Said' where nothing that the law and all that it calls make is longer than what came in: it says more and counts as full. Else prove '..UptoSaid'. A law counts once. -/
mutual
def uptoBulk {H : Type} : DataW H → Nat
  | .lit (.string bytes) => bytes.length + 1
  | .lit _ => 1
  | .nil => 1
  | .ptr d => uptoBulk d + 1
  | .slice elems spare => uptoBulkAll elems + uptoBulkAll spare + 1
  | .agg parts => uptoBulkAll parts + 1
  | .iface _ d => uptoBulk d + 1
  | .map entries => uptoBulkEntries entries + 1
  | .held _ => 1
def uptoBulkAll {H : Type} : List (DataW H) → Nat
  | [] => 0
  | d :: r => uptoBulk d + uptoBulkAll r
def uptoBulkEntries {H : Type} : List (Lit × DataW H) → Nat
  | [] => 0
  | x :: r => uptoBulkEntry x + uptoBulkEntries r
def uptoBulkEntry {H : Type} : Lit × DataW H → Nat
  | (.string bytes, d) => bytes.length + uptoBulk d + 1
  | (_, d) => uptoBulk d + 1
 end
def uptoSmall : (H : Type) → List (DataW H) → Bool := fun _ ds => decide (uptoBulkAll ds ≤ 1048576)
def OpenSpec.upto (s : _root_.Go.ChangeSpec) : _root_.Go.OpenSpec := { _root_.Go.OpenSpec.ofChange s with cond := some uptoSmall }

/-- 'varvelaw03.DeltaMakes', WHERE WHAT IT READS IS OF BULK AT MOST 1048576: true; the input reads as it did. -/
def deltaMakesUptoRow : OpenClaim := { program := "ytlnfolikociodaa", sum := "3e7ee22d052da2dc21ca2f1b3faf640b843072847fba58e8f9053e5ff56a5638", func := "varve/varvelaw03.DeltaMakes", spec := "deltaMakes", apart := false, narrowed := true }
def DeltaMakesUptoSaid : Prop := deltaMakesUptoRow.holds Try.pinned (OpenSpec.upto deltaMakesSpec)

/-- 'varvelaw03.DeltaLeast', WHERE WHAT IT READS IS OF BULK AT MOST 1048576: true; the input reads as it did. -/
def deltaLeastUptoRow : OpenClaim := { program := "ytlnfolikociodaa", sum := "3e7ee22d052da2dc21ca2f1b3faf640b843072847fba58e8f9053e5ff56a5638", func := "varve/varvelaw03.DeltaLeast", spec := "deltaLeast", unfollowed := true, recurses := true, apart := false, narrowed := true }
def DeltaLeastUptoSaid : Prop := deltaLeastUptoRow.holds Try.pinned (OpenSpec.upto deltaLeastSpec)

/-- 'varvelaw03.DeltaApplies', WHERE WHAT IT READS IS OF BULK AT MOST 1048576: true; the input reads as it did. -/
def deltaAppliesUptoRow : OpenClaim := { program := "ytlnfolikociodaa", sum := "3e7ee22d052da2dc21ca2f1b3faf640b843072847fba58e8f9053e5ff56a5638", func := "varve/varvelaw03.DeltaApplies", spec := "deltaApplies", unfollowed := true, recurses := true, apart := false, narrowed := true }
def DeltaAppliesUptoSaid : Prop := deltaAppliesUptoRow.holds Try.pinned (OpenSpec.upto deltaAppliesSpec)

/-- 'varvelaw03.DeltaBack', WHERE WHAT IT READS IS OF BULK AT MOST 1048576: true; the input reads as it did. -/
def deltaBackUptoRow : OpenClaim := { program := "ytlnfolikociodaa", sum := "3e7ee22d052da2dc21ca2f1b3faf640b843072847fba58e8f9053e5ff56a5638", func := "varve/varvelaw03.DeltaBack", spec := "deltaBack", unfollowed := true, recurses := true, apart := false, narrowed := true }
def DeltaBackUptoSaid : Prop := deltaBackUptoRow.holds Try.pinned (OpenSpec.upto deltaBackSpec)

/-- 'varvelaw03.DeltaComposes', WHERE WHAT IT READS IS OF BULK AT MOST 1048576: true; the input reads as it did. -/
def deltaComposesUptoRow : OpenClaim := { program := "ytlnfolikociodaa", sum := "3e7ee22d052da2dc21ca2f1b3faf640b843072847fba58e8f9053e5ff56a5638", func := "varve/varvelaw03.DeltaComposes", spec := "deltaComposes", unfollowed := true, recurses := true, apart := false, narrowed := true }
def DeltaComposesUptoSaid : Prop := deltaComposesUptoRow.holds Try.pinned (OpenSpec.upto deltaComposesSpec)

/-- 'varvelaw03.DeltaThree', WHERE WHAT IT READS IS OF BULK AT MOST 1048576: true; the input reads as it did. -/
def deltaThreeUptoRow : OpenClaim := { program := "ytlnfolikociodaa", sum := "3e7ee22d052da2dc21ca2f1b3faf640b843072847fba58e8f9053e5ff56a5638", func := "varve/varvelaw03.DeltaThree", spec := "deltaThree", unfollowed := true, recurses := true, apart := false, narrowed := true }
def DeltaThreeUptoSaid : Prop := deltaThreeUptoRow.holds Try.pinned (OpenSpec.upto deltaThreeSpec)

/-- 'varvelaw03.DeltaTwo', WHERE WHAT IT READS IS OF BULK AT MOST 1048576: true; the input reads as it did. -/
def deltaTwoUptoRow : OpenClaim := { program := "ytlnfolikociodaa", sum := "3e7ee22d052da2dc21ca2f1b3faf640b843072847fba58e8f9053e5ff56a5638", func := "varve/varvelaw03.DeltaTwo", spec := "deltaTwo", unfollowed := true, recurses := true, apart := false, narrowed := true }
def DeltaTwoUptoSaid : Prop := deltaTwoUptoRow.holds Try.pinned (OpenSpec.upto deltaTwoSpec)

end Rows
end Go.Proofs.Ytlnfolikociodaa
