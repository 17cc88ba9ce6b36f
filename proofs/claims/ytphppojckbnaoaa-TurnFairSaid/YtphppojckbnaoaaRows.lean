/-
  No cell of these rows narrows 'for every input' (looked for: loops, veiled, ifaces, maps, wideKeys, modest, calm, conditions, laid).
  DERIVED. THE GIVEN ROWS OF THIS SEAT. 4 by the template 'for every input the law returns true; each argument reads behind the call as it read before'; 0 by the template 'total and deterministic' (their statements: YtphppojckbnaoaaTotals.lean).
  GIVEN WITH THE SEED: the statements are not yours to turn. If you find one false, say at which input.
  Laid BY PROGRAM, IN A SANDBOX (cutbox-rows.mjs): the forced cells as the released guide's own fill.sh prints them over the translation d9ba9b7594da59e6… (all of the seat's roots in one cut). By AI agents, Wed Nov 11 2026. No macro, syntax, notation, axiom, sorry.
-/
import Derived.Test.YtphppojckbnaoaaChecked
import GoSem.Claim
import GoSem.ClaimJoined
import GoSem.ClaimMapViews
import Derived.JoinedTies
import Derived.KernelRfl
namespace Go.Proofs.Ytphppojckbnaoaa
/- THE CELL 'sum', in the pinned program and in every row, IS THE sha256 OF THE DUMP (.gsa) THAT YtphppojckbnaoaaProg.lean LOADS. Nothing in Lean hashes anything: it is a label: what it is worth is what the hold of that sum in a sandbox is worth. -/
noncomputable def Try.pinned : Pinned := { name := "ytphppojckbnaoaa", sum := "d9ba9b7594da59e69c2b9c1d6d830ad946eebccb06b69528483df70d54f1f300", checked := Try.checked }
namespace Rows
def none {H : Type} : Left H := { results := [], args := [] }

/-- 'varvelaw15.TurnPlays': WHATEVER THE INPUT: true; the input reads as it did. -/
def turnPlaysSpec : ChangeSpec := { name := "turnPlays", fn := fun _ => fun
  | [d] => { results := [.lit (.bool true)], args := [d] }
  | _ => none }
def turnPlaysRow : OpenClaim := { program := "ytphppojckbnaoaa", sum := "d9ba9b7594da59e69c2b9c1d6d830ad946eebccb06b69528483df70d54f1f300", func := "varve/varvelaw15.TurnPlays", spec := "turnPlays", apart := false }
def TurnPlaysSaid : Prop := turnPlaysRow.holds Try.pinned (OpenSpec.ofChange turnPlaysSpec)

/-- ITS FALSE NEIGHBOUR: 'it returns false'. Refute it at one input. -/
def turnPlaysWrong : ChangeSpec := { name := "turnPlays", fn := fun _ => fun
  | [d] => { results := [.lit (.bool false)], args := [d] }
  | _ => none }
def TurnPlaysWrongFalsely : Prop := turnPlaysRow.holds Try.pinned (OpenSpec.ofChange turnPlaysWrong)

/-- 'varvelaw15.TurnFair': WHATEVER THE INPUT: true; the input reads as it did. -/
def turnFairSpec : ChangeSpec := { name := "turnFair", fn := fun _ => fun
  | [d1, d2, d3] => { results := [.lit (.bool true)], args := [d1, d2, d3] }
  | _ => none }
def turnFairRow : OpenClaim := { program := "ytphppojckbnaoaa", sum := "d9ba9b7594da59e69c2b9c1d6d830ad946eebccb06b69528483df70d54f1f300", func := "varve/varvelaw15.TurnFair", spec := "turnFair", apart := false }
def TurnFairSaid : Prop := turnFairRow.holds Try.pinned (OpenSpec.ofChange turnFairSpec)

/-- ITS FALSE NEIGHBOUR: 'it returns false'. Refute it at one input. -/
def turnFairWrong : ChangeSpec := { name := "turnFair", fn := fun _ => fun
  | [d1, d2, d3] => { results := [.lit (.bool false)], args := [d1, d2, d3] }
  | _ => none }
def TurnFairWrongFalsely : Prop := turnFairRow.holds Try.pinned (OpenSpec.ofChange turnFairWrong)

/-- 'varvelaw15.TurnOne': WHATEVER THE INPUT: true; the input reads as it did. -/
def turnOneSpec : ChangeSpec := { name := "turnOne", fn := fun _ => fun
  | [d] => { results := [.lit (.bool true)], args := [d] }
  | _ => none }
def turnOneRow : OpenClaim := { program := "ytphppojckbnaoaa", sum := "d9ba9b7594da59e69c2b9c1d6d830ad946eebccb06b69528483df70d54f1f300", func := "varve/varvelaw15.TurnOne", spec := "turnOne", apart := false }
def TurnOneSaid : Prop := turnOneRow.holds Try.pinned (OpenSpec.ofChange turnOneSpec)

/-- ITS FALSE NEIGHBOUR: 'it returns false'. Refute it at one input. -/
def turnOneWrong : ChangeSpec := { name := "turnOne", fn := fun _ => fun
  | [d] => { results := [.lit (.bool false)], args := [d] }
  | _ => none }
def TurnOneWrongFalsely : Prop := turnOneRow.holds Try.pinned (OpenSpec.ofChange turnOneWrong)

/-- 'varvelaw15.TurnNone': WHATEVER THE INPUT: true; the input reads as it did. -/
def turnNoneSpec : ChangeSpec := { name := "turnNone", fn := fun _ => fun
  | [d] => { results := [.lit (.bool true)], args := [d] }
  | _ => none }
def turnNoneRow : OpenClaim := { program := "ytphppojckbnaoaa", sum := "d9ba9b7594da59e69c2b9c1d6d830ad946eebccb06b69528483df70d54f1f300", func := "varve/varvelaw15.TurnNone", spec := "turnNone", apart := false }
def TurnNoneSaid : Prop := turnNoneRow.holds Try.pinned (OpenSpec.ofChange turnNoneSpec)

/-- ITS FALSE NEIGHBOUR: 'it returns false'. Refute it at one input. -/
def turnNoneWrong : ChangeSpec := { name := "turnNone", fn := fun _ => fun
  | [d] => { results := [.lit (.bool false)], args := [d] }
  | _ => none }
def TurnNoneWrongFalsely : Prop := turnNoneRow.holds Try.pinned (OpenSpec.ofChange turnNoneWrong)

/- THE SECOND FORM. 'bulk': how many values and letters a reading holds, each counted each time it is reached (what is shared counts as often as it is met; a slice's spare places count too). A statement '..UptoSaid' is the law's where the arguments, and the package variables that the reading takes, are together of bulk at most 1048576: NARROWER than '..Said'. Prove '..Said' where nothing that the law and all that it calls make is longer than what came in: it says more and counts as full. Else prove '..UptoSaid'. A law counts once. -/
mutual
def uptoBulk {H : Type} : DataW H → Nat
  | .lit (.string bytes) => bytes.length + 1
  | .lit _ => 1
  | .nil => 1
  | .ptr d => uptoBulk d + 1
  | .slice elems spare => uptoBulkAll elems + uptoBulkAll spare + 1
  | .agg parts => uptoBulkAll parts + 1
  | .iface _ d => uptoBulk d + 1
  | .map entries => uptoBulkEntries entries + 1
  | .held _ => 1
def uptoBulkAll {H : Type} : List (DataW H) → Nat
  | [] => 0
  | d :: r => uptoBulk d + uptoBulkAll r
def uptoBulkEntries {H : Type} : List (Lit × DataW H) → Nat
  | [] => 0
  | x :: r => uptoBulkEntry x + uptoBulkEntries r
def uptoBulkEntry {H : Type} : Lit × DataW H → Nat
  | (.string bytes, d) => bytes.length + uptoBulk d + 1
  | (_, d) => uptoBulk d + 1
 end
def uptoSmall : (H : Type) → List (DataW H) → Bool := fun _ ds => decide (uptoBulkAll ds ≤ 1048576)
def OpenSpec.upto (s : _root_.Go.ChangeSpec) : _root_.Go.OpenSpec := { _root_.Go.OpenSpec.ofChange s with cond := some uptoSmall }

/-- 'varvelaw15.TurnPlays', WHERE WHAT IT READS IS OF BULK AT MOST 1048576: true; the input reads as it did. -/
def turnPlaysUptoRow : OpenClaim := { program := "ytphppojckbnaoaa", sum := "d9ba9b7594da59e69c2b9c1d6d830ad946eebccb06b69528483df70d54f1f300", func := "varve/varvelaw15.TurnPlays", spec := "turnPlays", apart := false, narrowed := true }
def TurnPlaysUptoSaid : Prop := turnPlaysUptoRow.holds Try.pinned (OpenSpec.upto turnPlaysSpec)

/-- 'varvelaw15.TurnFair', WHERE WHAT IT READS IS OF BULK AT MOST 1048576: true; the input reads as it did. -/
def turnFairUptoRow : OpenClaim := { program := "ytphppojckbnaoaa", sum := "d9ba9b7594da59e69c2b9c1d6d830ad946eebccb06b69528483df70d54f1f300", func := "varve/varvelaw15.TurnFair", spec := "turnFair", apart := false, narrowed := true }
def TurnFairUptoSaid : Prop := turnFairUptoRow.holds Try.pinned (OpenSpec.upto turnFairSpec)

/-- 'varvelaw15.TurnOne', WHERE WHAT IT READS IS OF BULK AT MOST 1048576: true; the input reads as it did. -/
def turnOneUptoRow : OpenClaim := { program := "ytphppojckbnaoaa", sum := "d9ba9b7594da59e69c2b9c1d6d830ad946eebccb06b69528483df70d54f1f300", func := "varve/varvelaw15.TurnOne", spec := "turnOne", apart := false, narrowed := true }
def TurnOneUptoSaid : Prop := turnOneUptoRow.holds Try.pinned (OpenSpec.upto turnOneSpec)

/-- 'varvelaw15.TurnNone', WHERE WHAT IT READS IS OF BULK AT MOST 1048576: true; the input reads as it did. -/
def turnNoneUptoRow : OpenClaim := { program := "ytphppojckbnaoaa", sum := "d9ba9b7594da59e69c2b9c1d6d830ad946eebccb06b69528483df70d54f1f300", func := "varve/varvelaw15.TurnNone", spec := "turnNone", apart := false, narrowed := true }
def TurnNoneUptoSaid : Prop := turnNoneUptoRow.holds Try.pinned (OpenSpec.upto turnNoneSpec)

end Rows
end Go.Proofs.Ytphppojckbnaoaa
