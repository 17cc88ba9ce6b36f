/-
  No cell of these rows narrows 'for every input' (looked for: loops, veiled, ifaces, maps, wideKeys, modest, calm, conditions, laid).
  DERIVED. THE GIVEN ROWS OF THIS SEAT. 7 by the template 'for every input the law returns true; each argument reads behind the call as it read before'; 0 by the template 'total and deterministic' (their statements: YtnemaolbmocncaaTotals.lean).
  GIVEN WITH THE SEED: the statements are not yours to turn. If you find one false, say at which input.
  Laid BY PROGRAM, IN A SANDBOX (cutbox-rows.mjs): the forced cells as the released guide's own fill.sh prints them over the translation 05d62f5b97937633… (all of the seat's roots in one cut). By AI agents, Wed Nov 11 2026. No macro, syntax, notation, axiom, sorry.
-/
import Derived.Test.YtnemaolbmocncaaChecked
import GoSem.Claim
import GoSem.ClaimJoined
import GoSem.ClaimMapViews
import Derived.JoinedTies
import Derived.KernelRfl
namespace Go.Proofs.Ytnemaolbmocncaa
/- THE CELL 'sum', in the pinned program and in every row, IS THE sha256 OF THE DUMP (.gsa) THAT YtnemaolbmocncaaProg.lean LOADS. Nothing in Lean hashes anything: it is a label: what it is worth is what the hold of that sum in a sandbox is worth. -/
noncomputable def Try.pinned : Pinned := { name := "ytnemaolbmocncaa", sum := "05d62f5b979376335e1ab9768ac82b3542c7e0dfb1b7aea296452bcd64604e56", checked := Try.checked }
namespace Rows
def none {H : Type} : Left H := { results := [], args := [] }

/-- 'varvelaw26.HistChecks': WHATEVER THE INPUT: true; the input reads as it did. -/
def histChecksSpec : ChangeSpec := { name := "histChecks", fn := fun _ => fun
  | [d] => { results := [.lit (.bool true)], args := [d] }
  | _ => none }
def histChecksRow : OpenClaim := { program := "ytnemaolbmocncaa", sum := "05d62f5b979376335e1ab9768ac82b3542c7e0dfb1b7aea296452bcd64604e56", func := "varve/varvelaw26.HistChecks", spec := "histChecks", plainKeys := false, apart := false }
def HistChecksSaid : Prop := histChecksRow.holds Try.pinned (OpenSpec.ofChange histChecksSpec)

/-- ITS FALSE NEIGHBOUR: 'it returns false'. Refute it at one input. -/
def histChecksWrong : ChangeSpec := { name := "histChecks", fn := fun _ => fun
  | [d] => { results := [.lit (.bool false)], args := [d] }
  | _ => none }
def HistChecksWrongFalsely : Prop := histChecksRow.holds Try.pinned (OpenSpec.ofChange histChecksWrong)

/-- 'varvelaw26.HistTurned': WHATEVER THE INPUT: true; the input reads as it did. -/
def histTurnedSpec : ChangeSpec := { name := "histTurned", fn := fun _ => fun
  | [d1, d2] => { results := [.lit (.bool true)], args := [d1, d2] }
  | _ => none }
def histTurnedRow : OpenClaim := { program := "ytnemaolbmocncaa", sum := "05d62f5b979376335e1ab9768ac82b3542c7e0dfb1b7aea296452bcd64604e56", func := "varve/varvelaw26.HistTurned", spec := "histTurned", plainKeys := false, apart := false }
def HistTurnedSaid : Prop := histTurnedRow.holds Try.pinned (OpenSpec.ofChange histTurnedSpec)

/-- ITS FALSE NEIGHBOUR: 'it returns false'. Refute it at one input. -/
def histTurnedWrong : ChangeSpec := { name := "histTurned", fn := fun _ => fun
  | [d1, d2] => { results := [.lit (.bool false)], args := [d1, d2] }
  | _ => none }
def HistTurnedWrongFalsely : Prop := histTurnedRow.holds Try.pinned (OpenSpec.ofChange histTurnedWrong)

/-- 'varvelaw26.HistSerial': WHATEVER THE INPUT: true; the input reads as it did. -/
def histSerialSpec : ChangeSpec := { name := "histSerial", fn := fun _ => fun
  | [d1, d2] => { results := [.lit (.bool true)], args := [d1, d2] }
  | _ => none }
def histSerialRow : OpenClaim := { program := "ytnemaolbmocncaa", sum := "05d62f5b979376335e1ab9768ac82b3542c7e0dfb1b7aea296452bcd64604e56", func := "varve/varvelaw26.HistSerial", spec := "histSerial", plainKeys := false, apart := false }
def HistSerialSaid : Prop := histSerialRow.holds Try.pinned (OpenSpec.ofChange histSerialSpec)

/-- ITS FALSE NEIGHBOUR: 'it returns false'. Refute it at one input. -/
def histSerialWrong : ChangeSpec := { name := "histSerial", fn := fun _ => fun
  | [d1, d2] => { results := [.lit (.bool false)], args := [d1, d2] }
  | _ => none }
def HistSerialWrongFalsely : Prop := histSerialRow.holds Try.pinned (OpenSpec.ofChange histSerialWrong)

/-- 'varvelaw26.HistFinds': WHATEVER THE INPUT: true; the input reads as it did. -/
def histFindsSpec : ChangeSpec := { name := "histFinds", fn := fun _ => fun
  | [d1, d2, d3] => { results := [.lit (.bool true)], args := [d1, d2, d3] }
  | _ => none }
def histFindsRow : OpenClaim := { program := "ytnemaolbmocncaa", sum := "05d62f5b979376335e1ab9768ac82b3542c7e0dfb1b7aea296452bcd64604e56", func := "varve/varvelaw26.HistFinds", spec := "histFinds", plainKeys := false, apart := false }
def HistFindsSaid : Prop := histFindsRow.holds Try.pinned (OpenSpec.ofChange histFindsSpec)

/-- ITS FALSE NEIGHBOUR: 'it returns false'. Refute it at one input. -/
def histFindsWrong : ChangeSpec := { name := "histFinds", fn := fun _ => fun
  | [d1, d2, d3] => { results := [.lit (.bool false)], args := [d1, d2, d3] }
  | _ => none }
def HistFindsWrongFalsely : Prop := histFindsRow.holds Try.pinned (OpenSpec.ofChange histFindsWrong)

/-- 'varvelaw26.HistUndone': WHATEVER THE INPUT: true; the input reads as it did. -/
def histUndoneSpec : ChangeSpec := { name := "histUndone", fn := fun _ => fun
  | [d1, d2] => { results := [.lit (.bool true)], args := [d1, d2] }
  | _ => none }
def histUndoneRow : OpenClaim := { program := "ytnemaolbmocncaa", sum := "05d62f5b979376335e1ab9768ac82b3542c7e0dfb1b7aea296452bcd64604e56", func := "varve/varvelaw26.HistUndone", spec := "histUndone", plainKeys := false, apart := false }
def HistUndoneSaid : Prop := histUndoneRow.holds Try.pinned (OpenSpec.ofChange histUndoneSpec)

/-- ITS FALSE NEIGHBOUR: 'it returns false'. Refute it at one input. -/
def histUndoneWrong : ChangeSpec := { name := "histUndone", fn := fun _ => fun
  | [d1, d2] => { results := [.lit (.bool false)], args := [d1, d2] }
  | _ => none }
def HistUndoneWrongFalsely : Prop := histUndoneRow.holds Try.pinned (OpenSpec.ofChange histUndoneWrong)

/-- 'varvelaw26.HistTold': WHATEVER THE INPUT: true; the input reads as it did. -/
def histToldSpec : ChangeSpec := { name := "histTold", fn := fun _ => fun
  | [d] => { results := [.lit (.bool true)], args := [d] }
  | _ => none }
def histToldRow : OpenClaim := { program := "ytnemaolbmocncaa", sum := "05d62f5b979376335e1ab9768ac82b3542c7e0dfb1b7aea296452bcd64604e56", func := "varve/varvelaw26.HistTold", spec := "histTold", plainKeys := false, apart := false }
def HistToldSaid : Prop := histToldRow.holds Try.pinned (OpenSpec.ofChange histToldSpec)

/-- ITS FALSE NEIGHBOUR: 'it returns false'. Refute it at one input. -/
def histToldWrong : ChangeSpec := { name := "histTold", fn := fun _ => fun
  | [d] => { results := [.lit (.bool false)], args := [d] }
  | _ => none }
def HistToldWrongFalsely : Prop := histToldRow.holds Try.pinned (OpenSpec.ofChange histToldWrong)

/-- 'varvelaw26.HistModel': WHATEVER THE INPUT: true; the input reads as it did. -/
def histModelSpec : ChangeSpec := { name := "histModel", fn := fun _ => fun
  | [d] => { results := [.lit (.bool true)], args := [d] }
  | _ => none }
def histModelRow : OpenClaim := { program := "ytnemaolbmocncaa", sum := "05d62f5b979376335e1ab9768ac82b3542c7e0dfb1b7aea296452bcd64604e56", func := "varve/varvelaw26.HistModel", spec := "histModel", plainKeys := false, apart := false }
def HistModelSaid : Prop := histModelRow.holds Try.pinned (OpenSpec.ofChange histModelSpec)

/-- ITS FALSE NEIGHBOUR: 'it returns false'. Refute it at one input. -/
def histModelWrong : ChangeSpec := { name := "histModel", fn := fun _ => fun
  | [d] => { results := [.lit (.bool false)], args := [d] }
  | _ => none }
def HistModelWrongFalsely : Prop := histModelRow.holds Try.pinned (OpenSpec.ofChange histModelWrong)

/- THE SECOND FORM. 'bulk': how many values and letters a reading holds, each counted each time it is reached (what is shared counts as often as it is met; a slice's spare places count too). A statement '..UptoSaid' is the law's where the arguments, and the package variables that the reading takes, are together of bulk at most 1048576: NARROWER than '..Said'. Prove '..Said' where nothing that the law and all that it calls make is longer than what came in: it says more and counts as full. Else prove '..UptoSaid'. A law counts once. -/
mutual
def uptoBulk {H : Type} : DataW H → Nat
  | .lit (.string bytes) => bytes.length + 1
  | .lit _ => 1
  | .nil => 1
  | .ptr d => uptoBulk d + 1
  | .slice elems spare => uptoBulkAll elems + uptoBulkAll spare + 1
  | .agg parts => uptoBulkAll parts + 1
  | .iface _ d => uptoBulk d + 1
  | .map entries => uptoBulkEntries entries + 1
  | .held _ => 1
def uptoBulkAll {H : Type} : List (DataW H) → Nat
  | [] => 0
  | d :: r => uptoBulk d + uptoBulkAll r
def uptoBulkEntries {H : Type} : List (Lit × DataW H) → Nat
  | [] => 0
  | x :: r => uptoBulkEntry x + uptoBulkEntries r
def uptoBulkEntry {H : Type} : Lit × DataW H → Nat
  | (.string bytes, d) => bytes.length + uptoBulk d + 1
  | (_, d) => uptoBulk d + 1
 end
def uptoSmall : (H : Type) → List (DataW H) → Bool := fun _ ds => decide (uptoBulkAll ds ≤ 1048576)
def OpenSpec.upto (s : _root_.Go.ChangeSpec) : _root_.Go.OpenSpec := { _root_.Go.OpenSpec.ofChange s with cond := some uptoSmall }

/-- 'varvelaw26.HistChecks', WHERE WHAT IT READS IS OF BULK AT MOST 1048576: true; the input reads as it did. -/
def histChecksUptoRow : OpenClaim := { program := "ytnemaolbmocncaa", sum := "05d62f5b979376335e1ab9768ac82b3542c7e0dfb1b7aea296452bcd64604e56", func := "varve/varvelaw26.HistChecks", spec := "histChecks", plainKeys := false, apart := false, narrowed := true }
def HistChecksUptoSaid : Prop := histChecksUptoRow.holds Try.pinned (OpenSpec.upto histChecksSpec)

/-- 'varvelaw26.HistTurned', WHERE WHAT IT READS IS OF BULK AT MOST 1048576: true; the input reads as it did. -/
def histTurnedUptoRow : OpenClaim := { program := "ytnemaolbmocncaa", sum := "05d62f5b979376335e1ab9768ac82b3542c7e0dfb1b7aea296452bcd64604e56", func := "varve/varvelaw26.HistTurned", spec := "histTurned", plainKeys := false, apart := false, narrowed := true }
def HistTurnedUptoSaid : Prop := histTurnedUptoRow.holds Try.pinned (OpenSpec.upto histTurnedSpec)

/-- 'varvelaw26.HistSerial', WHERE WHAT IT READS IS OF BULK AT MOST 1048576: true; the input reads as it did. -/
def histSerialUptoRow : OpenClaim := { program := "ytnemaolbmocncaa", sum := "05d62f5b979376335e1ab9768ac82b3542c7e0dfb1b7aea296452bcd64604e56", func := "varve/varvelaw26.HistSerial", spec := "histSerial", plainKeys := false, apart := false, narrowed := true }
def HistSerialUptoSaid : Prop := histSerialUptoRow.holds Try.pinned (OpenSpec.upto histSerialSpec)

/-- 'varvelaw26.HistFinds', WHERE WHAT IT READS IS OF BULK AT MOST 1048576: true; the input reads as it did. -/
def histFindsUptoRow : OpenClaim := { program := "ytnemaolbmocncaa", sum := "05d62f5b979376335e1ab9768ac82b3542c7e0dfb1b7aea296452bcd64604e56", func := "varve/varvelaw26.HistFinds", spec := "histFinds", plainKeys := false, apart := false, narrowed := true }
def HistFindsUptoSaid : Prop := histFindsUptoRow.holds Try.pinned (OpenSpec.upto histFindsSpec)

/-- 'varvelaw26.HistUndone', WHERE WHAT IT READS IS OF BULK AT MOST 1048576: true; the input reads as it did. -/
def histUndoneUptoRow : OpenClaim := { program := "ytnemaolbmocncaa", sum := "05d62f5b979376335e1ab9768ac82b3542c7e0dfb1b7aea296452bcd64604e56", func := "varve/varvelaw26.HistUndone", spec := "histUndone", plainKeys := false, apart := false, narrowed := true }
def HistUndoneUptoSaid : Prop := histUndoneUptoRow.holds Try.pinned (OpenSpec.upto histUndoneSpec)

/-- 'varvelaw26.HistTold', WHERE WHAT IT READS IS OF BULK AT MOST 1048576: true; the input reads as it did. -/
def histToldUptoRow : OpenClaim := { program := "ytnemaolbmocncaa", sum := "05d62f5b979376335e1ab9768ac82b3542c7e0dfb1b7aea296452bcd64604e56", func := "varve/varvelaw26.HistTold", spec := "histTold", plainKeys := false, apart := false, narrowed := true }
def HistToldUptoSaid : Prop := histToldUptoRow.holds Try.pinned (OpenSpec.upto histToldSpec)

/-- 'varvelaw26.HistModel', WHERE WHAT IT READS IS OF BULK AT MOST 1048576: true; the input reads as it did. -/
def histModelUptoRow : OpenClaim := { program := "ytnemaolbmocncaa", sum := "05d62f5b979376335e1ab9768ac82b3542c7e0dfb1b7aea296452bcd64604e56", func := "varve/varvelaw26.HistModel", spec := "histModel", plainKeys := false, apart := false, narrowed := true }
def HistModelUptoSaid : Prop := histModelUptoRow.holds Try.pinned (OpenSpec.upto histModelSpec)

end Rows
end Go.Proofs.Ytnemaolbmocncaa
