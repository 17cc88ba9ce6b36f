/-
  No cell of these rows narrows 'for every input' (looked for: loops, veiled, ifaces, maps, wideKeys, modest, calm, conditions, laid).
  DERIVED. THE GIVEN ROWS OF THIS SEAT. 6 by the template 'for every input the law returns true; each argument reads behind the call as it read before'; 0 by the template 'total and deterministic' (their statements: YtjaecdcddmohoaaTotals.lean).
  GIVEN WITH THE SEED: the statements are not yours to turn. If you find one false, say at which input.
  Laid BY PROGRAM, IN A SANDBOX (cutbox-rows.mjs): the forced cells as the released guide's own fill.sh prints them over the translation 441c1d36108f0d17… (all of the seat's roots in one cut). By AI agents, Wed Nov 11 2026. No macro, syntax, notation, axiom, sorry.
-/
import Derived.Test.YtjaecdcddmohoaaChecked
import GoSem.Claim
import GoSem.ClaimJoined
import GoSem.ClaimMapViews
import Derived.JoinedTies
import Derived.KernelRfl
namespace Go.Proofs.Ytjaecdcddmohoaa
/- THE CELL 'sum', in the pinned program and in every row, IS THE sha256 OF THE DUMP (.gsa) THAT YtjaecdcddmohoaaProg.lean LOADS. Nothing in Lean hashes anything: it is a label: what it is worth is what the hold of that sum in a sandbox is worth. -/
noncomputable def Try.pinned : Pinned := { name := "ytjaecdcddmohoaa", sum := "441c1d36108f0d17adfaded56bb6e8503308b6da9fcd20c5d035dc5efc378e27", checked := Try.checked }
namespace Rows
def none {H : Type} : Left H := { results := [], args := [] }

/-- 'varvelaw25.ModelPlays': WHATEVER THE INPUT: true; the input reads as it did. -/
def modelPlaysSpec : ChangeSpec := { name := "modelPlays", fn := fun _ => fun
  | [d1, d2, d3] => { results := [.lit (.bool true)], args := [d1, d2, d3] }
  | _ => none }
def modelPlaysRow : OpenClaim := { program := "ytjaecdcddmohoaa", sum := "441c1d36108f0d17adfaded56bb6e8503308b6da9fcd20c5d035dc5efc378e27", func := "varve/varvelaw25.ModelPlays", spec := "modelPlays", recurses := true, apart := false }
def ModelPlaysSaid : Prop := modelPlaysRow.holds Try.pinned (OpenSpec.ofChange modelPlaysSpec)

/-- ITS FALSE NEIGHBOUR: 'it returns false'. Refute it at one input. -/
def modelPlaysWrong : ChangeSpec := { name := "modelPlays", fn := fun _ => fun
  | [d1, d2, d3] => { results := [.lit (.bool false)], args := [d1, d2, d3] }
  | _ => none }
def ModelPlaysWrongFalsely : Prop := modelPlaysRow.holds Try.pinned (OpenSpec.ofChange modelPlaysWrong)

/-- 'varvelaw25.ModelSnapshots': WHATEVER THE INPUT: true; the input reads as it did. -/
def modelSnapshotsSpec : ChangeSpec := { name := "modelSnapshots", fn := fun _ => fun
  | [d1, d2, d3] => { results := [.lit (.bool true)], args := [d1, d2, d3] }
  | _ => none }
def modelSnapshotsRow : OpenClaim := { program := "ytjaecdcddmohoaa", sum := "441c1d36108f0d17adfaded56bb6e8503308b6da9fcd20c5d035dc5efc378e27", func := "varve/varvelaw25.ModelSnapshots", spec := "modelSnapshots", apart := false }
def ModelSnapshotsSaid : Prop := modelSnapshotsRow.holds Try.pinned (OpenSpec.ofChange modelSnapshotsSpec)

/-- ITS FALSE NEIGHBOUR: 'it returns false'. Refute it at one input. -/
def modelSnapshotsWrong : ChangeSpec := { name := "modelSnapshots", fn := fun _ => fun
  | [d1, d2, d3] => { results := [.lit (.bool false)], args := [d1, d2, d3] }
  | _ => none }
def ModelSnapshotsWrongFalsely : Prop := modelSnapshotsRow.holds Try.pinned (OpenSpec.ofChange modelSnapshotsWrong)

/-- 'varvelaw25.ModelFirst': WHATEVER THE INPUT: true; the input reads as it did. -/
def modelFirstSpec : ChangeSpec := { name := "modelFirst", fn := fun _ => fun
  | [d1, d2, d3, d4] => { results := [.lit (.bool true)], args := [d1, d2, d3, d4] }
  | _ => none }
def modelFirstRow : OpenClaim := { program := "ytjaecdcddmohoaa", sum := "441c1d36108f0d17adfaded56bb6e8503308b6da9fcd20c5d035dc5efc378e27", func := "varve/varvelaw25.ModelFirst", spec := "modelFirst", apart := false }
def ModelFirstSaid : Prop := modelFirstRow.holds Try.pinned (OpenSpec.ofChange modelFirstSpec)

/-- ITS FALSE NEIGHBOUR: 'it returns false'. Refute it at one input. -/
def modelFirstWrong : ChangeSpec := { name := "modelFirst", fn := fun _ => fun
  | [d1, d2, d3, d4] => { results := [.lit (.bool false)], args := [d1, d2, d3, d4] }
  | _ => none }
def ModelFirstWrongFalsely : Prop := modelFirstRow.holds Try.pinned (OpenSpec.ofChange modelFirstWrong)

/-- 'varvelaw25.ModelApart': WHATEVER THE INPUT: true; the input reads as it did. -/
def modelApartSpec : ChangeSpec := { name := "modelApart", fn := fun _ => fun
  | [d1, d2, d3, d4] => { results := [.lit (.bool true)], args := [d1, d2, d3, d4] }
  | _ => none }
def modelApartRow : OpenClaim := { program := "ytjaecdcddmohoaa", sum := "441c1d36108f0d17adfaded56bb6e8503308b6da9fcd20c5d035dc5efc378e27", func := "varve/varvelaw25.ModelApart", spec := "modelApart", apart := false }
def ModelApartSaid : Prop := modelApartRow.holds Try.pinned (OpenSpec.ofChange modelApartSpec)

/-- ITS FALSE NEIGHBOUR: 'it returns false'. Refute it at one input. -/
def modelApartWrong : ChangeSpec := { name := "modelApart", fn := fun _ => fun
  | [d1, d2, d3, d4] => { results := [.lit (.bool false)], args := [d1, d2, d3, d4] }
  | _ => none }
def ModelApartWrongFalsely : Prop := modelApartRow.holds Try.pinned (OpenSpec.ofChange modelApartWrong)

/-- 'varvelaw25.ModelRises': WHATEVER THE INPUT: true; the input reads as it did. -/
def modelRisesSpec : ChangeSpec := { name := "modelRises", fn := fun _ => fun
  | [d] => { results := [.lit (.bool true)], args := [d] }
  | _ => none }
def modelRisesRow : OpenClaim := { program := "ytjaecdcddmohoaa", sum := "441c1d36108f0d17adfaded56bb6e8503308b6da9fcd20c5d035dc5efc378e27", func := "varve/varvelaw25.ModelRises", spec := "modelRises", apart := false }
def ModelRisesSaid : Prop := modelRisesRow.holds Try.pinned (OpenSpec.ofChange modelRisesSpec)

/-- ITS FALSE NEIGHBOUR: 'it returns false'. Refute it at one input. -/
def modelRisesWrong : ChangeSpec := { name := "modelRises", fn := fun _ => fun
  | [d] => { results := [.lit (.bool false)], args := [d] }
  | _ => none }
def ModelRisesWrongFalsely : Prop := modelRisesRow.holds Try.pinned (OpenSpec.ofChange modelRisesWrong)

/-- 'varvelaw25.ModelNone': WHATEVER THE INPUT: true; the input reads as it did. -/
def modelNoneSpec : ChangeSpec := { name := "modelNone", fn := fun _ => fun
  | [d1, d2] => { results := [.lit (.bool true)], args := [d1, d2] }
  | _ => none }
def modelNoneRow : OpenClaim := { program := "ytjaecdcddmohoaa", sum := "441c1d36108f0d17adfaded56bb6e8503308b6da9fcd20c5d035dc5efc378e27", func := "varve/varvelaw25.ModelNone", spec := "modelNone", apart := false }
def ModelNoneSaid : Prop := modelNoneRow.holds Try.pinned (OpenSpec.ofChange modelNoneSpec)

/-- ITS FALSE NEIGHBOUR: 'it returns false'. Refute it at one input. -/
def modelNoneWrong : ChangeSpec := { name := "modelNone", fn := fun _ => fun
  | [d1, d2] => { results := [.lit (.bool false)], args := [d1, d2] }
  | _ => none }
def ModelNoneWrongFalsely : Prop := modelNoneRow.holds Try.pinned (OpenSpec.ofChange modelNoneWrong)

/- THE SECOND FORM. 'bulk': how many values and letters a reading holds, each counted each time it is reached (what is shared counts as often as it is met; a slice's spare places count too). A statement '..UptoSaid' is the law's where the arguments, and the package variables that the reading takes, are together of bulk at most 1048576: NARROWER than '..Said'. Prove '..Said' where nothing that the law and all that it calls make is longer than what came in: it says more and counts as full. Else prove '..UptoSaid'. A law counts once. -/
mutual
def uptoBulk {H : Type} : DataW H → Nat
  | .lit (.string bytes) => bytes.length + 1
  | .lit _ => 1
  | .nil => 1
  | .ptr d => uptoBulk d + 1
  | .slice elems spare => uptoBulkAll elems + uptoBulkAll spare + 1
  | .agg parts => uptoBulkAll parts + 1
  | .iface _ d => uptoBulk d + 1
  | .map entries => uptoBulkEntries entries + 1
  | .held _ => 1
def uptoBulkAll {H : Type} : List (DataW H) → Nat
  | [] => 0
  | d :: r => uptoBulk d + uptoBulkAll r
def uptoBulkEntries {H : Type} : List (Lit × DataW H) → Nat
  | [] => 0
  | x :: r => uptoBulkEntry x + uptoBulkEntries r
def uptoBulkEntry {H : Type} : Lit × DataW H → Nat
  | (.string bytes, d) => bytes.length + uptoBulk d + 1
  | (_, d) => uptoBulk d + 1
 end
def uptoSmall : (H : Type) → List (DataW H) → Bool := fun _ ds => decide (uptoBulkAll ds ≤ 1048576)
def OpenSpec.upto (s : _root_.Go.ChangeSpec) : _root_.Go.OpenSpec := { _root_.Go.OpenSpec.ofChange s with cond := some uptoSmall }

/-- 'varvelaw25.ModelPlays', WHERE WHAT IT READS IS OF BULK AT MOST 1048576: true; the input reads as it did. -/
def modelPlaysUptoRow : OpenClaim := { program := "ytjaecdcddmohoaa", sum := "441c1d36108f0d17adfaded56bb6e8503308b6da9fcd20c5d035dc5efc378e27", func := "varve/varvelaw25.ModelPlays", spec := "modelPlays", recurses := true, apart := false, narrowed := true }
def ModelPlaysUptoSaid : Prop := modelPlaysUptoRow.holds Try.pinned (OpenSpec.upto modelPlaysSpec)

/-- 'varvelaw25.ModelSnapshots', WHERE WHAT IT READS IS OF BULK AT MOST 1048576: true; the input reads as it did. -/
def modelSnapshotsUptoRow : OpenClaim := { program := "ytjaecdcddmohoaa", sum := "441c1d36108f0d17adfaded56bb6e8503308b6da9fcd20c5d035dc5efc378e27", func := "varve/varvelaw25.ModelSnapshots", spec := "modelSnapshots", apart := false, narrowed := true }
def ModelSnapshotsUptoSaid : Prop := modelSnapshotsUptoRow.holds Try.pinned (OpenSpec.upto modelSnapshotsSpec)

/-- 'varvelaw25.ModelFirst', WHERE WHAT IT READS IS OF BULK AT MOST 1048576: true; the input reads as it did. -/
def modelFirstUptoRow : OpenClaim := { program := "ytjaecdcddmohoaa", sum := "441c1d36108f0d17adfaded56bb6e8503308b6da9fcd20c5d035dc5efc378e27", func := "varve/varvelaw25.ModelFirst", spec := "modelFirst", apart := false, narrowed := true }
def ModelFirstUptoSaid : Prop := modelFirstUptoRow.holds Try.pinned (OpenSpec.upto modelFirstSpec)

/-- 'varvelaw25.ModelApart', WHERE WHAT IT READS IS OF BULK AT MOST 1048576: true; the input reads as it did. -/
def modelApartUptoRow : OpenClaim := { program := "ytjaecdcddmohoaa", sum := "441c1d36108f0d17adfaded56bb6e8503308b6da9fcd20c5d035dc5efc378e27", func := "varve/varvelaw25.ModelApart", spec := "modelApart", apart := false, narrowed := true }
def ModelApartUptoSaid : Prop := modelApartUptoRow.holds Try.pinned (OpenSpec.upto modelApartSpec)

/-- 'varvelaw25.ModelRises', WHERE WHAT IT READS IS OF BULK AT MOST 1048576: true; the input reads as it did. -/
def modelRisesUptoRow : OpenClaim := { program := "ytjaecdcddmohoaa", sum := "441c1d36108f0d17adfaded56bb6e8503308b6da9fcd20c5d035dc5efc378e27", func := "varve/varvelaw25.ModelRises", spec := "modelRises", apart := false, narrowed := true }
def ModelRisesUptoSaid : Prop := modelRisesUptoRow.holds Try.pinned (OpenSpec.upto modelRisesSpec)

/-- 'varvelaw25.ModelNone', WHERE WHAT IT READS IS OF BULK AT MOST 1048576: true; the input reads as it did. -/
def modelNoneUptoRow : OpenClaim := { program := "ytjaecdcddmohoaa", sum := "441c1d36108f0d17adfaded56bb6e8503308b6da9fcd20c5d035dc5efc378e27", func := "varve/varvelaw25.ModelNone", spec := "modelNone", apart := false, narrowed := true }
def ModelNoneUptoSaid : Prop := modelNoneUptoRow.holds Try.pinned (OpenSpec.upto modelNoneSpec)

end Rows
end Go.Proofs.Ytjaecdcddmohoaa
