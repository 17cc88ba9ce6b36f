/- For any reads and writes: transactions one behind the other, each of which reads what was committed last, show nothing. No condition. -/
import Derived.Test.YtnemaolbmocncaaRows
import Derived.Test.YtnemaolbmocncaaSerW
import Derived.WalkKit
import Derived.ProofKit
import Derived.OpenShut
import Derived.ShutString
import Derived.Carry
namespace Go.Proofs.Ytnemaolbmocncaa.histSerial
open Go.ChangeShapes Go.WideShapes Go.ChangeAt Go.RowKit
open Go.ChangeMaps (open_string shut_string)
set_option linter.unusedVariables false

theorem own : ownKnob Try.prog.godebug = none := by kernel_rfl
theorem laidOut : laidOutB Try.prog = true := by kernel_rfl

/-! ### The walk -/
set_option maxRecDepth 100000 in
set_option maxHeartbeats 4000000 in
theorem walk (ao0 : Option Addr) (cap0 : Nat) (L0 : List Row8) (ao1 : Option Addr) (cap1 : Nat) (L1 : List Row8) (w : World) (o0 : R8At w ao0 L0) (m0 : L0.length ≤ maxLen) (q0 : L0.length ≤ cap0 ∧ (ao0 = none → cap0 = 0)) (o1 : R8At w ao1 L1) (m1 : L1.length ≤ maxLen) (q1 : L1.length ≤ cap1 ∧ (ao1 = none → cap1 = 0)) :
    Calls Try.prog 5 #[.slice ao0 L0.length cap0, .slice ao1 L1.length cap1] w fun e w' => e = .returned (.bool true) ∧ Below w.heap.size w w' := by
  exact serial_walk ao0 cap0 L0 ao1 cap1 L1 w o0 q0.1 m0 o1 q1.1 m1

/-! ### The row's step -/
set_option maxRecDepth 100000 in
theorem lifted (os : Os) (started : os.Started) (H : Type) (enc : TypeId × Value → H) :
    ReturnsInHanded {} Try.checked os 5 .any (Rows.histSerialSpec.pre6 enc Try.prog Try.f5 Rows.histSerialRow.domain false) (Rows.histSerialSpec.post enc Try.prog Try.f5 false true false false) := by
  refine returnsInHanded_of_change (C := Try.checked) own started (by kernel_rfl) Try.func5
    (ChangeSpec.witness6 (enc := enc) (C := Try.checked) false ⟨#[], #[.slice none 0 0, .slice none 0 0], []⟩ 8 (by kernel_rfl) (by kernel_rfl) (by kernel_rfl) (by kernel_rfl)) ?_
  intro W base args ds gs before hval0 hW hcnd _
  have hval : ∀ (j : Nat) t v, Try.f5.params[j]? = some t → args[j]? = some v → Value.okWide Try.prog W .any base t v := hval0
  have hW' := hW
  obtain ⟨p, q, hA0, hV, rfl, hfz, hnd⟩ := hW
  have hA : DataW.TrodAll enc Try.prog W 0 (fun _ => true) true Try.f5.params.toList args.toList ds p := hA0
  rw [Try.params5] at hA hval
  obtain ⟨v0, vs0, d0, ds0, p0, q0, hargs, rfl, rfl, h0, r0⟩ := trodAll_cons hA
  obtain ⟨v1, vs1, d1, ds1, p1, q1, rfl, rfl, rfl, h1, r1⟩ := trodAll_cons r0
  obtain ⟨rfl, rfl, rfl⟩ := trodAll_nil r1
  obtain rfl : args = #[v0, v1] := by cases args; simp_all
  obtain ⟨rfl, rfl⟩ := trodVars_none hV
  have k0 := h0
  have lt0 : ∀ x ∈ p0, x.block < W.heap.size := by obtain ⟨m, hm⟩ := k0; exact DataW.trod_lt m _ _ _ hm
  obtain ⟨ao0, cap0, L0, rfl, o0, q0, m0⟩ := open_rows8 (hval 0 38 v0 rfl rfl) h0
  have k1 := h1
  have lt1 : ∀ x ∈ p1, x.block < W.heap.size := by obtain ⟨m, hm⟩ := k1; exact DataW.trod_lt m _ _ _ hm
  obtain ⟨ao1, cap1, L1, rfl, o1, q1, m1⟩ := open_rows8 (hval 1 38 v1 rfl rfl) h1
  clear hA0 hval0
  refine (walk ao0 cap0 L0 ao1 cap1 L1 W o0 m0 q0 o1 m1 q1).mono fun e W' ⟨he, bel⟩ => ?_
  subst he
  exact ⟨_, rfl, _, _, _, [], _, [], hW', trodAll_mk1 (shut_bool Try.underlying4 _), (trodAll_cons_mk (Below.trod laidOut (by kernel_rfl) (of_decide_eq_true (by kernel_rfl)) k0 bel lt0) (trodAll_cons_mk (Below.trod laidOut (by kernel_rfl) (of_decide_eq_true (by kernel_rfl)) k1 bel lt1) trodAll_mk0)), rfl, bel.frame _, fun h => by cases h⟩

theorem over : Rows.histSerialRow.holds Try.pinned (OpenSpec.ofChange Rows.histSerialSpec) :=
  OpenClaim.holds_of_wide 5 Try.f5 rfl rfl rfl rfl rfl rfl rfl ⟨rfl, rfl, rfl, rfl, rfl⟩ rfl rfl rfl rfl rfl (by kernel_rfl) Try.func5 (by kernel_rfl)
    (of_decide_eq_true (by kernel_rfl)) (by unfold Func.isWrapper; first | (rw [if_pos (by decide +kernel)]; kernel_rfl) | (rw [if_neg (by decide +kernel)]; exact ⟨rfl, rfl⟩))
    (fun os started H enc _ => lifted os started H enc)

/-- The statement. -/
theorem proved : Rows.HistSerialSaid := over
#print axioms proved
end Go.Proofs.Ytnemaolbmocncaa.histSerial
