/- For any two sums, any length and any two texts: Join answers as the document's reference does, and joins the sums of two texts to the sum of both; the arguments read behind the call as they did. No condition. -/
import Derived.Test.YtkhlgfmldpgebaaRows
import Derived.Test.YtkhlgfmldpgebaaWalks
import Derived.ProofKit
import Derived.OpenShut
import Derived.ShutString
namespace Go.Proofs.Ytkhlgfmldpgebaa.crcJoins
open Crc
open Go.ChangeShapes Go.WideShapes Go.ChangeAt Go.RowKit
open Go.ChangeMaps (open_string shut_string)
set_option linter.unusedVariables false      -- a walk need not use every 'w<i>' (that an integer argument fits its kind)

theorem own : ownKnob Try.prog.godebug = none := by kernel_rfl

theorem int_U {x : Int} (h : (Lit.int .u32 x).wf = true) : ∃ b : BitVec 32, x = U b := ⟨BitVec.ofInt 32 x, by
  simp [Lit.wf, IntKind.min, IntKind.max, IntKind.signed, IntKind.bits] at h
  unfold U; rw [BitVec.toNat_ofInt]; omega⟩
theorem i64_lt {x : Int} (h : (Lit.int .i64 x).wf = true) : x < 9223372036854775808 := by
  simp [Lit.wf, IntKind.min, IntKind.max, IntKind.signed, IntKind.bits] at h
  omega
theorem size_lt {s : ByteArray} (h : s.size ≤ maxLen) : (s.size : Int) < 9223372036854775808 := by unfold maxLen at h; omega
/-! ### STEP 1: THE WALK: the Go text returns true. 'Grown w w'': the world has at most new blocks (Derived/RowKit3.lean). Part the cases AHEAD of 'go_enter' where a test parts the walk; take each callee by a contract of your own. -/
set_option maxRecDepth 100000 in
set_option maxHeartbeats 1000000 in
theorem walk (a0 : Int) (a1 : Int) (a2 : Int) (a3 : ByteArray) (a4 : ByteArray) (w0 : (Lit.int .u32 a0).wf = true) (w1 : (Lit.int .u32 a1).wf = true) (w2 : (Lit.int .i64 a2).wf = true) (w3 : a3.size ≤ maxLen) (w4 : a4.size ≤ maxLen) (w : World) :
    Calls Try.prog 5 #[.int .u32 a0, .int .u32 a1, .int .i64 a2, .string a3, .string a4] w fun e w' => e = .returned (.bool true) ∧ Grown w w' := by
  unfold maxLen at w3 w4
  obtain ⟨x, rfl⟩ := int_U w0
  obtain ⟨y, rfl⟩ := int_U w1
  have Hn := hid w2
  clear w0 w1 w2
  by_cases hl : a3.size ≤ 4096 ∧ a4.size ≤ 4096
  · obtain ⟨hl0, hl1⟩ := hl
    have hm0 : a3.size ≤ maxLen := w3
    have hm1 : a4.size ≤ maxLen := w4
    have hm2 : (a3 ++ a4).size ≤ maxLen := by rw [ByteArray.size_append]; unfold maxLen; omega
    have Hm0 := hid hm0
    have Hm1 := hid hm1
    have Hm2 := hid hm2
    clear hm0 hm1 hm2 w3 w4
    have e1 : (U (join (sum (bs a3)) (sum (bs a4)) a4.size) == U (sum (bs (a3 ++ a4)))) = true := by
      rw [show bs (a3 ++ a4) = bs a3 ++ bs a4 by simp [bs], ← join_sum, bs_length]
      simp
    by_cases h2 : a2 ≤ 4096
    · go_enter Try.func5, Try.ntmps5
      go_wp2_with (first
        | (go_at_call 14; refine (join_any _ _ _ (by first | exact i64_lt Hn.out | exact size_lt Hm1.out) _).mono ?_; rintro e w' ⟨rfl, rfl⟩)
        | (go_at_call 15; refine (refjoin_any _ _ _ (by assumption) _).mono ?_; rintro e w' ⟨rfl, rfl⟩)
        | (go_at_call 10; refine (sum_any _ (by first | exact Hm0.out | exact Hm1.out | exact Hm2.out) _).mono ?_; rintro e w' ⟨rfl, rfl⟩))
      go_ret
      exact ⟨rfl, Grown.refl _⟩
    · go_enter Try.func5, Try.ntmps5
      go_wp2_with (first
        | (go_at_call 14; refine (join_any _ _ _ (by first | exact i64_lt Hn.out | exact size_lt Hm1.out) _).mono ?_; rintro e w' ⟨rfl, rfl⟩)
        | (go_at_call 15; refine (refjoin_any _ _ _ (by omega) _).mono ?_; rintro e w' ⟨rfl, rfl⟩)
        | (go_at_call 10; refine (sum_any _ (by first | exact Hm0.out | exact Hm1.out | exact Hm2.out) _).mono ?_; rintro e w' ⟨rfl, rfl⟩))
      go_ret
      exact ⟨rfl, Grown.refl _⟩
  · by_cases hl0 : a3.size ≤ 4096
    · have hl1 : ¬ a4.size ≤ 4096 := fun h => hl ⟨hl0, h⟩
      clear hl
      go_enter Try.func5, Try.ntmps5
      go_wp2_with (go_at_call 9; refine (awake_any _).mono ?_; rintro e w' ⟨rfl, rfl⟩)
      go_ret
      exact ⟨rfl, Grown.refl _⟩
    · clear hl
      go_enter Try.func5, Try.ntmps5
      go_wp2_with (go_at_call 9; refine (awake_any _).mono ?_; rintro e w' ⟨rfl, rfl⟩)
      go_ret
      exact ⟨rfl, Grown.refl _⟩

/-! ### THE ROW's STEP: WRITTEN OUT: LEAVE IT -/
set_option maxRecDepth 100000 in
theorem lifted (os : Os) (started : os.Started) (H : Type) (enc : TypeId × Value → H) :
    ReturnsInHanded {} Try.checked os 5 .any (Rows.crcJoinsSpec.pre6 enc Try.prog Try.f5 Rows.crcJoinsRow.domain false) (Rows.crcJoinsSpec.post enc Try.prog Try.f5 false true false false) := by
  refine returnsInHanded_of_change (C := Try.checked) own started (by kernel_rfl) Try.func5
    (ChangeSpec.witness6 (enc := enc) (C := Try.checked) false ⟨#[], #[.int .u32 0, .int .u32 0, .int .i64 0, .string ByteArray.empty, .string ByteArray.empty], []⟩ 8 (by kernel_rfl) (by kernel_rfl) (by kernel_rfl) (by kernel_rfl)) ?_
  intro W base args ds gs before hval0 hW hcnd _
  have hval : ∀ (j : Nat) t v, Try.f5.params[j]? = some t → args[j]? = some v → Value.okWide Try.prog W .any base t v := hval0
  have hW' := hW
  obtain ⟨p, q, hA0, hV, rfl, hfz, hnd⟩ := hW
  have hA : DataW.TrodAll enc Try.prog W 0 (fun _ => true) true Try.f5.params.toList args.toList ds p := hA0
  rw [Try.params5] at hA hval
  obtain ⟨v0, vs0, d0, ds0, p0, q0, hargs, rfl, rfl, h0, r0⟩ := trodAll_cons hA
  obtain ⟨v1, vs1, d1, ds1, p1, q1, rfl, rfl, rfl, h1, r1⟩ := trodAll_cons r0
  obtain ⟨v2, vs2, d2, ds2, p2, q2, rfl, rfl, rfl, h2, r2⟩ := trodAll_cons r1
  obtain ⟨v3, vs3, d3, ds3, p3, q3, rfl, rfl, rfl, h3, r3⟩ := trodAll_cons r2
  obtain ⟨v4, vs4, d4, ds4, p4, q4, rfl, rfl, rfl, h4, r4⟩ := trodAll_cons r3
  obtain ⟨rfl, rfl, rfl⟩ := trodAll_nil r4
  obtain rfl : args = #[v0, v1, v2, v3, v4] := by cases args; simp_all
  obtain ⟨rfl, rfl⟩ := trodVars_none hV
  obtain ⟨a0, rfl, rfl, rfl, w0⟩ := open_int Try.underlying22 (hval 0 22 v0 rfl rfl) h0
  obtain ⟨a1, rfl, rfl, rfl, w1⟩ := open_int Try.underlying22 (hval 1 22 v1 rfl rfl) h1
  obtain ⟨a2, rfl, rfl, rfl, w2⟩ := open_int Try.underlying3 (hval 2 3 v2 rfl rfl) h2
  obtain ⟨a3, rfl, rfl, rfl, w3⟩ := open_string Try.underlying9 (hval 3 9 v3 rfl rfl) h3
  obtain ⟨a4, rfl, rfl, rfl, w4⟩ := open_string Try.underlying9 (hval 4 9 v4 rfl rfl) h4
  clear hA0 hval0
  simp only [List.append_nil] at hW'
  refine (walk a0 a1 a2 a3 a4 w0 w1 w2 w3 w4 W).mono fun e W' ⟨he, hg⟩ => ?_
  subst he
  exact ⟨_, rfl, post_of_same (pa := []) (pv := []) hW' (fun _ _ _ => (trodAll_cons_mk (shut_bool Try.underlying4 _) trodAll_mk0)) (fun sp _ => (trodAll_cons_mk (shut_int Try.underlying22 w0) (trodAll_cons_mk (shut_int Try.underlying22 w1) (trodAll_cons_mk (shut_int Try.underlying3 w2) (trodAll_cons_mk (shut_string Try.underlying9 w3) (trodAll_cons_mk (shut_string Try.underlying9 w4) trodAll_mk0)))))) (fun _ _ => rfl) rfl
    (hg.frame _) hg.2.1 (ok_one (by kernel_rfl) rfl (okWide_bool_mk Try.underlying4 _))⟩

theorem over : Rows.crcJoinsRow.holds Try.pinned (OpenSpec.ofChange Rows.crcJoinsSpec) :=
  OpenClaim.holds_of_wide 5 Try.f5 rfl rfl rfl rfl rfl rfl rfl ⟨rfl, rfl, rfl, rfl, rfl⟩ rfl rfl rfl rfl rfl (by kernel_rfl) Try.func5 (by kernel_rfl)
    (of_decide_eq_true (by kernel_rfl)) (by unfold Func.isWrapper; first | (rw [if_pos (by decide +kernel)]; kernel_rfl) | (rw [if_neg (by decide +kernel)]; exact ⟨rfl, rfl⟩))
    (fun os started H enc _ => lifted os started H enc)

/-- ████ THE STATEMENT ████ -/
theorem proved : Rows.CrcJoinsSaid :=
  over
#print axioms proved
end Go.Proofs.Ytkhlgfmldpgebaa.crcJoins
