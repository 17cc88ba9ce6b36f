/- The walk of DeltaComposes. -/
import Derived.Test.YtlnfolikociodaaRefComposeW
namespace Go.Proofs.Ytlnfolikociodaa
open Go.RowKit
set_option linter.unusedSimpArgs false
set_option maxRecDepth 100000 in
set_option maxHeartbeats 4000000 in
theorem composes_walk (d e : ByteArray) (hd : d.size ≤ 140737488351232) (he : e.size ≤ 140737488351232) (w : World) :
    Calls Try.prog 7 #[.string d, .string e] w fun r w' => r = .returned (.bool true) ∧ Below w.heap.size w w' := by
  by_cases hv : (read 0 (bl d)).2 = true ∧ (read 0 (bl e)).2 = true
  · have hA : coV d e = .tuple #[.string (str (pc (coT d e) (coB d e) 0)), .int .i64 0] := by rw [coV, if_pos hv]
    have hR : rcV d e = .tuple #[.string (str (pc (coT d e) (coB d e) 0)), .bool true] := by rw [rcV, if_pos hv]
    generalize str (pc (coT d e) (coB d e) 0) = L at *
    replace hA := hid hA
    replace hR := hid hR
    clear hv
    go_enter Try.func7, Try.ntmps7
    go_wp2_with (first
      | (go_at_call 16; refine (compose_any d e hd he _).mono ?_; rintro r w1 ⟨rfl, hb1⟩; rw [hA.out])
      | (go_at_call 17; refine (refcompose_any d e hd he _).mono ?_; rintro r w2 ⟨rfl, hb2⟩; rw [hR.out])
      | (go_at_call 12; refine (awake_any _).mono ?_; rintro r w3 ⟨rfl, hb3⟩))
    go_ret
    exact ⟨rfl, below_go (below_go hb1 hb2) hb3⟩
  · have hA : coV d e = .tuple #[.string ByteArray.empty, .int .i64 2] := by rw [coV, if_neg hv]
    have hR : rcV d e = .tuple #[.string ByteArray.empty, .bool false] := by rw [rcV, if_neg hv]
    generalize ByteArray.empty = L at *
    replace hA := hid hA
    replace hR := hid hR
    clear hv
    go_enter Try.func7, Try.ntmps7
    go_wp2_with (first
      | (go_at_call 16; refine (compose_any d e hd he _).mono ?_; rintro r w1 ⟨rfl, hb1⟩; rw [hA.out])
      | (go_at_call 17; refine (refcompose_any d e hd he _).mono ?_; rintro r w2 ⟨rfl, hb2⟩; rw [hR.out])
      | (go_at_call 12; refine (awake_any _).mono ?_; rintro r w3 ⟨rfl, hb3⟩))
    go_ret
    exact ⟨rfl, below_go (below_go hb1 hb2) hb3⟩
end Go.Proofs.Ytlnfolikociodaa
