/- The walk of DeltaThree. -/
import Derived.Test.YtlnfolikociodaaCoL
import Derived.Test.YtlnfolikociodaaCanon
namespace Go.Proofs.Ytlnfolikociodaa
open Go.RowKit
set_option linter.unusedSimpArgs false
theorem coT_or (d e : ByteArray) (j : Nat) : coT d e j = (marks (fun _ => false) (read 0 (bl d)).1 j || marks (fun _ => false) (read 0 (bl e)).1 j) := by
  unfold coT; rw [marks_or]
theorem coB_if (d e : ByteArray) (j : Nat) : coB d e j = if marks (fun _ => false) (read 0 (bl e)).1 j = true then puts (fun _ => 0#8) (read 0 (bl e)).1 j else puts (fun _ => 0#8) (read 0 (bl d)).1 j := by
  unfold coB; rw [puts_eq j _ _ (fun _ => 0#8)]
theorem three_assoc (d e f : ByteArray) : coL (coL d e) f = coL d (coL e f) := by
  obtain ⟨_, h1, h2⟩ := coL_read d e
  obtain ⟨_, k1, k2⟩ := coL_read e f
  unfold coL at h1 h2 k1 k2 ⊢
  congr 1
  refine pc_congr (fun j hj => ?_) (fun j hj ht => ?_) 64 0 (by omega)
  · rw [coT_or, coT_or, h2 _ j hj, k2 _ j hj, coT_or, coT_or]
    cases marks (fun _ => false) (read 0 (bl d)).1 j <;> cases marks (fun _ => false) (read 0 (bl e)).1 j <;> cases marks (fun _ => false) (read 0 (bl f)).1 j <;> rfl
  · rw [coB_if, coB_if, h1 _ j hj, k1 _ j hj, k2 _ j hj, coT_or e f, coB_if e f, coT_or d e, coB_if d e]
    rw [coT_or, h2 _ j hj, coT_or d e] at ht
    revert ht
    cases marks (fun _ => false) (read 0 (bl d)).1 j <;> cases marks (fun _ => false) (read 0 (bl e)).1 j <;> cases marks (fun _ => false) (read 0 (bl f)).1 j <;> simp
theorem bl_none : bl ⟨#[]⟩ = [] := rfl
theorem three_self {d : ByteArray} (h : (read 0 (bl d)).2 = true) : coL d ⟨#[]⟩ = d ∧ coL ⟨#[]⟩ d = d := by
  have hr : read 0 (bl d) = ((read 0 (bl d)).1, true) := Prod.ext rfl h
  have hc := (canon (bl d).length (bl d) 0 _ (Nat.le_refl _) hr).2 0
  have e1 := hc (coT d ⟨#[]⟩) (coB d ⟨#[]⟩) (Nat.le_refl _) (fun j _ _ => by unfold coT; rw [bl_none, read_nil]; rfl) (fun j _ _ _ => by unfold coB; rw [bl_none, read_nil]; rfl)
  have e2 := hc (coT ⟨#[]⟩ d) (coB ⟨#[]⟩ d) (Nat.le_refl _) (fun j _ _ => by unfold coT; rw [bl_none, read_nil]; rfl) (fun j _ _ _ => by unfold coB; rw [bl_none, read_nil]; rfl)
  unfold coL
  rw [e1, e2, str_bl]
  exact ⟨rfl, rfl⟩
theorem coV_yes {d e : ByteArray} (h1 : (read 0 (bl d)).2 = true) (h2 : (read 0 (bl e)).2 = true) : coV d e = .tuple #[.string (coL d e), .int .i64 0] := by rw [coV, if_pos ⟨h1, h2⟩]; rfl
set_option maxRecDepth 100000 in
set_option maxHeartbeats 4000000 in
theorem three_yes (d e f : ByteArray) (hd : d.size ≤ 140737488351232) (he : e.size ≤ 140737488351232) (hf : f.size ≤ 140737488351232) (v1 : (read 0 (bl d)).2 = true) (v2 : (read 0 (bl e)).2 = true) (v3 : (read 0 (bl f)).2 = true) (w : World) :
    Calls Try.prog 8 #[.string d, .string e, .string f] w fun r w' => r = .returned (.bool true) ∧ Below w.heap.size w w' := by
  have V1 := hid v1
  have V2 := hid v2
  have V3 := hid v3
  have c1 := hid (coV_yes v1 v2)
  have c2 := hid (coV_yes v2 v3)
  have c3 := coV_yes (coL_read d e).1 v3
  rw [three_assoc] at c3
  replace c3 := hid c3
  have c4 := hid (coV_yes v1 (coL_read e f).1)
  have c5 : coV d ⟨#[]⟩ = .tuple #[.string d, .int .i64 0] := by rw [coV_yes v1 (by decide +kernel), (three_self v1).1]
  have c6 : coV ⟨#[]⟩ d = .tuple #[.string d, .int .i64 0] := by rw [coV_yes (by decide +kernel) v1, (three_self v1).2]
  replace c5 := hid c5
  replace c6 := hid c6
  have z1 : (coL d e).size ≤ 140737488351232 := Nat.le_trans (coL_size d e) (by omega)
  have z2 : (coL e f).size ≤ 140737488351232 := Nat.le_trans (coL_size e f) (by omega)
  have z3 : (⟨#[]⟩ : ByteArray).size ≤ 140737488351232 := by decide
  clear v1 v2 v3
  generalize coL d (coL e f) = x at *
  generalize coL d e = de at *
  generalize coL e f = ef at *
  have hm : ∀ (n : Nat), True := fun _ => trivial
  go_enter Try.func8, Try.ntmps8
  go_wp2_with fail
  refine (check_any d hd _).mono ?_
  rintro r w1 ⟨rfl, hb1⟩
  rw [V1.out]
  go_wp2_with fail
  refine (check_any e he _).mono ?_
  rintro r w2 ⟨rfl, hb2⟩
  rw [V2.out]
  go_wp2_with fail
  refine (check_any f hf _).mono ?_
  rintro r w3 ⟨rfl, hb3⟩
  rw [V3.out]
  go_wp2_with fail
  refine (compose_any d e hd he _).mono ?_
  rintro r w4 ⟨rfl, hb4⟩
  rw [c1.out]
  go_wp2_with fail
  refine (compose_any e f he hf _).mono ?_
  rintro r w5 ⟨rfl, hb5⟩
  rw [c2.out]
  go_wp2_with fail
  refine (compose_any de f z1 hf _).mono ?_
  rintro r w6 ⟨rfl, hb6⟩
  rw [c3.out]
  go_wp2_with fail
  refine (compose_any d ef hd z2 _).mono ?_
  rintro r w7 ⟨rfl, hb7⟩
  rw [c4.out]
  go_wp2_with fail
  refine (compose_any d ⟨#[]⟩ hd z3 _).mono ?_
  rintro r w8 ⟨rfl, hb8⟩
  rw [c5.out]
  go_wp2_with fail
  refine (compose_any ⟨#[]⟩ d z3 hd _).mono ?_
  rintro r w9 ⟨rfl, hb9⟩
  rw [c6.out]
  go_wp2_with fail
  refine (awake_any _).mono ?_
  rintro r w10 ⟨rfl, hb10⟩
  go_wp2_with fail
  go_ret
  exact ⟨rfl, below_go (below_go (below_go (below_go (below_go (below_go (below_go (below_go (below_go hb1 hb2) hb3) hb4) hb5) hb6) hb7) hb8) hb9) hb10⟩
set_option maxRecDepth 100000 in
set_option maxHeartbeats 4000000 in
theorem three_no (d e f : ByteArray) (hd : d.size ≤ 140737488351232) (he : e.size ≤ 140737488351232) (hf : f.size ≤ 140737488351232)
    (v : (read 0 (bl d)).2 = false ∨ ((read 0 (bl d)).2 = true ∧ ((read 0 (bl e)).2 = false ∨ ((read 0 (bl e)).2 = true ∧ (read 0 (bl f)).2 = false)))) (w : World) :
    Calls Try.prog 8 #[.string d, .string e, .string f] w fun r w' => r = .returned (.bool true) ∧ Below w.heap.size w w' := by
  rcases v with v1 | ⟨v1, v2 | ⟨v2, v3⟩⟩
  · replace v1 := hid v1
    go_enter Try.func8, Try.ntmps8
    go_wp2_with fail
    refine (check_any d hd _).mono ?_
    rintro r w1 ⟨rfl, hb1⟩
    rw [v1.out]
    go_wp2_with fail
    refine (awake_any _).mono ?_
    rintro r w10 ⟨rfl, hb10⟩
    go_wp2_with fail
    go_ret
    exact ⟨rfl, below_go hb1 hb10⟩
  · replace v1 := hid v1
    replace v2 := hid v2
    go_enter Try.func8, Try.ntmps8
    go_wp2_with fail
    refine (check_any d hd _).mono ?_
    rintro r w1 ⟨rfl, hb1⟩
    rw [v1.out]
    go_wp2_with fail
    refine (check_any e he _).mono ?_
    rintro r w2 ⟨rfl, hb2⟩
    rw [v2.out]
    go_wp2_with fail
    refine (awake_any _).mono ?_
    rintro r w10 ⟨rfl, hb10⟩
    go_wp2_with fail
    go_ret
    exact ⟨rfl, below_go (below_go hb1 hb2) hb10⟩
  · replace v1 := hid v1
    replace v2 := hid v2
    replace v3 := hid v3
    go_enter Try.func8, Try.ntmps8
    go_wp2_with fail
    refine (check_any d hd _).mono ?_
    rintro r w1 ⟨rfl, hb1⟩
    rw [v1.out]
    go_wp2_with fail
    refine (check_any e he _).mono ?_
    rintro r w2 ⟨rfl, hb2⟩
    rw [v2.out]
    go_wp2_with fail
    refine (check_any f hf _).mono ?_
    rintro r w3 ⟨rfl, hb3⟩
    rw [v3.out]
    go_wp2_with fail
    refine (awake_any _).mono ?_
    rintro r w10 ⟨rfl, hb10⟩
    go_wp2_with fail
    go_ret
    exact ⟨rfl, below_go (below_go (below_go hb1 hb2) hb3) hb10⟩
theorem three_walk (d e f : ByteArray) (hd : d.size ≤ 140737488351232) (he : e.size ≤ 140737488351232) (hf : f.size ≤ 140737488351232) (w : World) :
    Calls Try.prog 8 #[.string d, .string e, .string f] w fun r w' => r = .returned (.bool true) ∧ Below w.heap.size w w' := by
  cases v1 : (read 0 (bl d)).2
  · exact three_no d e f hd he hf (.inl v1) w
  · cases v2 : (read 0 (bl e)).2
    · exact three_no d e f hd he hf (.inr ⟨v1, .inl v2⟩) w
    · cases v3 : (read 0 (bl f)).2
      · exact three_no d e f hd he hf (.inr ⟨v1, .inr ⟨v2, v3⟩⟩) w
      · exact three_yes d e f hd he hf v1 v2 v3 w
end Go.Proofs.Ytlnfolikociodaa
