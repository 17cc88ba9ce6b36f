/- The walk of HistChecks. -/
import Derived.Test.YtnemaolbmocncaaSameW
import Derived.Test.YtnemaolbmocncaaTurnedW
import Derived.Test.YtnemaolbmocncaaFindsP
namespace Go.Proofs.Ytnemaolbmocncaa
open Go.RowKit
set_option linter.unusedSimpArgs false
set_option linter.unusedVariables false
attribute [local irreducible] wpList
theorem chk_two (L : List P.Pst) : P.chk L = (0, 1) ∨ ∃ n, P.chk L = (n, 0) := by
  classical
  unfold P.chk
  split
  · exact .inl rfl
  · exact .inr ⟨_, rfl⟩
set_option maxRecDepth 100000 in
set_option maxHeartbeats 16000000 in
theorem checks_walk (ao : Option Addr) (cap : Nat) (R : List Rec) (w : World) (h : AAt w ao R) (hcap : R.length ≤ cap) (hmx : R.length ≤ maxLen) :
    Calls Try.prog 3 #[.slice ao R.length cap] w fun e w' => e = .returned (.bool true) ∧ Below w.heap.size w w' := by
  go_enter Try.func3, Try.ntmps3
  go_upto_region 1 with (fail)
  refine no_implicit_lambda% (wp_region_lit ?_)
  refine no_implicit_lambda% (wpl_val ?_ rfl ?_ ?_)
  rotate_left
  · (go_simp; (try with_reducible rfl))
  (try simp only [Act.put, Z1, Z2, Z4, Z5, Z6])
  have hce := few_any h hcap hmx
  refine wpl_call _ _ rfl (by go_simp) _ hce ?_
  rintro e w1 ⟨v1, R1, rfl, hO1, hR1, hN1, hb1⟩
  refine ⟨_, rfl, ?_⟩
  clear hce
  (try simp only [Act.put, Z1, Z2, Z3, Z4, Z5, Z6])
  refine no_implicit_lambda% (wpl_val ?_ rfl ?_ ?_)
  rotate_left
  · (go_simp; (try with_reducible rfl))
  (try simp only [Act.put, Z1, Z2, Z3, Z4, Z5, Z6])
  refine no_implicit_lambda% (wpList_nil ?_)
  have hl9 : R1.length ≤ 9 := by
    have := congrArg List.length hR1
    rw [his_length] at this
    have := fewL_len (his R); omega
  obtain ⟨ao1, cap1, rfl, hc1, hH1⟩ := hO1.at_
  have hmx1 : R1.length ≤ maxLen := by unfold maxLen; omega
  go_upto_region 2 with (fail)
  refine no_implicit_lambda% (wp_region_lit ?_)
  refine no_implicit_lambda% (wpl_val ?_ rfl ?_ ?_)
  rotate_left
  · (go_simp; (try with_reducible rfl))
  (try simp only [Act.put, Z1, Z2, Z4, Z5, Z6])
  have hce := few_any hH1.arg hc1.1 hmx1
  refine wpl_call _ _ rfl (by go_simp) _ hce ?_
  rintro e W5 ⟨v5, R5, rfl, hO5, hR5, hN5, hb5⟩
  refine ⟨_, rfl, ?_⟩
  clear hce
  (try simp only [Act.put, Z1, Z2, Z3, Z4, Z5, Z6])
  refine no_implicit_lambda% (wpl_val ?_ rfl ?_ ?_)
  rotate_left
  · (go_simp; (try with_reducible rfl))
  (try simp only [Act.put, Z1, Z2, Z3, Z4, Z5, Z6])
  refine no_implicit_lambda% (wpList_nil ?_)
  obtain ⟨ao5, cap5, rfl, hc5, hH5⟩ := hO5.at_
  have he : his R5 = his R1 := by rw [hR5, hR1, P.fewL_idem]
  have hl5 : R5.length = R1.length := by rw [← his_length R5, he, his_length]
  clear hR5 hR1 hN1 hN5 hO1 hO5 h hcap hmx hmx1
  have hS := hb1.trans (hb5.mono hb1.size)
  replace hH1 := hH1.below hb5
  clear hb1 hb5
  clear w1
  have hce := check_any hH5 hc5.1 (by omega)
  rw [he] at hce
  have hcr := fun W hW => rcheck_any (cap := cap1) (hH1.below (w' := W) hW) (by omega)
  have htw := chk_two (his R1)
  replace he := Lib.hid he
  replace hl5 := Lib.hid hl5
  generalize P.chk (his R1) = pc at *
  replace hcr := Lib.hid hcr
  obtain ⟨n, m, rfl, hnm⟩ : ∃ n m, pc = (n, m) ∧ Hid ((n = 0 ∧ m = 1) ∨ m = 0) := by
    rcases htw with h1 | ⟨n, h1⟩
    · exact ⟨0, 1, h1, .inl ⟨rfl, rfl⟩⟩
    · exact ⟨n, 0, h1, .inr rfl⟩
  clear htw
  dsimp only at hce hcr
  go_upto_region 3 with (fail)
  refine no_implicit_lambda% (wp_region_lit ?_)
  refine no_implicit_lambda% (wpl_val ?_ rfl ?_ ?_)
  rotate_left
  · (go_simp; (try with_reducible rfl))
  (try simp only [Act.put, Z1, Z2, Z4, Z5, Z6])
  refine wpl_call _ _ rfl (by go_simp) _ hce ?_
  rintro e w2 ⟨rfl, hbc⟩
  refine ⟨_, rfl, ?_⟩
  (try simp only [Act.put, Z1, Z2, Z3, Z4, Z5, Z6])
  iterate 5
    refine no_implicit_lambda% (wpl_val ?_ rfl ?_ ?_)
    rotate_left
    · (go_simp; (try with_reducible rfl))
    (try simp only [Act.put, Z1, Z2, Z3, Z4, Z5, Z6])
  refine no_implicit_lambda% (wpList_nil ?_)
  clear hce
  have hcr2 := hcr.out w2 hbc
  have hH5b := hH5.below hbc
  have hH1b := hH1.below hbc
  replace hS := hS.trans (hbc.mono hS.size)
  clear hcr hH5 hH1 hbc
  clear W5
  go_upto_region 4 with (fail)
  refine no_implicit_lambda% (wp_region_lit ?_)
  refine no_implicit_lambda% (wpl_val ?_ rfl ?_ ?_)
  rotate_left
  · (go_simp; (try with_reducible rfl))
  (try simp only [Act.put, Z1, Z2, Z4, Z5, Z6])
  refine wpl_call _ _ rfl (by go_simp) _ hcr2 ?_
  rintro e w3 ⟨rfl, hbc⟩
  refine ⟨_, rfl, ?_⟩
  (try simp only [Act.put, Z1, Z2, Z3, Z4, Z5, Z6])
  iterate 5
    refine no_implicit_lambda% (wpl_val ?_ rfl ?_ ?_)
    rotate_left
    · (go_simp; (try with_reducible rfl))
    (try simp only [Act.put, Z1, Z2, Z3, Z4, Z5, Z6])
  refine no_implicit_lambda% (wpList_nil ?_)
  clear hcr2
  have hsm := same_any (cap := cap5) (cap' := cap1) (hH5b.below hbc) (hH1b.below hbc) he.out (by have := hl5.out; omega)
  replace hS := hS.trans (hbc.mono hS.size)
  clear hbc hH5b hH1b
  clear w2
  go_upto_region 5 with (fail)
  refine no_implicit_lambda% (wp_region_lit ?_)
  iterate 2
    refine no_implicit_lambda% (wpl_val ?_ rfl ?_ ?_)
    rotate_left
    · (go_simp; (try with_reducible rfl))
    (try simp only [Act.put, Z1, Z2, Z3, Z4, Z5, Z6])
  refine wpl_call _ _ rfl (by go_simp) _ hsm ?_
  rintro e w4 ⟨rfl, hb4⟩
  refine ⟨_, rfl, ?_⟩
  replace hS := hS.trans (hb4.mono hS.size)
  clear hsm hb4
  clear w3
  (try simp only [Act.put, Z1, Z2, Z3, Z4, Z5, Z6])
  rcases hnm.out with ⟨rfl, rfl⟩ | rfl
  · clear hnm
    have d1 : decide ((1 : Int) = 0) = false := rfl
    rw [d1]
    iterate 19
      refine no_implicit_lambda% (wpl_val ?_ rfl ?_ ?_)
      rotate_left
      · (go_simp; (try with_reducible rfl))
      (try simp only [Act.put, Z1, Z2, Z3, Z4, Z5, Z6])
    refine wpl_call _ _ rfl (by go_simp) _ (awake_any w4) ?_
    rintro e w9 ⟨rfl, hb9⟩
    refine ⟨_, rfl, ?_⟩
    (try simp only [Act.put, Z1, Z2, Z3, Z4, Z5, Z6])
    replace hS := hS.trans (hb9.mono hS.size)
    iterate 2
      refine no_implicit_lambda% (wpl_val ?_ rfl ?_ ?_)
      rotate_left
      · (go_simp; (try with_reducible rfl))
      (try simp only [Act.put, Z1, Z2, Z3, Z4, Z5, Z6])
    refine no_implicit_lambda% (wpList_nil ?_)
    go_wp2_with fail
    go_ret
    exact ⟨rfl, hS⟩
  · clear hnm
    have d1 : decide ((0 : Int) = 0) = true := rfl
    rw [d1]
    iterate 14
      refine no_implicit_lambda% (wpl_val ?_ rfl ?_ ?_)
      rotate_left
      · (go_simp; (try with_reducible rfl))
      (try simp only [Act.put, Z1, Z2, Z3, Z4, Z5, Z6])
    iterate 2
      refine no_implicit_lambda% (wpl_skip rfl ?_)
      (try simp only [Act.put, Z1, Z2, Z3, Z4, Z5, Z6])
    iterate 3
      refine no_implicit_lambda% (wpl_val ?_ rfl ?_ ?_)
      rotate_left
      · (go_simp; (try with_reducible rfl))
      (try simp only [Act.put, Z1, Z2, Z3, Z4, Z5, Z6])
    refine wpl_call _ _ rfl (by go_simp) _ (awake_any w4) ?_
    rintro e w9 ⟨rfl, hb9⟩
    refine ⟨_, rfl, ?_⟩
    (try simp only [Act.put, Z1, Z2, Z3, Z4, Z5, Z6])
    replace hS := hS.trans (hb9.mono hS.size)
    iterate 2
      refine no_implicit_lambda% (wpl_val ?_ rfl ?_ ?_)
      rotate_left
      · (go_simp; (try with_reducible rfl))
      (try simp only [Act.put, Z1, Z2, Z3, Z4, Z5, Z6])
    refine no_implicit_lambda% (wpList_nil ?_)
    go_wp2_with fail
    go_ret
    exact ⟨rfl, hS⟩
end Go.Proofs.Ytnemaolbmocncaa
