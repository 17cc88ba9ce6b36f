/- The walk of ModelNone. -/
import Derived.Test.YtjaecdcddmohoaaSmW
namespace Go.Proofs.Ytjaecdcddmohoaa
open Go.RowKit
set_option linter.unusedSimpArgs false
set_option linter.unusedVariables false
theorem b44 : Try.prog.built 44 [] = some (verA ⟨0, P.zb⟩) := by kernel_rfl
theorem eqt40 : Try.prog.eqGuardType Try.prog.depth 40 = false := by kernel_rfl
theorem eqt44 : Try.prog.eqGuardType Try.prog.depth 44 = false := by kernel_rfl
theorem eqt38 : Try.prog.eqGuardType Try.prog.depth 38 = false := by kernel_rfl
theorem rpok0 : RpOk (P.ok 0 P.zb) := ⟨wf_i64 (by simp [P.ok]), wf_u64' (by simp [P.ok]), wf_u32 (by simp [P.ok])⟩
set_option maxRecDepth 100000 in
set_option maxHeartbeats 4000000 in
theorem none_walk (c : P.Cl) (ts : Int) (w : World) (hc : ClOk c) : Calls Try.prog 8 #[.agg (clA c), .int .u32 ts] w fun e w' => e = .returned (.bool true) ∧ Below w.heap.size w w' := by
  have hbx := Blk.alloc_new w (clA c) 35
  have hbel : Below w.heap.size w (w.alloc (.cells (clA c) 35)) := (Below.refl _ _).alloc (Nat.le_refl _) _
  have hsz : (w.alloc (.cells (clA c) 35)).heap.size = w.heap.size + 1 := by simp
  go_enter Try.func8, Try.ntmps8
  go_upto_region 2 with (fail)
  generalize w.alloc (.cells (clA c) 35) = W at *
  refine no_implicit_lambda% (wp_region_lit ?_)
  refine wpl_call _ _ rfl (by go_simp) _ (new_in W 2 5 (by omega)) ?_
  rintro e w1 ⟨m, rfl, hms, hb⟩
  refine ⟨_, rfl, ?_⟩
  have hS := SS.start hms hb (by omega) (by omega)
  generalize m.c = n at *
  clear hms hb
  (try simp only [Act.put, Z1, Z2, Z3, Z4, Z5, Z6])
  refine no_implicit_lambda% (wpl_val ?_ rfl ?_ ?_)
  rotate_left
  · (go_simp; (try with_reducible rfl))
  (try simp only [Act.put, Z1, Z2, Z3, Z4, Z5, Z6])
  refine no_implicit_lambda% (wpList_nil ?_)
  go_upto_region 3 with (fail)
  refine no_implicit_lambda% (wp_region_lit ?_)
  iterate 4
    refine no_implicit_lambda% (wpl_val ?_ rfl ?_ ?_)
    rotate_left
    · (go_simp; (try with_reducible rfl))
    (try simp only [Act.put, Z1, Z2, Z3, Z4, Z5, Z6])
  refine wpl_val (.agg (clA ⟨7, 0, 0, 0, P.es⟩)) rfl (run_buildE rfl (by go_simp; exact b35_0 7)) ?_
  (try simp only [Act.put, Z1, Z2, Z3, Z4, Z5, Z6])
  refine wpl_call _ _ rfl (by go_simp) _ (hS.do_ (cl := ⟨7, 0, 0, 0, P.es⟩) (by omega) (clok0 (by omega) (by omega))) ?_
  rintro e w2 ⟨rfl, hS2, _⟩
  refine ⟨_, rfl, ?_⟩
  have h7 : P.step (P.new 2 5) ⟨7, 0, 0, 0, P.es⟩ = ({ P.new 2 5 with shut := true }, P.ok 0 P.zb) := by simp [P.step, P.new]
  rw [h7] at hS2 ⊢
  clear h7 hS
  (try simp only [Act.put, Z1, Z2, Z3, Z4, Z5, Z6])
  refine wpl_val (.agg (rpA ⟨0, 0, 0, P.zb⟩)) rfl (run_buildE rfl (by go_simp; exact b40)) ?_
  (try simp only [Act.put, Z1, Z2, Z3, Z4, Z5, Z6])
  refine wpl_val (.bool (!true)) rfl (run_opNe 40 40 _ _ _ _ true rfl rfl rfl eqt40 (eql40_yes rpok0 rpok0 rfl _)) ?_
  (try simp only [Act.put, Z1, Z2, Z3, Z4, Z5, Z6])
  refine no_implicit_lambda% (wpl_val ?_ rfl ?_ ?_)
  rotate_left
  · (go_simp; (try with_reducible rfl))
  (try simp only [Act.put, Z1, Z2, Z3, Z4, Z5, Z6])
  refine no_implicit_lambda% (wpList_nil ?_)
  go_upto_region 5 with (fail)
  refine no_implicit_lambda% (wp_region_lit ?_)
  refine no_implicit_lambda% (wpl_val ?_ rfl ?_ ?_)
  rotate_left
  · (go_simp; (try with_reducible rfl))
  (try simp only [Act.put, Z1, Z2, Z4, Z5, Z6])
  have hbx2 := hbx.below hS2.below
  refine wpl_val (.agg (clA c)) rfl (cl_load hbx2 rfl rfl) ?_
  (try simp only [Act.put, Z1, Z2, Z3, Z4, Z5, Z6])
  refine wpl_call _ _ rfl (by go_simp) _ (do_nil _ c) ?_
  rintro e w3 ⟨rfl, hb3⟩
  refine ⟨_, rfl, ?_⟩
  have hS3 := hS2.go hb3
  clear hS2 hb3 hbx2
  (try simp only [Act.put, Z1, Z2, Z3, Z4, Z5, Z6])
  refine wpl_val (.agg (rpA (P.err 12))) rfl (run_buildE rfl (by go_simp; exact b40_0 12)) ?_
  (try simp only [Act.put, Z1, Z2, Z3, Z4, Z5, Z6])
  refine wpl_val (.bool true) rfl (run_opEq 40 40 _ _ _ _ true rfl rfl rfl eqt40 (eql40_yes (RpOk.err (by omega)) (RpOk.err (by omega)) rfl _)) ?_
  (try simp only [Act.put, Z1, Z2, Z3, Z4, Z5, Z6])
  iterate 2
    refine no_implicit_lambda% (wpl_val ?_ rfl ?_ ?_)
    rotate_left
    · (go_simp; (try with_reducible rfl))
    (try simp only [Act.put, Z1, Z2, Z3, Z4, Z5, Z6])
  have hbx3 := hbx.below hS3.below
  refine wpl_val (.agg (clA c)) rfl (cl_load hbx3 rfl rfl) ?_
  (try simp only [Act.put, Z1, Z2, Z3, Z4, Z5, Z6])
  refine wpl_call _ _ rfl (by go_simp) _ (hS3.do_ (cl := c) (by omega) hc) ?_
  rintro e w4 ⟨rfl, hS4, _⟩
  refine ⟨_, rfl, ?_⟩
  have h7 : P.step { P.new 2 5 with shut := true } c = ({ P.new 2 5 with shut := true }, P.err 12) := by simp [P.step]
  rw [h7] at hS4 ⊢
  clear h7 hS3
  (try simp only [Act.put, Z1, Z2, Z3, Z4, Z5, Z6])
  refine wpl_val (.agg (rpA (P.err 12))) rfl (run_buildE rfl (by go_simp; exact b40_0 12)) ?_
  (try simp only [Act.put, Z1, Z2, Z3, Z4, Z5, Z6])
  refine wpl_val (.bool true) rfl (run_opEq 40 40 _ _ _ _ true rfl rfl rfl eqt40 (eql40_yes (RpOk.err (by omega)) (RpOk.err (by omega)) rfl _)) ?_
  (try simp only [Act.put, Z1, Z2, Z3, Z4, Z5, Z6])
  have hbx4 := hbx.below hS4.below
  iterate 4
    refine no_implicit_lambda% (wpl_val ?_ rfl ?_ ?_)
    rotate_left
    · (go_simp; (try with_reducible rfl))
    (try simp only [Act.put, Z1, Z2, Z3, Z4, Z5, Z6])
  refine no_implicit_lambda% (wpl_val ?_ rfl ?_ ?_)
  rotate_left
  · (have c0 := (show w4.cell? ⟨w.heap.size, 2, none⟩ = some (.int .u16 c.page) by rw [hbx4.cell]; rfl); go_simp; (try with_reducible rfl))
  (try simp only [Act.put, Z1, Z2, Z3, Z4, Z5, Z6])
  refine no_implicit_lambda% (wpl_val ?_ rfl ?_ ?_)
  rotate_left
  · (go_simp; (try with_reducible rfl))
  (try simp only [Act.put, Z1, Z2, Z3, Z4, Z5, Z6])
  refine wpl_call _ _ rfl (by go_simp) _ (at_nil _ c.page ts) ?_
  rintro e w5 ⟨rfl, hb5⟩
  refine ⟨_, rfl, ?_⟩
  have hS5 := hS4.go hb5
  clear hS4 hb5
  (try simp only [Act.put, Z1, Z2, Z3, Z4, Z5, Z6])
  refine wpl_val (.agg (verA ⟨0, P.zb⟩)) rfl (run_buildE rfl (by go_simp; exact b44)) ?_
  (try simp only [Act.put, Z1, Z2, Z3, Z4, Z5, Z6])
  refine wpl_val (.bool true) rfl (run_opEq 44 44 _ _ _ _ true rfl rfl rfl eqt44 (eql44_yes (wf_u32 (by simp)) (wf_u32 (by simp)) rfl _)) ?_
  (try simp only [Act.put, Z1, Z2, Z3, Z4, Z5, Z6])
  iterate 3
    refine no_implicit_lambda% (wpl_val ?_ rfl ?_ ?_)
    rotate_left
    · (go_simp; (try with_reducible rfl))
    (try simp only [Act.put, Z1, Z2, Z3, Z4, Z5, Z6])
  refine wpl_call _ _ rfl (by go_simp) _ (last_nil _) ?_
  rintro e w6 ⟨rfl, rfl⟩
  refine ⟨_, rfl, ?_⟩
  (try simp only [Act.put, Z1, Z2, Z3, Z4, Z5, Z6])
  iterate 3
    refine no_implicit_lambda% (wpl_val ?_ rfl ?_ ?_)
    rotate_left
    · (go_simp; (try with_reducible rfl))
    (try simp only [Act.put, Z1, Z2, Z3, Z4, Z5, Z6])
  refine wpl_call _ _ rfl (by go_simp) _ (awake_any _) ?_
  rintro e w7 ⟨rfl, hb7⟩
  refine ⟨_, rfl, ?_⟩
  have hS7 := hS5.go hb7
  (try simp only [Act.put, Z1, Z2, Z3, Z4, Z5, Z6])
  iterate 2
    refine no_implicit_lambda% (wpl_val ?_ rfl ?_ ?_)
    rotate_left
    · (go_simp; (try with_reducible rfl))
    (try simp only [Act.put, Z1, Z2, Z3, Z4, Z5, Z6])
  refine no_implicit_lambda% (wpList_nil ?_)
  go_wp2_with fail
  go_ret
  exact ⟨rfl, hbel.trans (hS7.below.mono (by omega))⟩
end Go.Proofs.Ytjaecdcddmohoaa
