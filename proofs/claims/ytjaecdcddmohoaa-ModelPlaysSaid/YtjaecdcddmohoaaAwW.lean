/- The walks of awake, small and has. -/
import Derived.Test.YtjaecdcddmohoaaAwP
namespace Go.Proofs.Ytjaecdcddmohoaa
open Go.RowKit
set_option linter.unusedSimpArgs false
set_option linter.unusedVariables false
theorem b35_0 (x : Int) : Try.prog.built 35 [(0, .int .u8 x)] = some (clA ⟨x, 0, 0, 0, P.es⟩) := by kernel_rfl
theorem b35_01 (x y : Int) : Try.prog.built 35 [(0, .int .u8 x), (1, .int .u64 y)] = some (clA ⟨x, y, 0, 0, P.es⟩) := by kernel_rfl
theorem b35_all (k t p o : Int) (s : ByteArray) : Try.prog.built 35 [(0, .int .u8 k), (1, .int .u64 t), (2, .int .u16 p), (3, .int .i64 o), (4, .string s)] = some (clA ⟨k, t, p, o, s⟩) := by kernel_rfl
theorem es_ok : P.es.size ≤ maxLen := Nat.zero_le _
theorem clok {k t p o : Int} {s : ByteArray} (hk : 0 ≤ k ∧ k ≤ 255) (ht : 0 ≤ t) (hp : 0 ≤ p ∧ p ≤ 65535) (ho : 0 ≤ o ∧ o ≤ 100) (hs : s.size ≤ maxLen) : ClOk ⟨k, t, p, o, s⟩ :=
  ⟨hk, hp, ht, by simp [Lit.wf, IntKind.min, IntKind.max, IntKind.bits, IntKind.signed]; omega, hs⟩
theorem clok0 {k t : Int} (hk : 0 ≤ k ∧ k ≤ 255) (ht : 0 ≤ t) : ClOk ⟨k, t, 0, 0, P.es⟩ := clok hk ht (by omega) (by omega) es_ok
set_option maxRecDepth 100000 in
set_option maxHeartbeats 4000000 in
theorem awake_any (w : World) : Calls Try.prog 10 #[] w fun e w' => e = .returned (.bool true) ∧ Below w.heap.size w w' := by
  have hz40 := zero40.1
  go_enter Try.func10, Try.ntmps10
  go_upto_region 1 with (fail)
  refine no_implicit_lambda% (wp_region_lit ?_)
  refine wpl_call _ _ rfl (by go_simp) _ (new_in w 3 9 (by omega)) ?_
  rintro e w1 ⟨m, rfl, hms, hb⟩
  refine ⟨_, rfl, ?_⟩
  have hS := SS.start hms hb (by omega) (by omega)
  generalize m.c = c at *
  clear hms hb
  (try simp only [Act.put, Z1, Z2, Z3, Z4, Z5, Z6])
  refine no_implicit_lambda% (wpl_val ?_ rfl ?_ ?_)
  rotate_left
  · (go_simp; (try with_reducible rfl))
  (try simp only [Act.put, Z1, Z2, Z3, Z4, Z5, Z6])
  refine no_implicit_lambda% (wpList_nil ?_)
  go_upto_region 4 with (fail)
  refine no_implicit_lambda% (wp_region_lit ?_)
  refine no_implicit_lambda% (wpl_val ?_ rfl ?_ ?_)
  rotate_left
  · (go_simp; (try with_reducible rfl))
  (try simp only [Act.put, Z1, Z2, Z4, Z5, Z6])
  refine wpList_buildE rfl 35 _ rfl (clA P.cB) (by go_simp; exact b35_0 0) ?_
  (try simp only [Act.put, Z1, Z2, Z3, Z4, Z5, Z6])
  refine wpl_call _ _ rfl (by go_simp) _ (hS.do_ (cl := P.cB) (by omega) (clok0 (k := 0) (t := 0) (by omega) (by omega))) ?_
  rintro e w2 ⟨rfl, hS2, hf⟩
  refine ⟨_, rfl, ?_⟩
  clear hS
  (try simp only [Act.put, Z1, Z2, Z3, Z4, Z5, Z6])
  refine wpl_alloc 40 (rpA ⟨0, 0, 0, P.zb⟩) rfl rfl hz40 ?_
  (try simp only [Act.put, Z1, Z2, Z3, Z4, Z5, Z6])
  refine wpl_law rfl (wp_store_row 40 _ _ rfl w2.heap.size (rpA (P.step (P.new 3 9) P.cB).2) rfl rfl 40 _ (Blk.alloc_new _ _ _) (size40 _) (by simp only [rpA_size]) (rpA_one _) ?_)
  (try simp only [Act.put, Z1, Z2, Z3, Z4, Z5, Z6])
  refine no_implicit_lambda% (wpList_nil ?_)
  obtain ⟨hS, hB, hb⟩ := hS2.box (rpA ⟨0, 0, 0, P.zb⟩) (rpA (P.step (P.new 3 9) P.cB).2) 40
  have hx := hb.size
  have hx2 := hB.lt
  clear hS2
  generalize (w2.alloc (.cells (rpA ⟨0, 0, 0, P.zb⟩) 40)).setRow w2.heap.size (rpA (P.step (P.new 3 9) P.cB).2) = V at *
  rw [P.aw1] at hS hB
  have hA := hB
  generalize w2.heap.size = xa at *
  clear hf hb hB
  obtain ⟨V0, rfl⟩ : ∃ V0, V0 = V := ⟨_, rfl⟩
  go_upto_region 5 with (fail)
  refine no_implicit_lambda% (wp_region_lit ?_)
  refine no_implicit_lambda% (wpl_val ?_ rfl ?_ ?_)
  rotate_left
  · (go_simp; (try with_reducible rfl))
  (try simp only [Act.put, Z1, Z2, Z4, Z5, Z6])
  refine wpList_buildE rfl 35 _ rfl (clA P.cW) (by go_simp; exact b35_all 2 1 2 1 ⟨#[120]⟩) ?_
  (try simp only [Act.put, Z1, Z2, Z3, Z4, Z5, Z6])
  refine wpl_call _ _ rfl (by go_simp) _ (hS.do_ (cl := P.cW) (by omega) (clok (k := 2) (t := 1) (p := 2) (o := 1) (s := ⟨#[120]⟩) (by omega) (by omega) (by omega) (by omega) (by decide))) ?_
  rintro e w2 ⟨rfl, hS2, hf⟩
  refine ⟨_, rfl, ?_⟩
  clear hS
  (try simp only [Act.put, Z1, Z2, Z3, Z4, Z5, Z6])
  refine wpl_alloc 40 (rpA ⟨0, 0, 0, P.zb⟩) rfl rfl hz40 ?_
  (try simp only [Act.put, Z1, Z2, Z3, Z4, Z5, Z6])
  refine wpl_law rfl (wp_store_row 40 _ _ rfl w2.heap.size (rpA (P.step P.A1 P.cW).2) rfl rfl 40 _ (Blk.alloc_new _ _ _) (size40 _) (by simp only [rpA_size]) (rpA_one _) ?_)
  (try simp only [Act.put, Z1, Z2, Z3, Z4, Z5, Z6])
  refine no_implicit_lambda% (wpList_nil ?_)
  obtain ⟨hS, hB, hb⟩ := hS2.box (rpA ⟨0, 0, 0, P.zb⟩) (rpA (P.step P.A1 P.cW).2) 40
  have hx := hb.size
  have hx2 := hB.lt
  clear hS2
  generalize (w2.alloc (.cells (rpA ⟨0, 0, 0, P.zb⟩) 40)).setRow w2.heap.size (rpA (P.step P.A1 P.cW).2) = V at *
  replace hA := (hA.fr hf (fun e => e (.inr rfl))).below hb
  rw [P.aw2] at hS hB
  have hC := hB
  generalize w2.heap.size = xb at *
  clear hf hb hB
  obtain ⟨V1, rfl⟩ : ∃ V1, V1 = V := ⟨_, rfl⟩
  go_upto_region 6 with (fail)
  refine no_implicit_lambda% (wp_region_lit ?_)
  refine no_implicit_lambda% (wpl_val ?_ rfl ?_ ?_)
  rotate_left
  · (go_simp; (try with_reducible rfl))
  (try simp only [Act.put, Z1, Z2, Z4, Z5, Z6])
  refine wpList_buildE rfl 35 _ rfl (clA P.cC) (by go_simp; exact b35_01 3 1) ?_
  (try simp only [Act.put, Z1, Z2, Z3, Z4, Z5, Z6])
  refine wpl_call _ _ rfl (by go_simp) _ (hS.do_ (cl := P.cC) (by omega) (clok0 (k := 3) (t := 1) (by omega) (by omega))) ?_
  rintro e w2 ⟨rfl, hS2, hf⟩
  refine ⟨_, rfl, ?_⟩
  clear hS
  (try simp only [Act.put, Z1, Z2, Z3, Z4, Z5, Z6])
  refine wpl_alloc 40 (rpA ⟨0, 0, 0, P.zb⟩) rfl rfl hz40 ?_
  (try simp only [Act.put, Z1, Z2, Z3, Z4, Z5, Z6])
  refine wpl_law rfl (wp_store_row 40 _ _ rfl w2.heap.size (rpA (P.step P.A2 P.cC).2) rfl rfl 40 _ (Blk.alloc_new _ _ _) (size40 _) (by simp only [rpA_size]) (rpA_one _) ?_)
  (try simp only [Act.put, Z1, Z2, Z3, Z4, Z5, Z6])
  refine no_implicit_lambda% (wpList_nil ?_)
  obtain ⟨hS, hB, hb⟩ := hS2.box (rpA ⟨0, 0, 0, P.zb⟩) (rpA (P.step P.A2 P.cC).2) 40
  have hx := hb.size
  have hx2 := hB.lt
  clear hS2
  generalize (w2.alloc (.cells (rpA ⟨0, 0, 0, P.zb⟩) 40)).setRow w2.heap.size (rpA (P.step P.A2 P.cC).2) = V at *
  replace hA := (hA.fr hf (fun e => e (.inl (.inr rfl)))).below hb
  replace hC := (hC.fr hf (fun e => e (.inr rfl))).below hb
  rw [P.aw3] at hS hB
  generalize w2.heap.size = xc at *
  clear hf hb
  go_upto_region 7 with (fail)
  refine no_implicit_lambda% (wp_region_lit ?_)
  refine no_implicit_lambda% (wpl_val ?_ rfl ?_ ?_)
  rotate_left
  · (go_simp; (try with_reducible rfl))
  (try simp only [Act.put, Z1, Z2, Z4, Z5, Z6])
  refine no_implicit_lambda% (wpl_val ?_ rfl ?_ ?_)
  rotate_left
  · (have c0 := (show V.cell? ⟨xa, 1, none⟩ = some (.int .u64 1) by rw [hA.cell]; rfl); go_simp; (try with_reducible rfl))
  (try simp only [Act.put, Z1, Z2, Z3, Z4, Z5, Z6])
  iterate 3
    refine no_implicit_lambda% (wpl_val ?_ rfl ?_ ?_)
    rotate_left
    · (go_simp; (try with_reducible rfl))
    (try simp only [Act.put, Z1, Z2, Z3, Z4, Z5, Z6])
  refine no_implicit_lambda% (wpl_val ?_ rfl ?_ ?_)
  rotate_left
  · (have c0 := (show V.cell? ⟨xb, 0, none⟩ = some (.int .i64 0) by rw [hC.cell]; rfl); go_simp; (try with_reducible rfl))
  (try simp only [Act.put, Z1, Z2, Z3, Z4, Z5, Z6])
  iterate 4
    refine no_implicit_lambda% (wpl_val ?_ rfl ?_ ?_)
    rotate_left
    · (go_simp; (try with_reducible rfl))
    (try simp only [Act.put, Z1, Z2, Z3, Z4, Z5, Z6])
  refine no_implicit_lambda% (wpl_val ?_ rfl ?_ ?_)
  rotate_left
  · (have c0 := (show V.cell? ⟨xc, 2, none⟩ = some (.int .u32 1) by rw [hB.cell]; rfl); go_simp; (try with_reducible rfl))
  (try simp only [Act.put, Z1, Z2, Z3, Z4, Z5, Z6])
  iterate 4
    refine no_implicit_lambda% (wpl_val ?_ rfl ?_ ?_)
    rotate_left
    · (go_simp; (try with_reducible rfl))
    (try simp only [Act.put, Z1, Z2, Z3, Z4, Z5, Z6])
  refine wpl_call _ _ rfl (by go_simp) _ (hS.at_ 2 1) ?_
  rintro e w5 ⟨rfl, hS5, hb5⟩
  refine ⟨_, rfl, ?_⟩
  clear hS
  rw [P.aw4]
  (try simp only [Act.put, Z1, Z2, Z3, Z4, Z5, Z6])
  refine no_implicit_lambda% (wpl_val (.agg (row 64 P.xb)) rfl (by (have c0 := field_b ⟨1, P.xb⟩ w5; go_simp)) ?_)
  (try simp only [Act.put, Z1, Z2, Z3, Z4, Z5, Z6])
  refine wpl_val (bv (P.xb 1)) rfl (by have c0 := idx38 P.xb w5; go_simp) ?_
  rw [P.aw5]
  (try simp only [Act.put, Z1, Z2, Z3, Z4, Z5, Z6])
  iterate 4
    refine no_implicit_lambda% (wpl_val ?_ rfl ?_ ?_)
    rotate_left
    · (go_simp; (try with_reducible rfl))
    (try simp only [Act.put, Z1, Z2, Z3, Z4, Z5, Z6])
  refine wpl_call _ _ rfl (by go_simp) _ hS5.last ?_
  rintro e w6 ⟨rfl, rfl⟩
  refine ⟨_, rfl, ?_⟩
  (try simp only [Act.put, Z1, Z2, Z3, Z4, Z5, Z6])
  iterate 3
    refine no_implicit_lambda% (wpl_val ?_ rfl ?_ ?_)
    rotate_left
    · (go_simp; (try with_reducible rfl))
    (try simp only [Act.put, Z1, Z2, Z3, Z4, Z5, Z6])
  refine no_implicit_lambda% (wpList_nil ?_)
  go_wp2_with fail
  go_ret
  exact ⟨rfl, hS5.below⟩
end Go.Proofs.Ytjaecdcddmohoaa
