/- The walk of the document's answer, kind 2. -/
import Derived.Test.YtjaecdcddmohoaaAnsP
namespace Go.Proofs.Ytjaecdcddmohoaa
open Go.RowKit
set_option linter.unusedSimpArgs false
set_option linter.unusedVariables false
attribute [local irreducible] wpList
set_option maxRecDepth 100000 in
set_option maxHeartbeats 16000000 in
theorem answer_2 {M : P.Md} {m : Nat} {log : List P.De} (hsim : P.Sim M m log) {c : Nat} {pg : Nat} (hpg : M.pages = (pg : Int)) {ao : Option Addr} {cap : Nat} (hn : log.length ≤ 900) (hm : m ≤ 900) {cl : P.Cl} (hc : ClOk cl) (hN : cl.kind = 2) (w : World) (h : RefAt w c (pg : Int) M.max ao cap log) :
    Calls Try.prog 20 #[.pointer (some ⟨c, 0, none⟩), .agg (clA cl)] w fun e w' => e = .returned (.agg (rpA (P.step M cl).2)) ∧ Below w.heap.size w w' := by
  replace hN := Lib.hid hN
  have hz40 := zero40.1
  have hz64 := zero64.1
  have hz44 := zero44.1
  have hz38 := zero38.1
  have e1 : (w.alloc (.cells (clA cl) 35)).heap.size = w.heap.size + 1 := by simp
  have hS : AnS w ((w.alloc (.cells (clA cl) 35)).alloc (.cells (rpA ⟨0, 0, 0, P.zb⟩) 40)) cl := ⟨((Below.refl _ _).alloc (Nat.le_refl _) _).alloc (by simp) _, (Blk.alloc_new _ _ _).alloc _, by
    have := Blk.alloc_new (w.alloc (.cells (clA cl) 35)) (rpA ⟨0, 0, 0, P.zb⟩) 40
    rwa [e1] at this⟩
  have hn1 : log.length ≤ 1000 := by omega
  have hsh := Lib.hid hsim.shut
  replace hsim := Lib.hid hsim
  replace hpg := Lib.hid hpg
  go_enter Try.func20, Try.ntmps20
  go_upto_region 1 with (fail)
  generalize (w.alloc (.cells (clA cl) 35)).alloc (.cells (rpA ⟨0, 0, 0, P.zb⟩) 40) = V0 at *
  have c2 := (h.below hS.below).c2
  refine no_implicit_lambda% (wp_region_lit ?_)
  iterate 3
    refine no_implicit_lambda% (wpl_val ?_ rfl ?_ ?_)
    rotate_left
    · (go_simp; (try with_reducible rfl))
    (try simp only [Act.put, Z1, Z2, Z3, Z4, Z5, Z6])
  refine no_implicit_lambda% (wpl_val ?_ rfl ?_ ?_)
  rotate_left
  · (have c0 := c2; go_simp; (try with_reducible rfl))
  (try simp only [Act.put, Z1, Z2, Z3, Z4, Z5, Z6])
  refine no_implicit_lambda% (wpl_val ?_ rfl ?_ ?_)
  rotate_left
  · (go_simp; (try with_reducible rfl))
  (try simp only [Act.put, Z1, Z2, Z3, Z4, Z5, Z6])
  refine no_implicit_lambda% (wpl_val ?_ rfl ?_ ?_)
  rotate_left
  · (go_simp; (try with_reducible rfl))
  (try simp only [Act.put, Z1, Z2, Z3, Z4, Z5, Z6])
  refine no_implicit_lambda% (wpList_nil ?_)
  clear c2 e1
  replace hS := Lib.hid hS
  go_wp2_with fail
  go_loopw [24] (fun i wr => ∃ k : Nat, i = .int .i64 k ∧ k ≤ log.length ∧ Hid (P.shutF (log.take k) = false) ∧ AnS w wr cl) (fun i _ => log.length - (intOf i).toNat)
  case atStart => exact ⟨0, rfl, Nat.zero_le _, rfl, hS.out⟩
  case round =>
    clear hS
    obtain ⟨k, rfl, hk, hno, hS⟩ := hrel
    by_cases hlt : k < log.length
    · obtain ⟨x, hx⟩ : ∃ x, log[k]? = some x := ⟨_, List.getElem?_eq_getElem hlt⟩
      obtain ⟨g, rfl, _, hr⟩ := (h.l.below hS.below).at_ k x hx
      replace hr := Lib.hid hr
      have hlt' : (k : Int) < (log.length : Int) := by omega
      have HT : Hid (P.shutF (log.take (k + 1)) = decide (x.1.kind = 7 ∧ x.2.e = 0)) := by unfold Hid; rw [take_snoc hx, P.shutF_snoc, hno.out]; simp
      have HY : Hid (x.1.kind = 7 ∧ x.2.e = 0 → M.shut = true) := fun e => by
        rw [← hsh.out]
        exact List.any_eq_true.2 ⟨x, List.mem_of_getElem? hx, decide_eq_true e⟩
      clear hx hno
      go_upto_region 3 with (fail)
      refine no_implicit_lambda% (wp_region_lit ?_)
      refine no_implicit_lambda% (wpl_val ?_ rfl ?_ ?_)
      rotate_left
      · (go_simp; (try with_reducible rfl))
      (try simp only [Act.put, Z1, Z2, Z4, Z5, Z6])
      refine wpList_load_mid rfl 64 _ rfl g (k * 72) rfl (deL x) _ hr.out Try.underlying64 rfl (size64' x) ?_
      (try simp only [Act.put, Z1, Z2, Z3, Z4, Z5, Z6])
      refine wpl_alloc 64 (deA noDe) rfl rfl hz64 ?_
      (try simp only [Act.put, Z1, Z2, Z3, Z4, Z5, Z6])
      refine wpl_law rfl (wp_store_row 64 _ _ rfl wr.heap.size (deA x) rfl rfl 64 _ (Blk.alloc_new _ _ _) (size64 _) (by simp only [deA_size]) (deA_one _) ?_)
      (try simp only [Act.put, Z1, Z2, Z3, Z4, Z5, Z6])
      refine no_implicit_lambda% (wpList_nil ?_)
      obtain ⟨hB, hb⟩ := de_box (w := wr) x
      replace hS := hS.go hb
      generalize (wr.alloc (.cells (deA noDe) 64)).setRow wr.heap.size (deA x) = V at *
      generalize wr.heap.size = bx at *
      have dk := Lib.hid (d_kind hB)
      have de := Lib.hid (d_e hB)
      clear hr hb hB
      by_cases hk7 : x.1.kind = 7
      · have hk' : (x.1.kind == 7) = true := by simp [hk7]
        by_cases he : x.2.e = 0
        · have he' : (x.2.e == 0) = true := by simp [he]
          have HC : Hid ((P.step M cl).2 = P.err 12) := by unfold Hid; rw [shut_step' (HY.out ⟨hk7, he⟩)]
          clear hk7 he
          go_upto_region 4 with (fail)
          refine no_implicit_lambda% (wp_region_lit ?_)
          iterate 2
            refine no_implicit_lambda% (wpl_val ?_ rfl ?_ ?_)
            rotate_left
            · (go_simp; (try with_reducible rfl))
            (try simp only [Act.put, Z1, Z2, Z3, Z4, Z5, Z6])
          refine no_implicit_lambda% (wpl_val ?_ rfl ?_ ?_)
          rotate_left
          · (have c0 := dk.out; go_simp; (try with_reducible rfl))
          (try simp only [Act.put, Z1, Z2, Z3, Z4, Z5, Z6])
          iterate 4
            refine no_implicit_lambda% (wpl_val ?_ rfl ?_ ?_)
            rotate_left
            · (go_simp; (try with_reducible rfl))
            (try simp only [Act.put, Z1, Z2, Z3, Z4, Z5, Z6])
          refine no_implicit_lambda% (wpl_val ?_ rfl ?_ ?_)
          rotate_left
          · (have c0 := de.out; go_simp; (try with_reducible rfl))
          (try simp only [Act.put, Z1, Z2, Z3, Z4, Z5, Z6])
          iterate 2
            refine no_implicit_lambda% (wpl_val ?_ rfl ?_ ?_)
            rotate_left
            · (go_simp; (try with_reducible rfl))
            (try simp only [Act.put, Z1, Z2, Z3, Z4, Z5, Z6])
          refine no_implicit_lambda% (wpList_nil ?_)
          go_upto_region 5 with (fail)
          refine no_implicit_lambda% (wp_region_lit ?_)
          refine wpList_buildE rfl 40 _ rfl (rpA ⟨12, 0, 0, P.zb⟩) (by go_simp; exact b40_0 _) ?_
          (try simp only [Act.put, Z1, Z2, Z3, Z4, Z5, Z6])
          refine wpList_store_fr rfl 40 _ _ rfl (w.heap.size + 1) (rpA ⟨12, 0, 0, P.zb⟩) rfl rfl 40 _ hS.res (size40 _) (by simp only [rpA_size]) (rpA_one _) ?_
          intro w9 hB9 hF9
          refine no_implicit_lambda% (wpList_nil ?_)
          go_wp2_with fail
          refine bodyPost_ret (v := .agg (rpA ⟨12, 0, 0, P.zb⟩)) ?_ rfl ?_
          · exact results_cell_row rfl _ _ (w.heap.size + 1) 40 (rpA ⟨12, 0, 0, P.zb⟩) (0, 0) _ rfl hB9 Try.underlying40 rfl (size40 _)
          exact ⟨by rw [HC.out] <;> rfl, Fr.below hS.below hF9 (Nat.le_refl _) fun i hi => by omega⟩
        · have he' : (x.2.e == 0) = false := by simp [he]
          have HM : Hid (P.shutF (log.take (k + 1)) = false) := by unfold Hid; rw [HT.out]; simp [he]
          clear hk7 he
          go_upto_region 4 with (fail)
          refine no_implicit_lambda% (wp_region_lit ?_)
          iterate 2
            refine no_implicit_lambda% (wpl_val ?_ rfl ?_ ?_)
            rotate_left
            · (go_simp; (try with_reducible rfl))
            (try simp only [Act.put, Z1, Z2, Z3, Z4, Z5, Z6])
          refine no_implicit_lambda% (wpl_val ?_ rfl ?_ ?_)
          rotate_left
          · (have c0 := dk.out; go_simp; (try with_reducible rfl))
          (try simp only [Act.put, Z1, Z2, Z3, Z4, Z5, Z6])
          iterate 4
            refine no_implicit_lambda% (wpl_val ?_ rfl ?_ ?_)
            rotate_left
            · (go_simp; (try with_reducible rfl))
            (try simp only [Act.put, Z1, Z2, Z3, Z4, Z5, Z6])
          refine no_implicit_lambda% (wpl_val ?_ rfl ?_ ?_)
          rotate_left
          · (have c0 := de.out; go_simp; (try with_reducible rfl))
          (try simp only [Act.put, Z1, Z2, Z3, Z4, Z5, Z6])
          iterate 2
            refine no_implicit_lambda% (wpl_val ?_ rfl ?_ ?_)
            rotate_left
            · (go_simp; (try with_reducible rfl))
            (try simp only [Act.put, Z1, Z2, Z3, Z4, Z5, Z6])
          refine no_implicit_lambda% (wpList_nil ?_)
          go_wp2_with fail
          go_roundw
          case rel => exact ⟨k + 1, by go_num, by omega, HM, hS⟩
          case measure => simp [intOf]; omega
      · have hk' : (x.1.kind == 7) = false := by simp [hk7]
        have HM : Hid (P.shutF (log.take (k + 1)) = false) := by unfold Hid; rw [HT.out]; simp [hk7]
        clear hk7
        go_upto_region 4 with (fail)
        refine no_implicit_lambda% (wp_region_lit ?_)
        iterate 2
          refine no_implicit_lambda% (wpl_val ?_ rfl ?_ ?_)
          rotate_left
          · (go_simp; (try with_reducible rfl))
          (try simp only [Act.put, Z1, Z2, Z3, Z4, Z5, Z6])
        refine no_implicit_lambda% (wpl_val ?_ rfl ?_ ?_)
        rotate_left
        · (have c0 := dk.out; go_simp; (try with_reducible rfl))
        (try simp only [Act.put, Z1, Z2, Z3, Z4, Z5, Z6])
        iterate 2
          refine no_implicit_lambda% (wpl_val ?_ rfl ?_ ?_)
          rotate_left
          · (go_simp; (try with_reducible rfl))
          (try simp only [Act.put, Z1, Z2, Z3, Z4, Z5, Z6])
        iterate 4
          refine no_implicit_lambda% (wpl_skip rfl ?_)
          (try simp only [Act.put, Z1, Z2, Z3, Z4, Z5, Z6])
        refine no_implicit_lambda% (wpl_val ?_ rfl ?_ ?_)
        rotate_left
        · (go_simp; (try with_reducible rfl))
        (try simp only [Act.put, Z1, Z2, Z3, Z4, Z5, Z6])
        refine no_implicit_lambda% (wpList_nil ?_)
        go_wp2_with fail
        go_roundw
        case rel => exact ⟨k + 1, by go_num, by omega, HM, hS⟩
        case measure => simp [intOf]; omega
    · obtain rfl : k = log.length := by omega
      have hs0 : Hid (M.shut = false) := by
        have := hno.out
        rw [List.take_length, hsh.out] at this
        exact this
      clear hno hlt hsh
      obtain ⟨V, rfl⟩ : ∃ V, V = wr := ⟨_, rfl⟩
      go_upto_region 7 with (fail)
      go_cut [86] (fun t wx => ∃ bb : Bool, t = .bool bb ∧ AnS w wx cl ∧ BadQ bb M cl)
      case first =>
        refine wp_region_held (S := (fun w' => AnS w w' cl)) (by kernel_rfl) ?_
        change wpAnyH _ _ _ _ _ _ _ _ (World.drew _)
        (try simp only [Act.put])
        replace hS := hS.go (Below.refl _ _).drew
        have hc0 : ∀ w', AnS w w' cl → w'.cell? ⟨c, 0, none⟩ = some (.int .i64 (pg : Int)) := fun w' h' => (h.below h'.below).c0
        replace hc0 := Lib.hid hc0
        generalize V.drew = V1 at *
        have hwp : IntKind.i64.wrap cl.page = cl.page := IntWalk.i64_in _ (by have := hc.page; omega)
        have hp' := hpg.out
        by_cases h7 : 7 < cl.kind
        · have h7' : decide (7 < cl.kind) = true := by simp [h7]
          have HB : BadQ true M cl := ⟨fun _ => .inl h7, fun _ => rfl⟩
          clear h7 hp'
          refine anyH_pure 0 _ ?_ rfl (by kernel_rfl) (by kernel_rfl) (by kernel_rfl) (fun _ _ _ h => h) rfl ?_ hS ?_
          rotate_left
          · (intro w'; go_simp; (try with_reducible rfl))
          (try simp only [Act.put, Z1, Z2, Z4, Z5, Z6])
          refine anyH_if 1 _ ?_ rfl (by kernel_rfl) (by kernel_rfl) (by kernel_rfl) (fun _ _ _ h => h) rfl ?_ hS ?_
          rotate_left
          · (intro w' h; have c0 := h.b0; go_simp; (try with_reducible rfl))
          (try simp only [Act.put, Z1, Z2, Z3, Z4, Z5, Z6])
          refine anyH_pure 2 _ ?_ rfl (by kernel_rfl) (by kernel_rfl) (by kernel_rfl) (fun _ _ _ h => h) rfl ?_ hS ?_
          rotate_left
          · (intro w'; go_simp; (try with_reducible rfl))
          (try simp only [Act.put, Z1, Z2, Z3, Z4, Z5, Z6])
          refine anyH_pure 3 _ ?_ rfl (by kernel_rfl) (by kernel_rfl) (by kernel_rfl) (fun _ _ _ h => h) rfl ?_ hS ?_
          rotate_left
          · (intro w'; go_simp; (try with_reducible rfl))
          (try simp only [Act.put, Z1, Z2, Z3, Z4, Z5, Z6])
          refine anyH_skip 4 _ rfl (by kernel_rfl) (by kernel_rfl) (by kernel_rfl) (fun _ _ _ h => h) rfl hS ?_
          (try simp only [Act.put, Z1, Z2, Z3, Z4, Z5, Z6])
          refine anyH_skip 5 _ rfl (by kernel_rfl) (by kernel_rfl) (by kernel_rfl) (fun _ _ _ h => h) rfl hS ?_
          (try simp only [Act.put, Z1, Z2, Z3, Z4, Z5, Z6])
          refine anyH_skip 6 _ rfl (by kernel_rfl) (by kernel_rfl) (by kernel_rfl) (fun _ _ _ h => h) rfl hS ?_
          (try simp only [Act.put, Z1, Z2, Z3, Z4, Z5, Z6])
          refine anyH_skip 7 _ rfl (by kernel_rfl) (by kernel_rfl) (by kernel_rfl) (fun _ _ _ h => h) rfl hS ?_
          (try simp only [Act.put, Z1, Z2, Z3, Z4, Z5, Z6])
          refine anyH_skip 8 _ rfl (by kernel_rfl) (by kernel_rfl) (by kernel_rfl) (fun _ _ _ h => h) rfl hS ?_
          (try simp only [Act.put, Z1, Z2, Z3, Z4, Z5, Z6])
          refine anyH_skip 9 _ rfl (by kernel_rfl) (by kernel_rfl) (by kernel_rfl) (fun _ _ _ h => h) rfl hS ?_
          (try simp only [Act.put, Z1, Z2, Z3, Z4, Z5, Z6])
          refine anyH_skip 10 _ rfl (by kernel_rfl) (by kernel_rfl) (by kernel_rfl) (fun _ _ _ h => h) rfl hS ?_
          (try simp only [Act.put, Z1, Z2, Z3, Z4, Z5, Z6])
          refine anyH_skip 11 _ rfl (by kernel_rfl) (by kernel_rfl) (by kernel_rfl) (fun _ _ _ h => h) rfl hS ?_
          (try simp only [Act.put, Z1, Z2, Z3, Z4, Z5, Z6])
          refine anyH_skip 12 _ rfl (by kernel_rfl) (by kernel_rfl) (by kernel_rfl) (fun _ _ _ h => h) rfl hS ?_
          (try simp only [Act.put, Z1, Z2, Z3, Z4, Z5, Z6])
          refine anyH_skip 13 _ rfl (by kernel_rfl) (by kernel_rfl) (by kernel_rfl) (fun _ _ _ h => h) rfl hS ?_
          (try simp only [Act.put, Z1, Z2, Z3, Z4, Z5, Z6])
          refine anyH_skip 14 _ rfl (by kernel_rfl) (by kernel_rfl) (by kernel_rfl) (fun _ _ _ h => h) rfl hS ?_
          (try simp only [Act.put, Z1, Z2, Z3, Z4, Z5, Z6])
          refine anyH_skip 15 _ rfl (by kernel_rfl) (by kernel_rfl) (by kernel_rfl) (fun _ _ _ h => h) rfl hS ?_
          (try simp only [Act.put, Z1, Z2, Z3, Z4, Z5, Z6])
          refine anyH_skip 16 _ rfl (by kernel_rfl) (by kernel_rfl) (by kernel_rfl) (fun _ _ _ h => h) rfl hS ?_
          (try simp only [Act.put, Z1, Z2, Z3, Z4, Z5, Z6])
          refine anyH_skip 17 _ rfl (by kernel_rfl) (by kernel_rfl) (by kernel_rfl) (fun _ _ _ h => h) rfl hS ?_
          (try simp only [Act.put, Z1, Z2, Z3, Z4, Z5, Z6])
          refine anyH_skip 18 _ rfl (by kernel_rfl) (by kernel_rfl) (by kernel_rfl) (fun _ _ _ h => h) rfl hS ?_
          (try simp only [Act.put, Z1, Z2, Z3, Z4, Z5, Z6])
          refine anyH_skip 19 _ rfl (by kernel_rfl) (by kernel_rfl) (by kernel_rfl) (fun _ _ _ h => h) rfl hS ?_
          (try simp only [Act.put, Z1, Z2, Z3, Z4, Z5, Z6])
          refine anyH_skip 20 _ rfl (by kernel_rfl) (by kernel_rfl) (by kernel_rfl) (fun _ _ _ h => h) rfl hS ?_
          (try simp only [Act.put, Z1, Z2, Z3, Z4, Z5, Z6])
          refine anyH_skip 21 _ rfl (by kernel_rfl) (by kernel_rfl) (by kernel_rfl) (fun _ _ _ h => h) rfl hS ?_
          (try simp only [Act.put, Z1, Z2, Z3, Z4, Z5, Z6])
          refine anyH_pure 22 _ ?_ rfl (by kernel_rfl) (by kernel_rfl) (by kernel_rfl) (fun _ _ _ h => h) rfl ?_ hS ?_
          rotate_left
          · (intro w'; go_simp; (try with_reducible rfl))
          (try simp only [Act.put, Z1, Z2, Z3, Z4, Z5, Z6])
          refine anyH_pure 23 _ ?_ rfl (by kernel_rfl) (by kernel_rfl) (by kernel_rfl) (fun _ _ _ h => h) rfl ?_ hS ?_
          rotate_left
          · (intro w'; go_simp; (try with_reducible rfl))
          (try simp only [Act.put, Z1, Z2, Z3, Z4, Z5, Z6])
          refine anyH_skip 24 _ rfl (by kernel_rfl) (by kernel_rfl) (by kernel_rfl) (fun _ _ _ h => h) rfl hS ?_
          (try simp only [Act.put, Z1, Z2, Z3, Z4, Z5, Z6])
          refine anyH_skip 25 _ rfl (by kernel_rfl) (by kernel_rfl) (by kernel_rfl) (fun _ _ _ h => h) rfl hS ?_
          (try simp only [Act.put, Z1, Z2, Z3, Z4, Z5, Z6])
          refine anyH_skip 26 _ rfl (by kernel_rfl) (by kernel_rfl) (by kernel_rfl) (fun _ _ _ h => h) rfl hS ?_
          (try simp only [Act.put, Z1, Z2, Z3, Z4, Z5, Z6])
          refine anyH_skip 27 _ rfl (by kernel_rfl) (by kernel_rfl) (by kernel_rfl) (fun _ _ _ h => h) rfl hS ?_
          (try simp only [Act.put, Z1, Z2, Z3, Z4, Z5, Z6])
          refine anyH_skip 28 _ rfl (by kernel_rfl) (by kernel_rfl) (by kernel_rfl) (fun _ _ _ h => h) rfl hS ?_
          (try simp only [Act.put, Z1, Z2, Z3, Z4, Z5, Z6])
          refine anyH_skip 29 _ rfl (by kernel_rfl) (by kernel_rfl) (by kernel_rfl) (fun _ _ _ h => h) rfl hS ?_
          (try simp only [Act.put, Z1, Z2, Z3, Z4, Z5, Z6])
          refine anyH_skip 30 _ rfl (by kernel_rfl) (by kernel_rfl) (by kernel_rfl) (fun _ _ _ h => h) rfl hS ?_
          (try simp only [Act.put, Z1, Z2, Z3, Z4, Z5, Z6])
          refine anyH_skip 31 _ rfl (by kernel_rfl) (by kernel_rfl) (by kernel_rfl) (fun _ _ _ h => h) rfl hS ?_
          (try simp only [Act.put, Z1, Z2, Z3, Z4, Z5, Z6])
          refine anyH_skip 32 _ rfl (by kernel_rfl) (by kernel_rfl) (by kernel_rfl) (fun _ _ _ h => h) rfl hS ?_
          (try simp only [Act.put, Z1, Z2, Z3, Z4, Z5, Z6])
          refine anyH_skip 33 _ rfl (by kernel_rfl) (by kernel_rfl) (by kernel_rfl) (fun _ _ _ h => h) rfl hS ?_
          (try simp only [Act.put, Z1, Z2, Z3, Z4, Z5, Z6])
          refine anyH_skip 34 _ rfl (by kernel_rfl) (by kernel_rfl) (by kernel_rfl) (fun _ _ _ h => h) rfl hS ?_
          (try simp only [Act.put, Z1, Z2, Z3, Z4, Z5, Z6])
          refine anyH_skip 35 _ rfl (by kernel_rfl) (by kernel_rfl) (by kernel_rfl) (fun _ _ _ h => h) rfl hS ?_
          (try simp only [Act.put, Z1, Z2, Z3, Z4, Z5, Z6])
          refine anyH_skip 36 _ rfl (by kernel_rfl) (by kernel_rfl) (by kernel_rfl) (fun _ _ _ h => h) rfl hS ?_
          (try simp only [Act.put, Z1, Z2, Z3, Z4, Z5, Z6])
          refine anyH_skip 37 _ rfl (by kernel_rfl) (by kernel_rfl) (by kernel_rfl) (fun _ _ _ h => h) rfl hS ?_
          (try simp only [Act.put, Z1, Z2, Z3, Z4, Z5, Z6])
          refine anyH_skip 38 _ rfl (by kernel_rfl) (by kernel_rfl) (by kernel_rfl) (fun _ _ _ h => h) rfl hS ?_
          (try simp only [Act.put, Z1, Z2, Z3, Z4, Z5, Z6])
          refine anyH_skip 39 _ rfl (by kernel_rfl) (by kernel_rfl) (by kernel_rfl) (fun _ _ _ h => h) rfl hS ?_
          (try simp only [Act.put, Z1, Z2, Z3, Z4, Z5, Z6])
          refine anyH_skip 40 _ rfl (by kernel_rfl) (by kernel_rfl) (by kernel_rfl) (fun _ _ _ h => h) rfl hS ?_
          (try simp only [Act.put, Z1, Z2, Z3, Z4, Z5, Z6])
          refine anyH_skip 41 _ rfl (by kernel_rfl) (by kernel_rfl) (by kernel_rfl) (fun _ _ _ h => h) rfl hS ?_
          (try simp only [Act.put, Z1, Z2, Z3, Z4, Z5, Z6])
          refine anyH_skip 42 _ rfl (by kernel_rfl) (by kernel_rfl) (by kernel_rfl) (fun _ _ _ h => h) rfl hS ?_
          (try simp only [Act.put, Z1, Z2, Z3, Z4, Z5, Z6])
          refine anyH_skip 43 _ rfl (by kernel_rfl) (by kernel_rfl) (by kernel_rfl) (fun _ _ _ h => h) rfl hS ?_
          (try simp only [Act.put, Z1, Z2, Z3, Z4, Z5, Z6])
          refine anyH_skip 44 _ rfl (by kernel_rfl) (by kernel_rfl) (by kernel_rfl) (fun _ _ _ h => h) rfl hS ?_
          (try simp only [Act.put, Z1, Z2, Z3, Z4, Z5, Z6])
          refine anyH_skip 45 _ rfl (by kernel_rfl) (by kernel_rfl) (by kernel_rfl) (fun _ _ _ h => h) rfl hS ?_
          (try simp only [Act.put, Z1, Z2, Z3, Z4, Z5, Z6])
          refine anyH_pure 46 _ ?_ rfl (by kernel_rfl) (by kernel_rfl) (by kernel_rfl) (fun _ _ _ h => h) rfl ?_ hS ?_
          rotate_left
          · (intro w'; go_simp; (try with_reducible rfl))
          (try simp only [Act.put, Z1, Z2, Z3, Z4, Z5, Z6])
          refine wpAnyH_done (by kernel_rfl) ?_ _
          go_wp2_with fail
          go_meet
          case rel => exact ⟨true, rfl, hS, HB⟩
        · have h7' : decide (7 < cl.kind) = false := by simp; omega
          by_cases h1 : 1 ≤ cl.kind
          · have h1' : decide (1 ≤ cl.kind) = true := by simp [h1]
            by_cases h2 : cl.kind ≤ 2
            · have h2' : decide (cl.kind ≤ 2) = true := by simp [h2]
              by_cases hp : (pg : Int) ≤ cl.page
              · have hpd : decide ((pg : Int) ≤ cl.page) = true := by simp [hp]
                have HB : BadQ true M cl := ⟨fun _ => .inr (.inl ⟨by omega, by rw [hp']; exact hp⟩), fun _ => rfl⟩
                clear h7 h1 h2 hp'
                refine anyH_pure 0 _ ?_ rfl (by kernel_rfl) (by kernel_rfl) (by kernel_rfl) (fun _ _ _ h => h) rfl ?_ hS ?_
                rotate_left
                · (intro w'; go_simp; (try with_reducible rfl))
                (try simp only [Act.put, Z1, Z2, Z4, Z5, Z6])
                refine anyH_if 1 _ ?_ rfl (by kernel_rfl) (by kernel_rfl) (by kernel_rfl) (fun _ _ _ h => h) rfl ?_ hS ?_
                rotate_left
                · (intro w' h; have c0 := h.b0; go_simp; (try with_reducible rfl))
                (try simp only [Act.put, Z1, Z2, Z3, Z4, Z5, Z6])
                refine anyH_pure 2 _ ?_ rfl (by kernel_rfl) (by kernel_rfl) (by kernel_rfl) (fun _ _ _ h => h) rfl ?_ hS ?_
                rotate_left
                · (intro w'; go_simp; (try with_reducible rfl))
                (try simp only [Act.put, Z1, Z2, Z3, Z4, Z5, Z6])
                refine anyH_pure 3 _ ?_ rfl (by kernel_rfl) (by kernel_rfl) (by kernel_rfl) (fun _ _ _ h => h) rfl ?_ hS ?_
                rotate_left
                · (intro w'; go_simp; (try with_reducible rfl))
                (try simp only [Act.put, Z1, Z2, Z3, Z4, Z5, Z6])
                refine anyH_pure 4 _ ?_ rfl (by kernel_rfl) (by kernel_rfl) (by kernel_rfl) (fun _ _ _ h => h) rfl ?_ hS ?_
                rotate_left
                · (intro w'; go_simp; (try with_reducible rfl))
                (try simp only [Act.put, Z1, Z2, Z3, Z4, Z5, Z6])
                refine anyH_if 5 _ ?_ rfl (by kernel_rfl) (by kernel_rfl) (by kernel_rfl) (fun _ _ _ h => h) rfl ?_ hS ?_
                rotate_left
                · (intro w' h; have c0 := h.b0; go_simp; (try with_reducible rfl))
                (try simp only [Act.put, Z1, Z2, Z3, Z4, Z5, Z6])
                refine anyH_pure 6 _ ?_ rfl (by kernel_rfl) (by kernel_rfl) (by kernel_rfl) (fun _ _ _ h => h) rfl ?_ hS ?_
                rotate_left
                · (intro w'; go_simp; (try with_reducible rfl))
                (try simp only [Act.put, Z1, Z2, Z3, Z4, Z5, Z6])
                refine anyH_pure 7 _ ?_ rfl (by kernel_rfl) (by kernel_rfl) (by kernel_rfl) (fun _ _ _ h => h) rfl ?_ hS ?_
                rotate_left
                · (intro w'; go_simp; (try with_reducible rfl))
                (try simp only [Act.put, Z1, Z2, Z3, Z4, Z5, Z6])
                refine anyH_pure 8 _ ?_ rfl (by kernel_rfl) (by kernel_rfl) (by kernel_rfl) (fun _ _ _ h => h) rfl ?_ hS ?_
                rotate_left
                · (intro w'; go_simp; (try with_reducible rfl))
                (try simp only [Act.put, Z1, Z2, Z3, Z4, Z5, Z6])
                refine anyH_if 9 _ ?_ rfl (by kernel_rfl) (by kernel_rfl) (by kernel_rfl) (fun _ _ _ h => h) rfl ?_ hS ?_
                rotate_left
                · (intro w' h; have c0 := h.b0; go_simp; (try with_reducible rfl))
                (try simp only [Act.put, Z1, Z2, Z3, Z4, Z5, Z6])
                refine anyH_pure 10 _ ?_ rfl (by kernel_rfl) (by kernel_rfl) (by kernel_rfl) (fun _ _ _ h => h) rfl ?_ hS ?_
                rotate_left
                · (intro w'; go_simp; (try with_reducible rfl))
                (try simp only [Act.put, Z1, Z2, Z3, Z4, Z5, Z6])
                refine anyH_pure 11 _ ?_ rfl (by kernel_rfl) (by kernel_rfl) (by kernel_rfl) (fun _ _ _ h => h) rfl ?_ hS ?_
                rotate_left
                · (intro w'; go_simp; (try with_reducible rfl))
                (try simp only [Act.put, Z1, Z2, Z3, Z4, Z5, Z6])
                refine anyH_pure 12 _ ?_ rfl (by kernel_rfl) (by kernel_rfl) (by kernel_rfl) (fun _ _ _ h => h) rfl ?_ hS ?_
                rotate_left
                · (intro w'; go_simp; (try with_reducible rfl))
                (try simp only [Act.put, Z1, Z2, Z3, Z4, Z5, Z6])
                refine anyH_pure 13 _ ?_ rfl (by kernel_rfl) (by kernel_rfl) (by kernel_rfl) (fun _ _ _ h => h) rfl ?_ hS ?_
                rotate_left
                · (intro w'; go_simp; (try with_reducible rfl))
                (try simp only [Act.put, Z1, Z2, Z3, Z4, Z5, Z6])
                refine anyH_if 14 _ ?_ rfl (by kernel_rfl) (by kernel_rfl) (by kernel_rfl) (fun _ _ _ h => h) rfl ?_ hS ?_
                rotate_left
                · (intro w' h; have c0 := h.b2; go_simp; (try with_reducible rfl))
                (try simp only [Act.put, Z1, Z2, Z3, Z4, Z5, Z6])
                refine anyH_pure 15 _ ?_ rfl (by kernel_rfl) (by kernel_rfl) (by kernel_rfl) (fun _ _ _ h => h) rfl ?_ hS ?_
                rotate_left
                · (intro w'; go_simp; (try with_reducible rfl))
                (try simp only [Act.put, Z1, Z2, Z3, Z4, Z5, Z6])
                refine anyH_pure 16 _ ?_ rfl (by kernel_rfl) (by kernel_rfl) (by kernel_rfl) (fun _ _ _ h => h) rfl ?_ hS ?_
                rotate_left
                · (intro w'; go_simp; (try with_reducible rfl))
                (try simp only [Act.put, Z1, Z2, Z3, Z4, Z5, Z6])
                refine anyH_pure 17 _ ?_ rfl (by kernel_rfl) (by kernel_rfl) (by kernel_rfl) (fun _ _ _ h => h) rfl ?_ hS ?_
                rotate_left
                · (intro w'; go_simp; (try with_reducible rfl))
                (try simp only [Act.put, Z1, Z2, Z3, Z4, Z5, Z6])
                refine anyH_pure 18 _ ?_ rfl (by kernel_rfl) (by kernel_rfl) (by kernel_rfl) (fun _ _ _ h => h) rfl ?_ hS ?_
                rotate_left
                · (intro w'; go_simp; (try with_reducible rfl))
                (try simp only [Act.put, Z1, Z2, Z3, Z4, Z5, Z6])
                refine anyH_if 19 _ ?_ rfl (by kernel_rfl) (by kernel_rfl) (by kernel_rfl) (fun _ _ _ h => h) rfl ?_ hS ?_
                rotate_left
                · (intro w' h; have c0 := (hc0.out _ h); go_simp; (try with_reducible rfl))
                (try simp only [Act.put, Z1, Z2, Z3, Z4, Z5, Z6])
                refine anyH_pure 20 _ ?_ rfl (by kernel_rfl) (by kernel_rfl) (by kernel_rfl) (fun _ _ _ h => h) rfl ?_ hS ?_
                rotate_left
                · (intro w'; go_simp; (try with_reducible rfl))
                (try simp only [Act.put, Z1, Z2, Z3, Z4, Z5, Z6])
                refine anyH_pure 21 _ ?_ rfl (by kernel_rfl) (by kernel_rfl) (by kernel_rfl) (fun _ _ _ h => h) rfl ?_ hS ?_
                rotate_left
                · (intro w'; go_simp; (try with_reducible rfl))
                (try simp only [Act.put, Z1, Z2, Z3, Z4, Z5, Z6])
                refine anyH_pure 22 _ ?_ rfl (by kernel_rfl) (by kernel_rfl) (by kernel_rfl) (fun _ _ _ h => h) rfl ?_ hS ?_
                rotate_left
                · (intro w'; go_simp; (try with_reducible rfl))
                (try simp only [Act.put, Z1, Z2, Z3, Z4, Z5, Z6])
                refine anyH_pure 23 _ ?_ rfl (by kernel_rfl) (by kernel_rfl) (by kernel_rfl) (fun _ _ _ h => h) rfl ?_ hS ?_
                rotate_left
                · (intro w'; go_simp; (try with_reducible rfl))
                (try simp only [Act.put, Z1, Z2, Z3, Z4, Z5, Z6])
                refine anyH_skip 24 _ rfl (by kernel_rfl) (by kernel_rfl) (by kernel_rfl) (fun _ _ _ h => h) rfl hS ?_
                (try simp only [Act.put, Z1, Z2, Z3, Z4, Z5, Z6])
                refine anyH_skip 25 _ rfl (by kernel_rfl) (by kernel_rfl) (by kernel_rfl) (fun _ _ _ h => h) rfl hS ?_
                (try simp only [Act.put, Z1, Z2, Z3, Z4, Z5, Z6])
                refine anyH_skip 26 _ rfl (by kernel_rfl) (by kernel_rfl) (by kernel_rfl) (fun _ _ _ h => h) rfl hS ?_
                (try simp only [Act.put, Z1, Z2, Z3, Z4, Z5, Z6])
                refine anyH_skip 27 _ rfl (by kernel_rfl) (by kernel_rfl) (by kernel_rfl) (fun _ _ _ h => h) rfl hS ?_
                (try simp only [Act.put, Z1, Z2, Z3, Z4, Z5, Z6])
                refine anyH_skip 28 _ rfl (by kernel_rfl) (by kernel_rfl) (by kernel_rfl) (fun _ _ _ h => h) rfl hS ?_
                (try simp only [Act.put, Z1, Z2, Z3, Z4, Z5, Z6])
                refine anyH_skip 29 _ rfl (by kernel_rfl) (by kernel_rfl) (by kernel_rfl) (fun _ _ _ h => h) rfl hS ?_
                (try simp only [Act.put, Z1, Z2, Z3, Z4, Z5, Z6])
                refine anyH_skip 30 _ rfl (by kernel_rfl) (by kernel_rfl) (by kernel_rfl) (fun _ _ _ h => h) rfl hS ?_
                (try simp only [Act.put, Z1, Z2, Z3, Z4, Z5, Z6])
                refine anyH_skip 31 _ rfl (by kernel_rfl) (by kernel_rfl) (by kernel_rfl) (fun _ _ _ h => h) rfl hS ?_
                (try simp only [Act.put, Z1, Z2, Z3, Z4, Z5, Z6])
                refine anyH_skip 32 _ rfl (by kernel_rfl) (by kernel_rfl) (by kernel_rfl) (fun _ _ _ h => h) rfl hS ?_
                (try simp only [Act.put, Z1, Z2, Z3, Z4, Z5, Z6])
                refine anyH_skip 33 _ rfl (by kernel_rfl) (by kernel_rfl) (by kernel_rfl) (fun _ _ _ h => h) rfl hS ?_
                (try simp only [Act.put, Z1, Z2, Z3, Z4, Z5, Z6])
                refine anyH_skip 34 _ rfl (by kernel_rfl) (by kernel_rfl) (by kernel_rfl) (fun _ _ _ h => h) rfl hS ?_
                (try simp only [Act.put, Z1, Z2, Z3, Z4, Z5, Z6])
                refine anyH_skip 35 _ rfl (by kernel_rfl) (by kernel_rfl) (by kernel_rfl) (fun _ _ _ h => h) rfl hS ?_
                (try simp only [Act.put, Z1, Z2, Z3, Z4, Z5, Z6])
                refine anyH_skip 36 _ rfl (by kernel_rfl) (by kernel_rfl) (by kernel_rfl) (fun _ _ _ h => h) rfl hS ?_
                (try simp only [Act.put, Z1, Z2, Z3, Z4, Z5, Z6])
                refine anyH_skip 37 _ rfl (by kernel_rfl) (by kernel_rfl) (by kernel_rfl) (fun _ _ _ h => h) rfl hS ?_
                (try simp only [Act.put, Z1, Z2, Z3, Z4, Z5, Z6])
                refine anyH_skip 38 _ rfl (by kernel_rfl) (by kernel_rfl) (by kernel_rfl) (fun _ _ _ h => h) rfl hS ?_
                (try simp only [Act.put, Z1, Z2, Z3, Z4, Z5, Z6])
                refine anyH_skip 39 _ rfl (by kernel_rfl) (by kernel_rfl) (by kernel_rfl) (fun _ _ _ h => h) rfl hS ?_
                (try simp only [Act.put, Z1, Z2, Z3, Z4, Z5, Z6])
                refine anyH_skip 40 _ rfl (by kernel_rfl) (by kernel_rfl) (by kernel_rfl) (fun _ _ _ h => h) rfl hS ?_
                (try simp only [Act.put, Z1, Z2, Z3, Z4, Z5, Z6])
                refine anyH_skip 41 _ rfl (by kernel_rfl) (by kernel_rfl) (by kernel_rfl) (fun _ _ _ h => h) rfl hS ?_
                (try simp only [Act.put, Z1, Z2, Z3, Z4, Z5, Z6])
                refine anyH_skip 42 _ rfl (by kernel_rfl) (by kernel_rfl) (by kernel_rfl) (fun _ _ _ h => h) rfl hS ?_
                (try simp only [Act.put, Z1, Z2, Z3, Z4, Z5, Z6])
                refine anyH_skip 43 _ rfl (by kernel_rfl) (by kernel_rfl) (by kernel_rfl) (fun _ _ _ h => h) rfl hS ?_
                (try simp only [Act.put, Z1, Z2, Z3, Z4, Z5, Z6])
                refine anyH_skip 44 _ rfl (by kernel_rfl) (by kernel_rfl) (by kernel_rfl) (fun _ _ _ h => h) rfl hS ?_
                (try simp only [Act.put, Z1, Z2, Z3, Z4, Z5, Z6])
                refine anyH_skip 45 _ rfl (by kernel_rfl) (by kernel_rfl) (by kernel_rfl) (fun _ _ _ h => h) rfl hS ?_
                (try simp only [Act.put, Z1, Z2, Z3, Z4, Z5, Z6])
                refine anyH_pure 46 _ ?_ rfl (by kernel_rfl) (by kernel_rfl) (by kernel_rfl) (fun _ _ _ h => h) rfl ?_ hS ?_
                rotate_left
                · (intro w'; go_simp; (try with_reducible rfl))
                (try simp only [Act.put, Z1, Z2, Z3, Z4, Z5, Z6])
                refine wpAnyH_done (by kernel_rfl) ?_ _
                go_wp2_with fail
                go_meet
                case rel => exact ⟨true, rfl, hS, HB⟩
              · have hpd : decide ((pg : Int) ≤ cl.page) = false := by simp; omega
                by_cases hk2 : cl.kind = 2
                · have hk2' : (cl.kind == 2) = true := by simp [hk2]
                  by_cases ho1 : cl.off < 0
                  · have ho' : decide (cl.off < 0) = true := by simp [ho1]
                    have HB : BadQ true M cl := ⟨fun _ => .inr (.inr ⟨hk2, .inl ho1⟩), fun _ => rfl⟩
                    clear h7 h1 h2 hp' hk2 hp
                    refine anyH_pure 0 _ ?_ rfl (by kernel_rfl) (by kernel_rfl) (by kernel_rfl) (fun _ _ _ h => h) rfl ?_ hS ?_
                    rotate_left
                    · (intro w'; go_simp; (try with_reducible rfl))
                    (try simp only [Act.put, Z1, Z2, Z4, Z5, Z6])
                    refine anyH_if 1 _ ?_ rfl (by kernel_rfl) (by kernel_rfl) (by kernel_rfl) (fun _ _ _ h => h) rfl ?_ hS ?_
                    rotate_left
                    · (intro w' h; have c0 := h.b0; go_simp; (try with_reducible rfl))
                    (try simp only [Act.put, Z1, Z2, Z3, Z4, Z5, Z6])
                    refine anyH_pure 2 _ ?_ rfl (by kernel_rfl) (by kernel_rfl) (by kernel_rfl) (fun _ _ _ h => h) rfl ?_ hS ?_
                    rotate_left
                    · (intro w'; go_simp; (try with_reducible rfl))
                    (try simp only [Act.put, Z1, Z2, Z3, Z4, Z5, Z6])
                    refine anyH_pure 3 _ ?_ rfl (by kernel_rfl) (by kernel_rfl) (by kernel_rfl) (fun _ _ _ h => h) rfl ?_ hS ?_
                    rotate_left
                    · (intro w'; go_simp; (try with_reducible rfl))
                    (try simp only [Act.put, Z1, Z2, Z3, Z4, Z5, Z6])
                    refine anyH_pure 4 _ ?_ rfl (by kernel_rfl) (by kernel_rfl) (by kernel_rfl) (fun _ _ _ h => h) rfl ?_ hS ?_
                    rotate_left
                    · (intro w'; go_simp; (try with_reducible rfl))
                    (try simp only [Act.put, Z1, Z2, Z3, Z4, Z5, Z6])
                    refine anyH_if 5 _ ?_ rfl (by kernel_rfl) (by kernel_rfl) (by kernel_rfl) (fun _ _ _ h => h) rfl ?_ hS ?_
                    rotate_left
                    · (intro w' h; have c0 := h.b0; go_simp; (try with_reducible rfl))
                    (try simp only [Act.put, Z1, Z2, Z3, Z4, Z5, Z6])
                    refine anyH_pure 6 _ ?_ rfl (by kernel_rfl) (by kernel_rfl) (by kernel_rfl) (fun _ _ _ h => h) rfl ?_ hS ?_
                    rotate_left
                    · (intro w'; go_simp; (try with_reducible rfl))
                    (try simp only [Act.put, Z1, Z2, Z3, Z4, Z5, Z6])
                    refine anyH_pure 7 _ ?_ rfl (by kernel_rfl) (by kernel_rfl) (by kernel_rfl) (fun _ _ _ h => h) rfl ?_ hS ?_
                    rotate_left
                    · (intro w'; go_simp; (try with_reducible rfl))
                    (try simp only [Act.put, Z1, Z2, Z3, Z4, Z5, Z6])
                    refine anyH_pure 8 _ ?_ rfl (by kernel_rfl) (by kernel_rfl) (by kernel_rfl) (fun _ _ _ h => h) rfl ?_ hS ?_
                    rotate_left
                    · (intro w'; go_simp; (try with_reducible rfl))
                    (try simp only [Act.put, Z1, Z2, Z3, Z4, Z5, Z6])
                    refine anyH_if 9 _ ?_ rfl (by kernel_rfl) (by kernel_rfl) (by kernel_rfl) (fun _ _ _ h => h) rfl ?_ hS ?_
                    rotate_left
                    · (intro w' h; have c0 := h.b0; go_simp; (try with_reducible rfl))
                    (try simp only [Act.put, Z1, Z2, Z3, Z4, Z5, Z6])
                    refine anyH_pure 10 _ ?_ rfl (by kernel_rfl) (by kernel_rfl) (by kernel_rfl) (fun _ _ _ h => h) rfl ?_ hS ?_
                    rotate_left
                    · (intro w'; go_simp; (try with_reducible rfl))
                    (try simp only [Act.put, Z1, Z2, Z3, Z4, Z5, Z6])
                    refine anyH_pure 11 _ ?_ rfl (by kernel_rfl) (by kernel_rfl) (by kernel_rfl) (fun _ _ _ h => h) rfl ?_ hS ?_
                    rotate_left
                    · (intro w'; go_simp; (try with_reducible rfl))
                    (try simp only [Act.put, Z1, Z2, Z3, Z4, Z5, Z6])
                    refine anyH_pure 12 _ ?_ rfl (by kernel_rfl) (by kernel_rfl) (by kernel_rfl) (fun _ _ _ h => h) rfl ?_ hS ?_
                    rotate_left
                    · (intro w'; go_simp; (try with_reducible rfl))
                    (try simp only [Act.put, Z1, Z2, Z3, Z4, Z5, Z6])
                    refine anyH_pure 13 _ ?_ rfl (by kernel_rfl) (by kernel_rfl) (by kernel_rfl) (fun _ _ _ h => h) rfl ?_ hS ?_
                    rotate_left
                    · (intro w'; go_simp; (try with_reducible rfl))
                    (try simp only [Act.put, Z1, Z2, Z3, Z4, Z5, Z6])
                    refine anyH_if 14 _ ?_ rfl (by kernel_rfl) (by kernel_rfl) (by kernel_rfl) (fun _ _ _ h => h) rfl ?_ hS ?_
                    rotate_left
                    · (intro w' h; have c0 := h.b2; go_simp; (try with_reducible rfl))
                    (try simp only [Act.put, Z1, Z2, Z3, Z4, Z5, Z6])
                    refine anyH_pure 15 _ ?_ rfl (by kernel_rfl) (by kernel_rfl) (by kernel_rfl) (fun _ _ _ h => h) rfl ?_ hS ?_
                    rotate_left
                    · (intro w'; go_simp; (try with_reducible rfl))
                    (try simp only [Act.put, Z1, Z2, Z3, Z4, Z5, Z6])
                    refine anyH_pure 16 _ ?_ rfl (by kernel_rfl) (by kernel_rfl) (by kernel_rfl) (fun _ _ _ h => h) rfl ?_ hS ?_
                    rotate_left
                    · (intro w'; go_simp; (try with_reducible rfl))
                    (try simp only [Act.put, Z1, Z2, Z3, Z4, Z5, Z6])
                    refine anyH_pure 17 _ ?_ rfl (by kernel_rfl) (by kernel_rfl) (by kernel_rfl) (fun _ _ _ h => h) rfl ?_ hS ?_
                    rotate_left
                    · (intro w'; go_simp; (try with_reducible rfl))
                    (try simp only [Act.put, Z1, Z2, Z3, Z4, Z5, Z6])
                    refine anyH_pure 18 _ ?_ rfl (by kernel_rfl) (by kernel_rfl) (by kernel_rfl) (fun _ _ _ h => h) rfl ?_ hS ?_
                    rotate_left
                    · (intro w'; go_simp; (try with_reducible rfl))
                    (try simp only [Act.put, Z1, Z2, Z3, Z4, Z5, Z6])
                    refine anyH_if 19 _ ?_ rfl (by kernel_rfl) (by kernel_rfl) (by kernel_rfl) (fun _ _ _ h => h) rfl ?_ hS ?_
                    rotate_left
                    · (intro w' h; have c0 := (hc0.out _ h); go_simp; (try with_reducible rfl))
                    (try simp only [Act.put, Z1, Z2, Z3, Z4, Z5, Z6])
                    refine anyH_pure 20 _ ?_ rfl (by kernel_rfl) (by kernel_rfl) (by kernel_rfl) (fun _ _ _ h => h) rfl ?_ hS ?_
                    rotate_left
                    · (intro w'; go_simp; (try with_reducible rfl))
                    (try simp only [Act.put, Z1, Z2, Z3, Z4, Z5, Z6])
                    refine anyH_pure 21 _ ?_ rfl (by kernel_rfl) (by kernel_rfl) (by kernel_rfl) (fun _ _ _ h => h) rfl ?_ hS ?_
                    rotate_left
                    · (intro w'; go_simp; (try with_reducible rfl))
                    (try simp only [Act.put, Z1, Z2, Z3, Z4, Z5, Z6])
                    refine anyH_pure 22 _ ?_ rfl (by kernel_rfl) (by kernel_rfl) (by kernel_rfl) (fun _ _ _ h => h) rfl ?_ hS ?_
                    rotate_left
                    · (intro w'; go_simp; (try with_reducible rfl))
                    (try simp only [Act.put, Z1, Z2, Z3, Z4, Z5, Z6])
                    refine anyH_pure 23 _ ?_ rfl (by kernel_rfl) (by kernel_rfl) (by kernel_rfl) (fun _ _ _ h => h) rfl ?_ hS ?_
                    rotate_left
                    · (intro w'; go_simp; (try with_reducible rfl))
                    (try simp only [Act.put, Z1, Z2, Z3, Z4, Z5, Z6])
                    refine anyH_pure 24 _ ?_ rfl (by kernel_rfl) (by kernel_rfl) (by kernel_rfl) (fun _ _ _ h => h) rfl ?_ hS ?_
                    rotate_left
                    · (intro w'; go_simp; (try with_reducible rfl))
                    (try simp only [Act.put, Z1, Z2, Z3, Z4, Z5, Z6])
                    refine anyH_if 25 _ ?_ rfl (by kernel_rfl) (by kernel_rfl) (by kernel_rfl) (fun _ _ _ h => h) rfl ?_ hS ?_
                    rotate_left
                    · (intro w' h; have c0 := h.b0; go_simp; (try with_reducible rfl))
                    (try simp only [Act.put, Z1, Z2, Z3, Z4, Z5, Z6])
                    refine anyH_pure 26 _ ?_ rfl (by kernel_rfl) (by kernel_rfl) (by kernel_rfl) (fun _ _ _ h => h) rfl ?_ hS ?_
                    rotate_left
                    · (intro w'; go_simp; (try with_reducible rfl))
                    (try simp only [Act.put, Z1, Z2, Z3, Z4, Z5, Z6])
                    refine anyH_pure 27 _ ?_ rfl (by kernel_rfl) (by kernel_rfl) (by kernel_rfl) (fun _ _ _ h => h) rfl ?_ hS ?_
                    rotate_left
                    · (intro w'; go_simp; (try with_reducible rfl))
                    (try simp only [Act.put, Z1, Z2, Z3, Z4, Z5, Z6])
                    refine anyH_pure 28 _ ?_ rfl (by kernel_rfl) (by kernel_rfl) (by kernel_rfl) (fun _ _ _ h => h) rfl ?_ hS ?_
                    rotate_left
                    · (intro w'; go_simp; (try with_reducible rfl))
                    (try simp only [Act.put, Z1, Z2, Z3, Z4, Z5, Z6])
                    refine anyH_if 29 _ ?_ rfl (by kernel_rfl) (by kernel_rfl) (by kernel_rfl) (fun _ _ _ h => h) rfl ?_ hS ?_
                    rotate_left
                    · (intro w' h; have c0 := h.b3; go_simp; (try with_reducible rfl))
                    (try simp only [Act.put, Z1, Z2, Z3, Z4, Z5, Z6])
                    refine anyH_pure 30 _ ?_ rfl (by kernel_rfl) (by kernel_rfl) (by kernel_rfl) (fun _ _ _ h => h) rfl ?_ hS ?_
                    rotate_left
                    · (intro w'; go_simp; (try with_reducible rfl))
                    (try simp only [Act.put, Z1, Z2, Z3, Z4, Z5, Z6])
                    refine anyH_pure 31 _ ?_ rfl (by kernel_rfl) (by kernel_rfl) (by kernel_rfl) (fun _ _ _ h => h) rfl ?_ hS ?_
                    rotate_left
                    · (intro w'; go_simp; (try with_reducible rfl))
                    (try simp only [Act.put, Z1, Z2, Z3, Z4, Z5, Z6])
                    refine anyH_skip 32 _ rfl (by kernel_rfl) (by kernel_rfl) (by kernel_rfl) (fun _ _ _ h => h) rfl hS ?_
                    (try simp only [Act.put, Z1, Z2, Z3, Z4, Z5, Z6])
                    refine anyH_skip 33 _ rfl (by kernel_rfl) (by kernel_rfl) (by kernel_rfl) (fun _ _ _ h => h) rfl hS ?_
                    (try simp only [Act.put, Z1, Z2, Z3, Z4, Z5, Z6])
                    refine anyH_skip 34 _ rfl (by kernel_rfl) (by kernel_rfl) (by kernel_rfl) (fun _ _ _ h => h) rfl hS ?_
                    (try simp only [Act.put, Z1, Z2, Z3, Z4, Z5, Z6])
                    refine anyH_pure 35 _ ?_ rfl (by kernel_rfl) (by kernel_rfl) (by kernel_rfl) (fun _ _ _ h => h) rfl ?_ hS ?_
                    rotate_left
                    · (intro w'; go_simp; (try with_reducible rfl))
                    (try simp only [Act.put, Z1, Z2, Z3, Z4, Z5, Z6])
                    refine anyH_pure 36 _ ?_ rfl (by kernel_rfl) (by kernel_rfl) (by kernel_rfl) (fun _ _ _ h => h) rfl ?_ hS ?_
                    rotate_left
                    · (intro w'; go_simp; (try with_reducible rfl))
                    (try simp only [Act.put, Z1, Z2, Z3, Z4, Z5, Z6])
                    refine anyH_skip 37 _ rfl (by kernel_rfl) (by kernel_rfl) (by kernel_rfl) (fun _ _ _ h => h) rfl hS ?_
                    (try simp only [Act.put, Z1, Z2, Z3, Z4, Z5, Z6])
                    refine anyH_skip 38 _ rfl (by kernel_rfl) (by kernel_rfl) (by kernel_rfl) (fun _ _ _ h => h) rfl hS ?_
                    (try simp only [Act.put, Z1, Z2, Z3, Z4, Z5, Z6])
                    refine anyH_skip 39 _ rfl (by kernel_rfl) (by kernel_rfl) (by kernel_rfl) (fun _ _ _ h => h) rfl hS ?_
                    (try simp only [Act.put, Z1, Z2, Z3, Z4, Z5, Z6])
                    refine anyH_skip 40 _ rfl (by kernel_rfl) (by kernel_rfl) (by kernel_rfl) (fun _ _ _ h => h) rfl hS ?_
                    (try simp only [Act.put, Z1, Z2, Z3, Z4, Z5, Z6])
                    refine anyH_skip 41 _ rfl (by kernel_rfl) (by kernel_rfl) (by kernel_rfl) (fun _ _ _ h => h) rfl hS ?_
                    (try simp only [Act.put, Z1, Z2, Z3, Z4, Z5, Z6])
                    refine anyH_skip 42 _ rfl (by kernel_rfl) (by kernel_rfl) (by kernel_rfl) (fun _ _ _ h => h) rfl hS ?_
                    (try simp only [Act.put, Z1, Z2, Z3, Z4, Z5, Z6])
                    refine anyH_skip 43 _ rfl (by kernel_rfl) (by kernel_rfl) (by kernel_rfl) (fun _ _ _ h => h) rfl hS ?_
                    (try simp only [Act.put, Z1, Z2, Z3, Z4, Z5, Z6])
                    refine anyH_pure 44 _ ?_ rfl (by kernel_rfl) (by kernel_rfl) (by kernel_rfl) (fun _ _ _ h => h) rfl ?_ hS ?_
                    rotate_left
                    · (intro w'; go_simp; (try with_reducible rfl))
                    (try simp only [Act.put, Z1, Z2, Z3, Z4, Z5, Z6])
                    refine anyH_pure 45 _ ?_ rfl (by kernel_rfl) (by kernel_rfl) (by kernel_rfl) (fun _ _ _ h => h) rfl ?_ hS ?_
                    rotate_left
                    · (intro w'; go_simp; (try with_reducible rfl))
                    (try simp only [Act.put, Z1, Z2, Z3, Z4, Z5, Z6])
                    refine anyH_pure 46 _ ?_ rfl (by kernel_rfl) (by kernel_rfl) (by kernel_rfl) (fun _ _ _ h => h) rfl ?_ hS ?_
                    rotate_left
                    · (intro w'; go_simp; (try with_reducible rfl))
                    (try simp only [Act.put, Z1, Z2, Z3, Z4, Z5, Z6])
                    refine wpAnyH_done (by kernel_rfl) ?_ _
                    go_wp2_with fail
                    go_meet
                    case rel => exact ⟨true, rfl, hS, HB⟩
                  · have ho' : decide (cl.off < 0) = false := by simp; omega
                    by_cases ho2 : 64 < cl.off
                    · have ho2' : decide (64 < cl.off) = true := by simp [ho2]
                      have HB : BadQ true M cl := ⟨fun _ => .inr (.inr ⟨hk2, .inr (.inl ho2)⟩), fun _ => rfl⟩
                      clear h7 h1 h2 hp' hk2 hp ho1 ho2
                      refine anyH_pure 0 _ ?_ rfl (by kernel_rfl) (by kernel_rfl) (by kernel_rfl) (fun _ _ _ h => h) rfl ?_ hS ?_
                      rotate_left
                      · (intro w'; go_simp; (try with_reducible rfl))
                      (try simp only [Act.put, Z1, Z2, Z4, Z5, Z6])
                      refine anyH_if 1 _ ?_ rfl (by kernel_rfl) (by kernel_rfl) (by kernel_rfl) (fun _ _ _ h => h) rfl ?_ hS ?_
                      rotate_left
                      · (intro w' h; have c0 := h.b0; go_simp; (try with_reducible rfl))
                      (try simp only [Act.put, Z1, Z2, Z3, Z4, Z5, Z6])
                      refine anyH_pure 2 _ ?_ rfl (by kernel_rfl) (by kernel_rfl) (by kernel_rfl) (fun _ _ _ h => h) rfl ?_ hS ?_
                      rotate_left
                      · (intro w'; go_simp; (try with_reducible rfl))
                      (try simp only [Act.put, Z1, Z2, Z3, Z4, Z5, Z6])
                      refine anyH_pure 3 _ ?_ rfl (by kernel_rfl) (by kernel_rfl) (by kernel_rfl) (fun _ _ _ h => h) rfl ?_ hS ?_
                      rotate_left
                      · (intro w'; go_simp; (try with_reducible rfl))
                      (try simp only [Act.put, Z1, Z2, Z3, Z4, Z5, Z6])
                      refine anyH_pure 4 _ ?_ rfl (by kernel_rfl) (by kernel_rfl) (by kernel_rfl) (fun _ _ _ h => h) rfl ?_ hS ?_
                      rotate_left
                      · (intro w'; go_simp; (try with_reducible rfl))
                      (try simp only [Act.put, Z1, Z2, Z3, Z4, Z5, Z6])
                      refine anyH_if 5 _ ?_ rfl (by kernel_rfl) (by kernel_rfl) (by kernel_rfl) (fun _ _ _ h => h) rfl ?_ hS ?_
                      rotate_left
                      · (intro w' h; have c0 := h.b0; go_simp; (try with_reducible rfl))
                      (try simp only [Act.put, Z1, Z2, Z3, Z4, Z5, Z6])
                      refine anyH_pure 6 _ ?_ rfl (by kernel_rfl) (by kernel_rfl) (by kernel_rfl) (fun _ _ _ h => h) rfl ?_ hS ?_
                      rotate_left
                      · (intro w'; go_simp; (try with_reducible rfl))
                      (try simp only [Act.put, Z1, Z2, Z3, Z4, Z5, Z6])
                      refine anyH_pure 7 _ ?_ rfl (by kernel_rfl) (by kernel_rfl) (by kernel_rfl) (fun _ _ _ h => h) rfl ?_ hS ?_
                      rotate_left
                      · (intro w'; go_simp; (try with_reducible rfl))
                      (try simp only [Act.put, Z1, Z2, Z3, Z4, Z5, Z6])
                      refine anyH_pure 8 _ ?_ rfl (by kernel_rfl) (by kernel_rfl) (by kernel_rfl) (fun _ _ _ h => h) rfl ?_ hS ?_
                      rotate_left
                      · (intro w'; go_simp; (try with_reducible rfl))
                      (try simp only [Act.put, Z1, Z2, Z3, Z4, Z5, Z6])
                      refine anyH_if 9 _ ?_ rfl (by kernel_rfl) (by kernel_rfl) (by kernel_rfl) (fun _ _ _ h => h) rfl ?_ hS ?_
                      rotate_left
                      · (intro w' h; have c0 := h.b0; go_simp; (try with_reducible rfl))
                      (try simp only [Act.put, Z1, Z2, Z3, Z4, Z5, Z6])
                      refine anyH_pure 10 _ ?_ rfl (by kernel_rfl) (by kernel_rfl) (by kernel_rfl) (fun _ _ _ h => h) rfl ?_ hS ?_
                      rotate_left
                      · (intro w'; go_simp; (try with_reducible rfl))
                      (try simp only [Act.put, Z1, Z2, Z3, Z4, Z5, Z6])
                      refine anyH_pure 11 _ ?_ rfl (by kernel_rfl) (by kernel_rfl) (by kernel_rfl) (fun _ _ _ h => h) rfl ?_ hS ?_
                      rotate_left
                      · (intro w'; go_simp; (try with_reducible rfl))
                      (try simp only [Act.put, Z1, Z2, Z3, Z4, Z5, Z6])
                      refine anyH_pure 12 _ ?_ rfl (by kernel_rfl) (by kernel_rfl) (by kernel_rfl) (fun _ _ _ h => h) rfl ?_ hS ?_
                      rotate_left
                      · (intro w'; go_simp; (try with_reducible rfl))
                      (try simp only [Act.put, Z1, Z2, Z3, Z4, Z5, Z6])
                      refine anyH_pure 13 _ ?_ rfl (by kernel_rfl) (by kernel_rfl) (by kernel_rfl) (fun _ _ _ h => h) rfl ?_ hS ?_
                      rotate_left
                      · (intro w'; go_simp; (try with_reducible rfl))
                      (try simp only [Act.put, Z1, Z2, Z3, Z4, Z5, Z6])
                      refine anyH_if 14 _ ?_ rfl (by kernel_rfl) (by kernel_rfl) (by kernel_rfl) (fun _ _ _ h => h) rfl ?_ hS ?_
                      rotate_left
                      · (intro w' h; have c0 := h.b2; go_simp; (try with_reducible rfl))
                      (try simp only [Act.put, Z1, Z2, Z3, Z4, Z5, Z6])
                      refine anyH_pure 15 _ ?_ rfl (by kernel_rfl) (by kernel_rfl) (by kernel_rfl) (fun _ _ _ h => h) rfl ?_ hS ?_
                      rotate_left
                      · (intro w'; go_simp; (try with_reducible rfl))
                      (try simp only [Act.put, Z1, Z2, Z3, Z4, Z5, Z6])
                      refine anyH_pure 16 _ ?_ rfl (by kernel_rfl) (by kernel_rfl) (by kernel_rfl) (fun _ _ _ h => h) rfl ?_ hS ?_
                      rotate_left
                      · (intro w'; go_simp; (try with_reducible rfl))
                      (try simp only [Act.put, Z1, Z2, Z3, Z4, Z5, Z6])
                      refine anyH_pure 17 _ ?_ rfl (by kernel_rfl) (by kernel_rfl) (by kernel_rfl) (fun _ _ _ h => h) rfl ?_ hS ?_
                      rotate_left
                      · (intro w'; go_simp; (try with_reducible rfl))
                      (try simp only [Act.put, Z1, Z2, Z3, Z4, Z5, Z6])
                      refine anyH_pure 18 _ ?_ rfl (by kernel_rfl) (by kernel_rfl) (by kernel_rfl) (fun _ _ _ h => h) rfl ?_ hS ?_
                      rotate_left
                      · (intro w'; go_simp; (try with_reducible rfl))
                      (try simp only [Act.put, Z1, Z2, Z3, Z4, Z5, Z6])
                      refine anyH_if 19 _ ?_ rfl (by kernel_rfl) (by kernel_rfl) (by kernel_rfl) (fun _ _ _ h => h) rfl ?_ hS ?_
                      rotate_left
                      · (intro w' h; have c0 := (hc0.out _ h); go_simp; (try with_reducible rfl))
                      (try simp only [Act.put, Z1, Z2, Z3, Z4, Z5, Z6])
                      refine anyH_pure 20 _ ?_ rfl (by kernel_rfl) (by kernel_rfl) (by kernel_rfl) (fun _ _ _ h => h) rfl ?_ hS ?_
                      rotate_left
                      · (intro w'; go_simp; (try with_reducible rfl))
                      (try simp only [Act.put, Z1, Z2, Z3, Z4, Z5, Z6])
                      refine anyH_pure 21 _ ?_ rfl (by kernel_rfl) (by kernel_rfl) (by kernel_rfl) (fun _ _ _ h => h) rfl ?_ hS ?_
                      rotate_left
                      · (intro w'; go_simp; (try with_reducible rfl))
                      (try simp only [Act.put, Z1, Z2, Z3, Z4, Z5, Z6])
                      refine anyH_pure 22 _ ?_ rfl (by kernel_rfl) (by kernel_rfl) (by kernel_rfl) (fun _ _ _ h => h) rfl ?_ hS ?_
                      rotate_left
                      · (intro w'; go_simp; (try with_reducible rfl))
                      (try simp only [Act.put, Z1, Z2, Z3, Z4, Z5, Z6])
                      refine anyH_pure 23 _ ?_ rfl (by kernel_rfl) (by kernel_rfl) (by kernel_rfl) (fun _ _ _ h => h) rfl ?_ hS ?_
                      rotate_left
                      · (intro w'; go_simp; (try with_reducible rfl))
                      (try simp only [Act.put, Z1, Z2, Z3, Z4, Z5, Z6])
                      refine anyH_pure 24 _ ?_ rfl (by kernel_rfl) (by kernel_rfl) (by kernel_rfl) (fun _ _ _ h => h) rfl ?_ hS ?_
                      rotate_left
                      · (intro w'; go_simp; (try with_reducible rfl))
                      (try simp only [Act.put, Z1, Z2, Z3, Z4, Z5, Z6])
                      refine anyH_if 25 _ ?_ rfl (by kernel_rfl) (by kernel_rfl) (by kernel_rfl) (fun _ _ _ h => h) rfl ?_ hS ?_
                      rotate_left
                      · (intro w' h; have c0 := h.b0; go_simp; (try with_reducible rfl))
                      (try simp only [Act.put, Z1, Z2, Z3, Z4, Z5, Z6])
                      refine anyH_pure 26 _ ?_ rfl (by kernel_rfl) (by kernel_rfl) (by kernel_rfl) (fun _ _ _ h => h) rfl ?_ hS ?_
                      rotate_left
                      · (intro w'; go_simp; (try with_reducible rfl))
                      (try simp only [Act.put, Z1, Z2, Z3, Z4, Z5, Z6])
                      refine anyH_pure 27 _ ?_ rfl (by kernel_rfl) (by kernel_rfl) (by kernel_rfl) (fun _ _ _ h => h) rfl ?_ hS ?_
                      rotate_left
                      · (intro w'; go_simp; (try with_reducible rfl))
                      (try simp only [Act.put, Z1, Z2, Z3, Z4, Z5, Z6])
                      refine anyH_pure 28 _ ?_ rfl (by kernel_rfl) (by kernel_rfl) (by kernel_rfl) (fun _ _ _ h => h) rfl ?_ hS ?_
                      rotate_left
                      · (intro w'; go_simp; (try with_reducible rfl))
                      (try simp only [Act.put, Z1, Z2, Z3, Z4, Z5, Z6])
                      refine anyH_if 29 _ ?_ rfl (by kernel_rfl) (by kernel_rfl) (by kernel_rfl) (fun _ _ _ h => h) rfl ?_ hS ?_
                      rotate_left
                      · (intro w' h; have c0 := h.b3; go_simp; (try with_reducible rfl))
                      (try simp only [Act.put, Z1, Z2, Z3, Z4, Z5, Z6])
                      refine anyH_pure 30 _ ?_ rfl (by kernel_rfl) (by kernel_rfl) (by kernel_rfl) (fun _ _ _ h => h) rfl ?_ hS ?_
                      rotate_left
                      · (intro w'; go_simp; (try with_reducible rfl))
                      (try simp only [Act.put, Z1, Z2, Z3, Z4, Z5, Z6])
                      refine anyH_pure 31 _ ?_ rfl (by kernel_rfl) (by kernel_rfl) (by kernel_rfl) (fun _ _ _ h => h) rfl ?_ hS ?_
                      rotate_left
                      · (intro w'; go_simp; (try with_reducible rfl))
                      (try simp only [Act.put, Z1, Z2, Z3, Z4, Z5, Z6])
                      refine anyH_pure 32 _ ?_ rfl (by kernel_rfl) (by kernel_rfl) (by kernel_rfl) (fun _ _ _ h => h) rfl ?_ hS ?_
                      rotate_left
                      · (intro w'; go_simp; (try with_reducible rfl))
                      (try simp only [Act.put, Z1, Z2, Z3, Z4, Z5, Z6])
                      refine anyH_if 33 _ ?_ rfl (by kernel_rfl) (by kernel_rfl) (by kernel_rfl) (fun _ _ _ h => h) rfl ?_ hS ?_
                      rotate_left
                      · (intro w' h; have c0 := h.b3; go_simp; (try with_reducible rfl))
                      (try simp only [Act.put, Z1, Z2, Z3, Z4, Z5, Z6])
                      refine anyH_pure 34 _ ?_ rfl (by kernel_rfl) (by kernel_rfl) (by kernel_rfl) (fun _ _ _ h => h) rfl ?_ hS ?_
                      rotate_left
                      · (intro w'; go_simp; (try with_reducible rfl))
                      (try simp only [Act.put, Z1, Z2, Z3, Z4, Z5, Z6])
                      refine anyH_pure 35 _ ?_ rfl (by kernel_rfl) (by kernel_rfl) (by kernel_rfl) (fun _ _ _ h => h) rfl ?_ hS ?_
                      rotate_left
                      · (intro w'; go_simp; (try with_reducible rfl))
                      (try simp only [Act.put, Z1, Z2, Z3, Z4, Z5, Z6])
                      refine anyH_pure 36 _ ?_ rfl (by kernel_rfl) (by kernel_rfl) (by kernel_rfl) (fun _ _ _ h => h) rfl ?_ hS ?_
                      rotate_left
                      · (intro w'; go_simp; (try with_reducible rfl))
                      (try simp only [Act.put, Z1, Z2, Z3, Z4, Z5, Z6])
                      refine anyH_skip 37 _ rfl (by kernel_rfl) (by kernel_rfl) (by kernel_rfl) (fun _ _ _ h => h) rfl hS ?_
                      (try simp only [Act.put, Z1, Z2, Z3, Z4, Z5, Z6])
                      refine anyH_skip 38 _ rfl (by kernel_rfl) (by kernel_rfl) (by kernel_rfl) (fun _ _ _ h => h) rfl hS ?_
                      (try simp only [Act.put, Z1, Z2, Z3, Z4, Z5, Z6])
                      refine anyH_skip 39 _ rfl (by kernel_rfl) (by kernel_rfl) (by kernel_rfl) (fun _ _ _ h => h) rfl hS ?_
                      (try simp only [Act.put, Z1, Z2, Z3, Z4, Z5, Z6])
                      refine anyH_skip 40 _ rfl (by kernel_rfl) (by kernel_rfl) (by kernel_rfl) (fun _ _ _ h => h) rfl hS ?_
                      (try simp only [Act.put, Z1, Z2, Z3, Z4, Z5, Z6])
                      refine anyH_skip 41 _ rfl (by kernel_rfl) (by kernel_rfl) (by kernel_rfl) (fun _ _ _ h => h) rfl hS ?_
                      (try simp only [Act.put, Z1, Z2, Z3, Z4, Z5, Z6])
                      refine anyH_skip 42 _ rfl (by kernel_rfl) (by kernel_rfl) (by kernel_rfl) (fun _ _ _ h => h) rfl hS ?_
                      (try simp only [Act.put, Z1, Z2, Z3, Z4, Z5, Z6])
                      refine anyH_skip 43 _ rfl (by kernel_rfl) (by kernel_rfl) (by kernel_rfl) (fun _ _ _ h => h) rfl hS ?_
                      (try simp only [Act.put, Z1, Z2, Z3, Z4, Z5, Z6])
                      refine anyH_pure 44 _ ?_ rfl (by kernel_rfl) (by kernel_rfl) (by kernel_rfl) (fun _ _ _ h => h) rfl ?_ hS ?_
                      rotate_left
                      · (intro w'; go_simp; (try with_reducible rfl))
                      (try simp only [Act.put, Z1, Z2, Z3, Z4, Z5, Z6])
                      refine anyH_pure 45 _ ?_ rfl (by kernel_rfl) (by kernel_rfl) (by kernel_rfl) (fun _ _ _ h => h) rfl ?_ hS ?_
                      rotate_left
                      · (intro w'; go_simp; (try with_reducible rfl))
                      (try simp only [Act.put, Z1, Z2, Z3, Z4, Z5, Z6])
                      refine anyH_pure 46 _ ?_ rfl (by kernel_rfl) (by kernel_rfl) (by kernel_rfl) (fun _ _ _ h => h) rfl ?_ hS ?_
                      rotate_left
                      · (intro w'; go_simp; (try with_reducible rfl))
                      (try simp only [Act.put, Z1, Z2, Z3, Z4, Z5, Z6])
                      refine wpAnyH_done (by kernel_rfl) ?_ _
                      go_wp2_with fail
                      go_meet
                      case rel => exact ⟨true, rfl, hS, HB⟩
                    · have ho2' : decide (64 < cl.off) = false := by simp; omega
                      have hw64 : IntKind.i64.wrap (64 - cl.off) = 64 - cl.off := IntWalk.i64_in _ (by omega)
                      by_cases ho3 : 64 - cl.off < (cl.s.size : Int)
                      · have ho3' : decide (64 - cl.off < (cl.s.size : Int)) = true := by simp [ho3]
                        have HB : BadQ true M cl := ⟨fun _ => .inr (.inr ⟨hk2, .inr (.inr ho3)⟩), fun _ => rfl⟩
                        clear h7 h1 h2 hp' hk2 hp ho1 ho2
                        refine anyH_pure 0 _ ?_ rfl (by kernel_rfl) (by kernel_rfl) (by kernel_rfl) (fun _ _ _ h => h) rfl ?_ hS ?_
                        rotate_left
                        · (intro w'; go_simp; (try with_reducible rfl))
                        (try simp only [Act.put, Z1, Z2, Z4, Z5, Z6])
                        refine anyH_if 1 _ ?_ rfl (by kernel_rfl) (by kernel_rfl) (by kernel_rfl) (fun _ _ _ h => h) rfl ?_ hS ?_
                        rotate_left
                        · (intro w' h; have c0 := h.b0; go_simp; (try with_reducible rfl))
                        (try simp only [Act.put, Z1, Z2, Z3, Z4, Z5, Z6])
                        refine anyH_pure 2 _ ?_ rfl (by kernel_rfl) (by kernel_rfl) (by kernel_rfl) (fun _ _ _ h => h) rfl ?_ hS ?_
                        rotate_left
                        · (intro w'; go_simp; (try with_reducible rfl))
                        (try simp only [Act.put, Z1, Z2, Z3, Z4, Z5, Z6])
                        refine anyH_pure 3 _ ?_ rfl (by kernel_rfl) (by kernel_rfl) (by kernel_rfl) (fun _ _ _ h => h) rfl ?_ hS ?_
                        rotate_left
                        · (intro w'; go_simp; (try with_reducible rfl))
                        (try simp only [Act.put, Z1, Z2, Z3, Z4, Z5, Z6])
                        refine anyH_pure 4 _ ?_ rfl (by kernel_rfl) (by kernel_rfl) (by kernel_rfl) (fun _ _ _ h => h) rfl ?_ hS ?_
                        rotate_left
                        · (intro w'; go_simp; (try with_reducible rfl))
                        (try simp only [Act.put, Z1, Z2, Z3, Z4, Z5, Z6])
                        refine anyH_if 5 _ ?_ rfl (by kernel_rfl) (by kernel_rfl) (by kernel_rfl) (fun _ _ _ h => h) rfl ?_ hS ?_
                        rotate_left
                        · (intro w' h; have c0 := h.b0; go_simp; (try with_reducible rfl))
                        (try simp only [Act.put, Z1, Z2, Z3, Z4, Z5, Z6])
                        refine anyH_pure 6 _ ?_ rfl (by kernel_rfl) (by kernel_rfl) (by kernel_rfl) (fun _ _ _ h => h) rfl ?_ hS ?_
                        rotate_left
                        · (intro w'; go_simp; (try with_reducible rfl))
                        (try simp only [Act.put, Z1, Z2, Z3, Z4, Z5, Z6])
                        refine anyH_pure 7 _ ?_ rfl (by kernel_rfl) (by kernel_rfl) (by kernel_rfl) (fun _ _ _ h => h) rfl ?_ hS ?_
                        rotate_left
                        · (intro w'; go_simp; (try with_reducible rfl))
                        (try simp only [Act.put, Z1, Z2, Z3, Z4, Z5, Z6])
                        refine anyH_pure 8 _ ?_ rfl (by kernel_rfl) (by kernel_rfl) (by kernel_rfl) (fun _ _ _ h => h) rfl ?_ hS ?_
                        rotate_left
                        · (intro w'; go_simp; (try with_reducible rfl))
                        (try simp only [Act.put, Z1, Z2, Z3, Z4, Z5, Z6])
                        refine anyH_if 9 _ ?_ rfl (by kernel_rfl) (by kernel_rfl) (by kernel_rfl) (fun _ _ _ h => h) rfl ?_ hS ?_
                        rotate_left
                        · (intro w' h; have c0 := h.b0; go_simp; (try with_reducible rfl))
                        (try simp only [Act.put, Z1, Z2, Z3, Z4, Z5, Z6])
                        refine anyH_pure 10 _ ?_ rfl (by kernel_rfl) (by kernel_rfl) (by kernel_rfl) (fun _ _ _ h => h) rfl ?_ hS ?_
                        rotate_left
                        · (intro w'; go_simp; (try with_reducible rfl))
                        (try simp only [Act.put, Z1, Z2, Z3, Z4, Z5, Z6])
                        refine anyH_pure 11 _ ?_ rfl (by kernel_rfl) (by kernel_rfl) (by kernel_rfl) (fun _ _ _ h => h) rfl ?_ hS ?_
                        rotate_left
                        · (intro w'; go_simp; (try with_reducible rfl))
                        (try simp only [Act.put, Z1, Z2, Z3, Z4, Z5, Z6])
                        refine anyH_pure 12 _ ?_ rfl (by kernel_rfl) (by kernel_rfl) (by kernel_rfl) (fun _ _ _ h => h) rfl ?_ hS ?_
                        rotate_left
                        · (intro w'; go_simp; (try with_reducible rfl))
                        (try simp only [Act.put, Z1, Z2, Z3, Z4, Z5, Z6])
                        refine anyH_pure 13 _ ?_ rfl (by kernel_rfl) (by kernel_rfl) (by kernel_rfl) (fun _ _ _ h => h) rfl ?_ hS ?_
                        rotate_left
                        · (intro w'; go_simp; (try with_reducible rfl))
                        (try simp only [Act.put, Z1, Z2, Z3, Z4, Z5, Z6])
                        refine anyH_if 14 _ ?_ rfl (by kernel_rfl) (by kernel_rfl) (by kernel_rfl) (fun _ _ _ h => h) rfl ?_ hS ?_
                        rotate_left
                        · (intro w' h; have c0 := h.b2; go_simp; (try with_reducible rfl))
                        (try simp only [Act.put, Z1, Z2, Z3, Z4, Z5, Z6])
                        refine anyH_pure 15 _ ?_ rfl (by kernel_rfl) (by kernel_rfl) (by kernel_rfl) (fun _ _ _ h => h) rfl ?_ hS ?_
                        rotate_left
                        · (intro w'; go_simp; (try with_reducible rfl))
                        (try simp only [Act.put, Z1, Z2, Z3, Z4, Z5, Z6])
                        refine anyH_pure 16 _ ?_ rfl (by kernel_rfl) (by kernel_rfl) (by kernel_rfl) (fun _ _ _ h => h) rfl ?_ hS ?_
                        rotate_left
                        · (intro w'; go_simp; (try with_reducible rfl))
                        (try simp only [Act.put, Z1, Z2, Z3, Z4, Z5, Z6])
                        refine anyH_pure 17 _ ?_ rfl (by kernel_rfl) (by kernel_rfl) (by kernel_rfl) (fun _ _ _ h => h) rfl ?_ hS ?_
                        rotate_left
                        · (intro w'; go_simp; (try with_reducible rfl))
                        (try simp only [Act.put, Z1, Z2, Z3, Z4, Z5, Z6])
                        refine anyH_pure 18 _ ?_ rfl (by kernel_rfl) (by kernel_rfl) (by kernel_rfl) (fun _ _ _ h => h) rfl ?_ hS ?_
                        rotate_left
                        · (intro w'; go_simp; (try with_reducible rfl))
                        (try simp only [Act.put, Z1, Z2, Z3, Z4, Z5, Z6])
                        refine anyH_if 19 _ ?_ rfl (by kernel_rfl) (by kernel_rfl) (by kernel_rfl) (fun _ _ _ h => h) rfl ?_ hS ?_
                        rotate_left
                        · (intro w' h; have c0 := (hc0.out _ h); go_simp; (try with_reducible rfl))
                        (try simp only [Act.put, Z1, Z2, Z3, Z4, Z5, Z6])
                        refine anyH_pure 20 _ ?_ rfl (by kernel_rfl) (by kernel_rfl) (by kernel_rfl) (fun _ _ _ h => h) rfl ?_ hS ?_
                        rotate_left
                        · (intro w'; go_simp; (try with_reducible rfl))
                        (try simp only [Act.put, Z1, Z2, Z3, Z4, Z5, Z6])
                        refine anyH_pure 21 _ ?_ rfl (by kernel_rfl) (by kernel_rfl) (by kernel_rfl) (fun _ _ _ h => h) rfl ?_ hS ?_
                        rotate_left
                        · (intro w'; go_simp; (try with_reducible rfl))
                        (try simp only [Act.put, Z1, Z2, Z3, Z4, Z5, Z6])
                        refine anyH_pure 22 _ ?_ rfl (by kernel_rfl) (by kernel_rfl) (by kernel_rfl) (fun _ _ _ h => h) rfl ?_ hS ?_
                        rotate_left
                        · (intro w'; go_simp; (try with_reducible rfl))
                        (try simp only [Act.put, Z1, Z2, Z3, Z4, Z5, Z6])
                        refine anyH_pure 23 _ ?_ rfl (by kernel_rfl) (by kernel_rfl) (by kernel_rfl) (fun _ _ _ h => h) rfl ?_ hS ?_
                        rotate_left
                        · (intro w'; go_simp; (try with_reducible rfl))
                        (try simp only [Act.put, Z1, Z2, Z3, Z4, Z5, Z6])
                        refine anyH_pure 24 _ ?_ rfl (by kernel_rfl) (by kernel_rfl) (by kernel_rfl) (fun _ _ _ h => h) rfl ?_ hS ?_
                        rotate_left
                        · (intro w'; go_simp; (try with_reducible rfl))
                        (try simp only [Act.put, Z1, Z2, Z3, Z4, Z5, Z6])
                        refine anyH_if 25 _ ?_ rfl (by kernel_rfl) (by kernel_rfl) (by kernel_rfl) (fun _ _ _ h => h) rfl ?_ hS ?_
                        rotate_left
                        · (intro w' h; have c0 := h.b0; go_simp; (try with_reducible rfl))
                        (try simp only [Act.put, Z1, Z2, Z3, Z4, Z5, Z6])
                        refine anyH_pure 26 _ ?_ rfl (by kernel_rfl) (by kernel_rfl) (by kernel_rfl) (fun _ _ _ h => h) rfl ?_ hS ?_
                        rotate_left
                        · (intro w'; go_simp; (try with_reducible rfl))
                        (try simp only [Act.put, Z1, Z2, Z3, Z4, Z5, Z6])
                        refine anyH_pure 27 _ ?_ rfl (by kernel_rfl) (by kernel_rfl) (by kernel_rfl) (fun _ _ _ h => h) rfl ?_ hS ?_
                        rotate_left
                        · (intro w'; go_simp; (try with_reducible rfl))
                        (try simp only [Act.put, Z1, Z2, Z3, Z4, Z5, Z6])
                        refine anyH_pure 28 _ ?_ rfl (by kernel_rfl) (by kernel_rfl) (by kernel_rfl) (fun _ _ _ h => h) rfl ?_ hS ?_
                        rotate_left
                        · (intro w'; go_simp; (try with_reducible rfl))
                        (try simp only [Act.put, Z1, Z2, Z3, Z4, Z5, Z6])
                        refine anyH_if 29 _ ?_ rfl (by kernel_rfl) (by kernel_rfl) (by kernel_rfl) (fun _ _ _ h => h) rfl ?_ hS ?_
                        rotate_left
                        · (intro w' h; have c0 := h.b3; go_simp; (try with_reducible rfl))
                        (try simp only [Act.put, Z1, Z2, Z3, Z4, Z5, Z6])
                        refine anyH_pure 30 _ ?_ rfl (by kernel_rfl) (by kernel_rfl) (by kernel_rfl) (fun _ _ _ h => h) rfl ?_ hS ?_
                        rotate_left
                        · (intro w'; go_simp; (try with_reducible rfl))
                        (try simp only [Act.put, Z1, Z2, Z3, Z4, Z5, Z6])
                        refine anyH_pure 31 _ ?_ rfl (by kernel_rfl) (by kernel_rfl) (by kernel_rfl) (fun _ _ _ h => h) rfl ?_ hS ?_
                        rotate_left
                        · (intro w'; go_simp; (try with_reducible rfl))
                        (try simp only [Act.put, Z1, Z2, Z3, Z4, Z5, Z6])
                        refine anyH_pure 32 _ ?_ rfl (by kernel_rfl) (by kernel_rfl) (by kernel_rfl) (fun _ _ _ h => h) rfl ?_ hS ?_
                        rotate_left
                        · (intro w'; go_simp; (try with_reducible rfl))
                        (try simp only [Act.put, Z1, Z2, Z3, Z4, Z5, Z6])
                        refine anyH_if 33 _ ?_ rfl (by kernel_rfl) (by kernel_rfl) (by kernel_rfl) (fun _ _ _ h => h) rfl ?_ hS ?_
                        rotate_left
                        · (intro w' h; have c0 := h.b3; go_simp; (try with_reducible rfl))
                        (try simp only [Act.put, Z1, Z2, Z3, Z4, Z5, Z6])
                        refine anyH_pure 34 _ ?_ rfl (by kernel_rfl) (by kernel_rfl) (by kernel_rfl) (fun _ _ _ h => h) rfl ?_ hS ?_
                        rotate_left
                        · (intro w'; go_simp; (try with_reducible rfl))
                        (try simp only [Act.put, Z1, Z2, Z3, Z4, Z5, Z6])
                        refine anyH_pure 35 _ ?_ rfl (by kernel_rfl) (by kernel_rfl) (by kernel_rfl) (fun _ _ _ h => h) rfl ?_ hS ?_
                        rotate_left
                        · (intro w'; go_simp; (try with_reducible rfl))
                        (try simp only [Act.put, Z1, Z2, Z3, Z4, Z5, Z6])
                        refine anyH_pure 36 _ ?_ rfl (by kernel_rfl) (by kernel_rfl) (by kernel_rfl) (fun _ _ _ h => h) rfl ?_ hS ?_
                        rotate_left
                        · (intro w'; go_simp; (try with_reducible rfl))
                        (try simp only [Act.put, Z1, Z2, Z3, Z4, Z5, Z6])
                        refine anyH_pure 37 _ ?_ rfl (by kernel_rfl) (by kernel_rfl) (by kernel_rfl) (fun _ _ _ h => h) rfl ?_ hS ?_
                        rotate_left
                        · (intro w'; go_simp; (try with_reducible rfl))
                        (try simp only [Act.put, Z1, Z2, Z3, Z4, Z5, Z6])
                        refine anyH_if 38 _ ?_ rfl (by kernel_rfl) (by kernel_rfl) (by kernel_rfl) (fun _ _ _ h => h) rfl ?_ hS ?_
                        rotate_left
                        · (intro w' h; have c0 := h.b4; go_simp; (try with_reducible rfl))
                        (try simp only [Act.put, Z1, Z2, Z3, Z4, Z5, Z6])
                        refine anyH_if 39 _ ?_ rfl (by kernel_rfl) (by kernel_rfl) (by kernel_rfl) (fun _ _ _ h => h) rfl ?_ hS ?_
                        rotate_left
                        · (intro w' h; go_simp; (try with_reducible rfl))
                        (try simp only [Act.put, Z1, Z2, Z3, Z4, Z5, Z6])
                        refine anyH_pure 40 _ ?_ rfl (by kernel_rfl) (by kernel_rfl) (by kernel_rfl) (fun _ _ _ h => h) rfl ?_ hS ?_
                        rotate_left
                        · (intro w'; go_simp; (try with_reducible rfl))
                        (try simp only [Act.put, Z1, Z2, Z3, Z4, Z5, Z6])
                        refine anyH_if 41 _ ?_ rfl (by kernel_rfl) (by kernel_rfl) (by kernel_rfl) (fun _ _ _ h => h) rfl ?_ hS ?_
                        rotate_left
                        · (intro w' h; have c0 := h.b3; go_simp; (try with_reducible rfl))
                        (try simp only [Act.put, Z1, Z2, Z3, Z4, Z5, Z6])
                        refine anyH_pure 42 _ ?_ rfl (by kernel_rfl) (by kernel_rfl) (by kernel_rfl) (fun _ _ _ h => h) rfl ?_ hS ?_
                        rotate_left
                        · (intro w'; go_simp; (try with_reducible rfl))
                        (try simp only [Act.put, Z1, Z2, Z3, Z4, Z5, Z6])
                        refine anyH_pure 43 _ ?_ rfl (by kernel_rfl) (by kernel_rfl) (by kernel_rfl) (fun _ _ _ h => h) rfl ?_ hS ?_
                        rotate_left
                        · (intro w'; go_simp; (try with_reducible rfl))
                        (try simp only [Act.put, Z1, Z2, Z3, Z4, Z5, Z6])
                        refine anyH_pure 44 _ ?_ rfl (by kernel_rfl) (by kernel_rfl) (by kernel_rfl) (fun _ _ _ h => h) rfl ?_ hS ?_
                        rotate_left
                        · (intro w'; go_simp; (try with_reducible rfl))
                        (try simp only [Act.put, Z1, Z2, Z3, Z4, Z5, Z6])
                        refine anyH_pure 45 _ ?_ rfl (by kernel_rfl) (by kernel_rfl) (by kernel_rfl) (fun _ _ _ h => h) rfl ?_ hS ?_
                        rotate_left
                        · (intro w'; go_simp; (try with_reducible rfl))
                        (try simp only [Act.put, Z1, Z2, Z3, Z4, Z5, Z6])
                        refine anyH_pure 46 _ ?_ rfl (by kernel_rfl) (by kernel_rfl) (by kernel_rfl) (fun _ _ _ h => h) rfl ?_ hS ?_
                        rotate_left
                        · (intro w'; go_simp; (try with_reducible rfl))
                        (try simp only [Act.put, Z1, Z2, Z3, Z4, Z5, Z6])
                        refine wpAnyH_done (by kernel_rfl) ?_ _
                        go_wp2_with fail
                        go_meet
                        case rel => exact ⟨true, rfl, hS, HB⟩
                      · have ho3' : decide (64 - cl.off < (cl.s.size : Int)) = false := by simp; omega
                        have HB : BadQ false M cl := ⟨fun e => (by cases e), fun hb => by
                          rcases hb with hb | ⟨_, hb⟩ | ⟨_, hb⟩
                          · exact absurd hb h7
                          · rw [hp'] at hb; omega
                          · omega⟩
                        clear h7 h1 h2 hp' hk2 hp ho1 ho2
                        refine anyH_pure 0 _ ?_ rfl (by kernel_rfl) (by kernel_rfl) (by kernel_rfl) (fun _ _ _ h => h) rfl ?_ hS ?_
                        rotate_left
                        · (intro w'; go_simp; (try with_reducible rfl))
                        (try simp only [Act.put, Z1, Z2, Z4, Z5, Z6])
                        refine anyH_if 1 _ ?_ rfl (by kernel_rfl) (by kernel_rfl) (by kernel_rfl) (fun _ _ _ h => h) rfl ?_ hS ?_
                        rotate_left
                        · (intro w' h; have c0 := h.b0; go_simp; (try with_reducible rfl))
                        (try simp only [Act.put, Z1, Z2, Z3, Z4, Z5, Z6])
                        refine anyH_pure 2 _ ?_ rfl (by kernel_rfl) (by kernel_rfl) (by kernel_rfl) (fun _ _ _ h => h) rfl ?_ hS ?_
                        rotate_left
                        · (intro w'; go_simp; (try with_reducible rfl))
                        (try simp only [Act.put, Z1, Z2, Z3, Z4, Z5, Z6])
                        refine anyH_pure 3 _ ?_ rfl (by kernel_rfl) (by kernel_rfl) (by kernel_rfl) (fun _ _ _ h => h) rfl ?_ hS ?_
                        rotate_left
                        · (intro w'; go_simp; (try with_reducible rfl))
                        (try simp only [Act.put, Z1, Z2, Z3, Z4, Z5, Z6])
                        refine anyH_pure 4 _ ?_ rfl (by kernel_rfl) (by kernel_rfl) (by kernel_rfl) (fun _ _ _ h => h) rfl ?_ hS ?_
                        rotate_left
                        · (intro w'; go_simp; (try with_reducible rfl))
                        (try simp only [Act.put, Z1, Z2, Z3, Z4, Z5, Z6])
                        refine anyH_if 5 _ ?_ rfl (by kernel_rfl) (by kernel_rfl) (by kernel_rfl) (fun _ _ _ h => h) rfl ?_ hS ?_
                        rotate_left
                        · (intro w' h; have c0 := h.b0; go_simp; (try with_reducible rfl))
                        (try simp only [Act.put, Z1, Z2, Z3, Z4, Z5, Z6])
                        refine anyH_pure 6 _ ?_ rfl (by kernel_rfl) (by kernel_rfl) (by kernel_rfl) (fun _ _ _ h => h) rfl ?_ hS ?_
                        rotate_left
                        · (intro w'; go_simp; (try with_reducible rfl))
                        (try simp only [Act.put, Z1, Z2, Z3, Z4, Z5, Z6])
                        refine anyH_pure 7 _ ?_ rfl (by kernel_rfl) (by kernel_rfl) (by kernel_rfl) (fun _ _ _ h => h) rfl ?_ hS ?_
                        rotate_left
                        · (intro w'; go_simp; (try with_reducible rfl))
                        (try simp only [Act.put, Z1, Z2, Z3, Z4, Z5, Z6])
                        refine anyH_pure 8 _ ?_ rfl (by kernel_rfl) (by kernel_rfl) (by kernel_rfl) (fun _ _ _ h => h) rfl ?_ hS ?_
                        rotate_left
                        · (intro w'; go_simp; (try with_reducible rfl))
                        (try simp only [Act.put, Z1, Z2, Z3, Z4, Z5, Z6])
                        refine anyH_if 9 _ ?_ rfl (by kernel_rfl) (by kernel_rfl) (by kernel_rfl) (fun _ _ _ h => h) rfl ?_ hS ?_
                        rotate_left
                        · (intro w' h; have c0 := h.b0; go_simp; (try with_reducible rfl))
                        (try simp only [Act.put, Z1, Z2, Z3, Z4, Z5, Z6])
                        refine anyH_pure 10 _ ?_ rfl (by kernel_rfl) (by kernel_rfl) (by kernel_rfl) (fun _ _ _ h => h) rfl ?_ hS ?_
                        rotate_left
                        · (intro w'; go_simp; (try with_reducible rfl))
                        (try simp only [Act.put, Z1, Z2, Z3, Z4, Z5, Z6])
                        refine anyH_pure 11 _ ?_ rfl (by kernel_rfl) (by kernel_rfl) (by kernel_rfl) (fun _ _ _ h => h) rfl ?_ hS ?_
                        rotate_left
                        · (intro w'; go_simp; (try with_reducible rfl))
                        (try simp only [Act.put, Z1, Z2, Z3, Z4, Z5, Z6])
                        refine anyH_pure 12 _ ?_ rfl (by kernel_rfl) (by kernel_rfl) (by kernel_rfl) (fun _ _ _ h => h) rfl ?_ hS ?_
                        rotate_left
                        · (intro w'; go_simp; (try with_reducible rfl))
                        (try simp only [Act.put, Z1, Z2, Z3, Z4, Z5, Z6])
                        refine anyH_pure 13 _ ?_ rfl (by kernel_rfl) (by kernel_rfl) (by kernel_rfl) (fun _ _ _ h => h) rfl ?_ hS ?_
                        rotate_left
                        · (intro w'; go_simp; (try with_reducible rfl))
                        (try simp only [Act.put, Z1, Z2, Z3, Z4, Z5, Z6])
                        refine anyH_if 14 _ ?_ rfl (by kernel_rfl) (by kernel_rfl) (by kernel_rfl) (fun _ _ _ h => h) rfl ?_ hS ?_
                        rotate_left
                        · (intro w' h; have c0 := h.b2; go_simp; (try with_reducible rfl))
                        (try simp only [Act.put, Z1, Z2, Z3, Z4, Z5, Z6])
                        refine anyH_pure 15 _ ?_ rfl (by kernel_rfl) (by kernel_rfl) (by kernel_rfl) (fun _ _ _ h => h) rfl ?_ hS ?_
                        rotate_left
                        · (intro w'; go_simp; (try with_reducible rfl))
                        (try simp only [Act.put, Z1, Z2, Z3, Z4, Z5, Z6])
                        refine anyH_pure 16 _ ?_ rfl (by kernel_rfl) (by kernel_rfl) (by kernel_rfl) (fun _ _ _ h => h) rfl ?_ hS ?_
                        rotate_left
                        · (intro w'; go_simp; (try with_reducible rfl))
                        (try simp only [Act.put, Z1, Z2, Z3, Z4, Z5, Z6])
                        refine anyH_pure 17 _ ?_ rfl (by kernel_rfl) (by kernel_rfl) (by kernel_rfl) (fun _ _ _ h => h) rfl ?_ hS ?_
                        rotate_left
                        · (intro w'; go_simp; (try with_reducible rfl))
                        (try simp only [Act.put, Z1, Z2, Z3, Z4, Z5, Z6])
                        refine anyH_pure 18 _ ?_ rfl (by kernel_rfl) (by kernel_rfl) (by kernel_rfl) (fun _ _ _ h => h) rfl ?_ hS ?_
                        rotate_left
                        · (intro w'; go_simp; (try with_reducible rfl))
                        (try simp only [Act.put, Z1, Z2, Z3, Z4, Z5, Z6])
                        refine anyH_if 19 _ ?_ rfl (by kernel_rfl) (by kernel_rfl) (by kernel_rfl) (fun _ _ _ h => h) rfl ?_ hS ?_
                        rotate_left
                        · (intro w' h; have c0 := (hc0.out _ h); go_simp; (try with_reducible rfl))
                        (try simp only [Act.put, Z1, Z2, Z3, Z4, Z5, Z6])
                        refine anyH_pure 20 _ ?_ rfl (by kernel_rfl) (by kernel_rfl) (by kernel_rfl) (fun _ _ _ h => h) rfl ?_ hS ?_
                        rotate_left
                        · (intro w'; go_simp; (try with_reducible rfl))
                        (try simp only [Act.put, Z1, Z2, Z3, Z4, Z5, Z6])
                        refine anyH_pure 21 _ ?_ rfl (by kernel_rfl) (by kernel_rfl) (by kernel_rfl) (fun _ _ _ h => h) rfl ?_ hS ?_
                        rotate_left
                        · (intro w'; go_simp; (try with_reducible rfl))
                        (try simp only [Act.put, Z1, Z2, Z3, Z4, Z5, Z6])
                        refine anyH_pure 22 _ ?_ rfl (by kernel_rfl) (by kernel_rfl) (by kernel_rfl) (fun _ _ _ h => h) rfl ?_ hS ?_
                        rotate_left
                        · (intro w'; go_simp; (try with_reducible rfl))
                        (try simp only [Act.put, Z1, Z2, Z3, Z4, Z5, Z6])
                        refine anyH_pure 23 _ ?_ rfl (by kernel_rfl) (by kernel_rfl) (by kernel_rfl) (fun _ _ _ h => h) rfl ?_ hS ?_
                        rotate_left
                        · (intro w'; go_simp; (try with_reducible rfl))
                        (try simp only [Act.put, Z1, Z2, Z3, Z4, Z5, Z6])
                        refine anyH_pure 24 _ ?_ rfl (by kernel_rfl) (by kernel_rfl) (by kernel_rfl) (fun _ _ _ h => h) rfl ?_ hS ?_
                        rotate_left
                        · (intro w'; go_simp; (try with_reducible rfl))
                        (try simp only [Act.put, Z1, Z2, Z3, Z4, Z5, Z6])
                        refine anyH_if 25 _ ?_ rfl (by kernel_rfl) (by kernel_rfl) (by kernel_rfl) (fun _ _ _ h => h) rfl ?_ hS ?_
                        rotate_left
                        · (intro w' h; have c0 := h.b0; go_simp; (try with_reducible rfl))
                        (try simp only [Act.put, Z1, Z2, Z3, Z4, Z5, Z6])
                        refine anyH_pure 26 _ ?_ rfl (by kernel_rfl) (by kernel_rfl) (by kernel_rfl) (fun _ _ _ h => h) rfl ?_ hS ?_
                        rotate_left
                        · (intro w'; go_simp; (try with_reducible rfl))
                        (try simp only [Act.put, Z1, Z2, Z3, Z4, Z5, Z6])
                        refine anyH_pure 27 _ ?_ rfl (by kernel_rfl) (by kernel_rfl) (by kernel_rfl) (fun _ _ _ h => h) rfl ?_ hS ?_
                        rotate_left
                        · (intro w'; go_simp; (try with_reducible rfl))
                        (try simp only [Act.put, Z1, Z2, Z3, Z4, Z5, Z6])
                        refine anyH_pure 28 _ ?_ rfl (by kernel_rfl) (by kernel_rfl) (by kernel_rfl) (fun _ _ _ h => h) rfl ?_ hS ?_
                        rotate_left
                        · (intro w'; go_simp; (try with_reducible rfl))
                        (try simp only [Act.put, Z1, Z2, Z3, Z4, Z5, Z6])
                        refine anyH_if 29 _ ?_ rfl (by kernel_rfl) (by kernel_rfl) (by kernel_rfl) (fun _ _ _ h => h) rfl ?_ hS ?_
                        rotate_left
                        · (intro w' h; have c0 := h.b3; go_simp; (try with_reducible rfl))
                        (try simp only [Act.put, Z1, Z2, Z3, Z4, Z5, Z6])
                        refine anyH_pure 30 _ ?_ rfl (by kernel_rfl) (by kernel_rfl) (by kernel_rfl) (fun _ _ _ h => h) rfl ?_ hS ?_
                        rotate_left
                        · (intro w'; go_simp; (try with_reducible rfl))
                        (try simp only [Act.put, Z1, Z2, Z3, Z4, Z5, Z6])
                        refine anyH_pure 31 _ ?_ rfl (by kernel_rfl) (by kernel_rfl) (by kernel_rfl) (fun _ _ _ h => h) rfl ?_ hS ?_
                        rotate_left
                        · (intro w'; go_simp; (try with_reducible rfl))
                        (try simp only [Act.put, Z1, Z2, Z3, Z4, Z5, Z6])
                        refine anyH_pure 32 _ ?_ rfl (by kernel_rfl) (by kernel_rfl) (by kernel_rfl) (fun _ _ _ h => h) rfl ?_ hS ?_
                        rotate_left
                        · (intro w'; go_simp; (try with_reducible rfl))
                        (try simp only [Act.put, Z1, Z2, Z3, Z4, Z5, Z6])
                        refine anyH_if 33 _ ?_ rfl (by kernel_rfl) (by kernel_rfl) (by kernel_rfl) (fun _ _ _ h => h) rfl ?_ hS ?_
                        rotate_left
                        · (intro w' h; have c0 := h.b3; go_simp; (try with_reducible rfl))
                        (try simp only [Act.put, Z1, Z2, Z3, Z4, Z5, Z6])
                        refine anyH_pure 34 _ ?_ rfl (by kernel_rfl) (by kernel_rfl) (by kernel_rfl) (fun _ _ _ h => h) rfl ?_ hS ?_
                        rotate_left
                        · (intro w'; go_simp; (try with_reducible rfl))
                        (try simp only [Act.put, Z1, Z2, Z3, Z4, Z5, Z6])
                        refine anyH_pure 35 _ ?_ rfl (by kernel_rfl) (by kernel_rfl) (by kernel_rfl) (fun _ _ _ h => h) rfl ?_ hS ?_
                        rotate_left
                        · (intro w'; go_simp; (try with_reducible rfl))
                        (try simp only [Act.put, Z1, Z2, Z3, Z4, Z5, Z6])
                        refine anyH_pure 36 _ ?_ rfl (by kernel_rfl) (by kernel_rfl) (by kernel_rfl) (fun _ _ _ h => h) rfl ?_ hS ?_
                        rotate_left
                        · (intro w'; go_simp; (try with_reducible rfl))
                        (try simp only [Act.put, Z1, Z2, Z3, Z4, Z5, Z6])
                        refine anyH_pure 37 _ ?_ rfl (by kernel_rfl) (by kernel_rfl) (by kernel_rfl) (fun _ _ _ h => h) rfl ?_ hS ?_
                        rotate_left
                        · (intro w'; go_simp; (try with_reducible rfl))
                        (try simp only [Act.put, Z1, Z2, Z3, Z4, Z5, Z6])
                        refine anyH_if 38 _ ?_ rfl (by kernel_rfl) (by kernel_rfl) (by kernel_rfl) (fun _ _ _ h => h) rfl ?_ hS ?_
                        rotate_left
                        · (intro w' h; have c0 := h.b4; go_simp; (try with_reducible rfl))
                        (try simp only [Act.put, Z1, Z2, Z3, Z4, Z5, Z6])
                        refine anyH_if 39 _ ?_ rfl (by kernel_rfl) (by kernel_rfl) (by kernel_rfl) (fun _ _ _ h => h) rfl ?_ hS ?_
                        rotate_left
                        · (intro w' h; go_simp; (try with_reducible rfl))
                        (try simp only [Act.put, Z1, Z2, Z3, Z4, Z5, Z6])
                        refine anyH_pure 40 _ ?_ rfl (by kernel_rfl) (by kernel_rfl) (by kernel_rfl) (fun _ _ _ h => h) rfl ?_ hS ?_
                        rotate_left
                        · (intro w'; go_simp; (try with_reducible rfl))
                        (try simp only [Act.put, Z1, Z2, Z3, Z4, Z5, Z6])
                        refine anyH_if 41 _ ?_ rfl (by kernel_rfl) (by kernel_rfl) (by kernel_rfl) (fun _ _ _ h => h) rfl ?_ hS ?_
                        rotate_left
                        · (intro w' h; have c0 := h.b3; go_simp; (try with_reducible rfl))
                        (try simp only [Act.put, Z1, Z2, Z3, Z4, Z5, Z6])
                        refine anyH_pure 42 _ ?_ rfl (by kernel_rfl) (by kernel_rfl) (by kernel_rfl) (fun _ _ _ h => h) rfl ?_ hS ?_
                        rotate_left
                        · (intro w'; go_simp; (try with_reducible rfl))
                        (try simp only [Act.put, Z1, Z2, Z3, Z4, Z5, Z6])
                        refine anyH_pure 43 _ ?_ rfl (by kernel_rfl) (by kernel_rfl) (by kernel_rfl) (fun _ _ _ h => h) rfl ?_ hS ?_
                        rotate_left
                        · (intro w'; go_simp; (try with_reducible rfl))
                        (try simp only [Act.put, Z1, Z2, Z3, Z4, Z5, Z6])
                        refine anyH_pure 44 _ ?_ rfl (by kernel_rfl) (by kernel_rfl) (by kernel_rfl) (fun _ _ _ h => h) rfl ?_ hS ?_
                        rotate_left
                        · (intro w'; go_simp; (try with_reducible rfl))
                        (try simp only [Act.put, Z1, Z2, Z3, Z4, Z5, Z6])
                        refine anyH_pure 45 _ ?_ rfl (by kernel_rfl) (by kernel_rfl) (by kernel_rfl) (fun _ _ _ h => h) rfl ?_ hS ?_
                        rotate_left
                        · (intro w'; go_simp; (try with_reducible rfl))
                        (try simp only [Act.put, Z1, Z2, Z3, Z4, Z5, Z6])
                        refine anyH_pure 46 _ ?_ rfl (by kernel_rfl) (by kernel_rfl) (by kernel_rfl) (fun _ _ _ h => h) rfl ?_ hS ?_
                        rotate_left
                        · (intro w'; go_simp; (try with_reducible rfl))
                        (try simp only [Act.put, Z1, Z2, Z3, Z4, Z5, Z6])
                        refine wpAnyH_done (by kernel_rfl) ?_ _
                        go_wp2_with fail
                        go_meet
                        case rel => exact ⟨false, rfl, hS, HB⟩
                · have hk2' : (cl.kind == 2) = false := by simp [hk2]
                  have HB : BadQ false M cl := ⟨fun e => (by cases e), fun hb => by
                    rcases hb with hb | ⟨_, hb⟩ | ⟨hb, _⟩
                    · exact absurd hb h7
                    · rw [hp'] at hb; omega
                    · exact absurd hb hk2⟩
                  clear h7 h1 h2 hp' hk2 hp
                  refine anyH_pure 0 _ ?_ rfl (by kernel_rfl) (by kernel_rfl) (by kernel_rfl) (fun _ _ _ h => h) rfl ?_ hS ?_
                  rotate_left
                  · (intro w'; go_simp; (try with_reducible rfl))
                  (try simp only [Act.put, Z1, Z2, Z4, Z5, Z6])
                  refine anyH_if 1 _ ?_ rfl (by kernel_rfl) (by kernel_rfl) (by kernel_rfl) (fun _ _ _ h => h) rfl ?_ hS ?_
                  rotate_left
                  · (intro w' h; have c0 := h.b0; go_simp; (try with_reducible rfl))
                  (try simp only [Act.put, Z1, Z2, Z3, Z4, Z5, Z6])
                  refine anyH_pure 2 _ ?_ rfl (by kernel_rfl) (by kernel_rfl) (by kernel_rfl) (fun _ _ _ h => h) rfl ?_ hS ?_
                  rotate_left
                  · (intro w'; go_simp; (try with_reducible rfl))
                  (try simp only [Act.put, Z1, Z2, Z3, Z4, Z5, Z6])
                  refine anyH_pure 3 _ ?_ rfl (by kernel_rfl) (by kernel_rfl) (by kernel_rfl) (fun _ _ _ h => h) rfl ?_ hS ?_
                  rotate_left
                  · (intro w'; go_simp; (try with_reducible rfl))
                  (try simp only [Act.put, Z1, Z2, Z3, Z4, Z5, Z6])
                  refine anyH_pure 4 _ ?_ rfl (by kernel_rfl) (by kernel_rfl) (by kernel_rfl) (fun _ _ _ h => h) rfl ?_ hS ?_
                  rotate_left
                  · (intro w'; go_simp; (try with_reducible rfl))
                  (try simp only [Act.put, Z1, Z2, Z3, Z4, Z5, Z6])
                  refine anyH_if 5 _ ?_ rfl (by kernel_rfl) (by kernel_rfl) (by kernel_rfl) (fun _ _ _ h => h) rfl ?_ hS ?_
                  rotate_left
                  · (intro w' h; have c0 := h.b0; go_simp; (try with_reducible rfl))
                  (try simp only [Act.put, Z1, Z2, Z3, Z4, Z5, Z6])
                  refine anyH_pure 6 _ ?_ rfl (by kernel_rfl) (by kernel_rfl) (by kernel_rfl) (fun _ _ _ h => h) rfl ?_ hS ?_
                  rotate_left
                  · (intro w'; go_simp; (try with_reducible rfl))
                  (try simp only [Act.put, Z1, Z2, Z3, Z4, Z5, Z6])
                  refine anyH_pure 7 _ ?_ rfl (by kernel_rfl) (by kernel_rfl) (by kernel_rfl) (fun _ _ _ h => h) rfl ?_ hS ?_
                  rotate_left
                  · (intro w'; go_simp; (try with_reducible rfl))
                  (try simp only [Act.put, Z1, Z2, Z3, Z4, Z5, Z6])
                  refine anyH_pure 8 _ ?_ rfl (by kernel_rfl) (by kernel_rfl) (by kernel_rfl) (fun _ _ _ h => h) rfl ?_ hS ?_
                  rotate_left
                  · (intro w'; go_simp; (try with_reducible rfl))
                  (try simp only [Act.put, Z1, Z2, Z3, Z4, Z5, Z6])
                  refine anyH_if 9 _ ?_ rfl (by kernel_rfl) (by kernel_rfl) (by kernel_rfl) (fun _ _ _ h => h) rfl ?_ hS ?_
                  rotate_left
                  · (intro w' h; have c0 := h.b0; go_simp; (try with_reducible rfl))
                  (try simp only [Act.put, Z1, Z2, Z3, Z4, Z5, Z6])
                  refine anyH_pure 10 _ ?_ rfl (by kernel_rfl) (by kernel_rfl) (by kernel_rfl) (fun _ _ _ h => h) rfl ?_ hS ?_
                  rotate_left
                  · (intro w'; go_simp; (try with_reducible rfl))
                  (try simp only [Act.put, Z1, Z2, Z3, Z4, Z5, Z6])
                  refine anyH_pure 11 _ ?_ rfl (by kernel_rfl) (by kernel_rfl) (by kernel_rfl) (fun _ _ _ h => h) rfl ?_ hS ?_
                  rotate_left
                  · (intro w'; go_simp; (try with_reducible rfl))
                  (try simp only [Act.put, Z1, Z2, Z3, Z4, Z5, Z6])
                  refine anyH_pure 12 _ ?_ rfl (by kernel_rfl) (by kernel_rfl) (by kernel_rfl) (fun _ _ _ h => h) rfl ?_ hS ?_
                  rotate_left
                  · (intro w'; go_simp; (try with_reducible rfl))
                  (try simp only [Act.put, Z1, Z2, Z3, Z4, Z5, Z6])
                  refine anyH_pure 13 _ ?_ rfl (by kernel_rfl) (by kernel_rfl) (by kernel_rfl) (fun _ _ _ h => h) rfl ?_ hS ?_
                  rotate_left
                  · (intro w'; go_simp; (try with_reducible rfl))
                  (try simp only [Act.put, Z1, Z2, Z3, Z4, Z5, Z6])
                  refine anyH_if 14 _ ?_ rfl (by kernel_rfl) (by kernel_rfl) (by kernel_rfl) (fun _ _ _ h => h) rfl ?_ hS ?_
                  rotate_left
                  · (intro w' h; have c0 := h.b2; go_simp; (try with_reducible rfl))
                  (try simp only [Act.put, Z1, Z2, Z3, Z4, Z5, Z6])
                  refine anyH_pure 15 _ ?_ rfl (by kernel_rfl) (by kernel_rfl) (by kernel_rfl) (fun _ _ _ h => h) rfl ?_ hS ?_
                  rotate_left
                  · (intro w'; go_simp; (try with_reducible rfl))
                  (try simp only [Act.put, Z1, Z2, Z3, Z4, Z5, Z6])
                  refine anyH_pure 16 _ ?_ rfl (by kernel_rfl) (by kernel_rfl) (by kernel_rfl) (fun _ _ _ h => h) rfl ?_ hS ?_
                  rotate_left
                  · (intro w'; go_simp; (try with_reducible rfl))
                  (try simp only [Act.put, Z1, Z2, Z3, Z4, Z5, Z6])
                  refine anyH_pure 17 _ ?_ rfl (by kernel_rfl) (by kernel_rfl) (by kernel_rfl) (fun _ _ _ h => h) rfl ?_ hS ?_
                  rotate_left
                  · (intro w'; go_simp; (try with_reducible rfl))
                  (try simp only [Act.put, Z1, Z2, Z3, Z4, Z5, Z6])
                  refine anyH_pure 18 _ ?_ rfl (by kernel_rfl) (by kernel_rfl) (by kernel_rfl) (fun _ _ _ h => h) rfl ?_ hS ?_
                  rotate_left
                  · (intro w'; go_simp; (try with_reducible rfl))
                  (try simp only [Act.put, Z1, Z2, Z3, Z4, Z5, Z6])
                  refine anyH_if 19 _ ?_ rfl (by kernel_rfl) (by kernel_rfl) (by kernel_rfl) (fun _ _ _ h => h) rfl ?_ hS ?_
                  rotate_left
                  · (intro w' h; have c0 := (hc0.out _ h); go_simp; (try with_reducible rfl))
                  (try simp only [Act.put, Z1, Z2, Z3, Z4, Z5, Z6])
                  refine anyH_pure 20 _ ?_ rfl (by kernel_rfl) (by kernel_rfl) (by kernel_rfl) (fun _ _ _ h => h) rfl ?_ hS ?_
                  rotate_left
                  · (intro w'; go_simp; (try with_reducible rfl))
                  (try simp only [Act.put, Z1, Z2, Z3, Z4, Z5, Z6])
                  refine anyH_pure 21 _ ?_ rfl (by kernel_rfl) (by kernel_rfl) (by kernel_rfl) (fun _ _ _ h => h) rfl ?_ hS ?_
                  rotate_left
                  · (intro w'; go_simp; (try with_reducible rfl))
                  (try simp only [Act.put, Z1, Z2, Z3, Z4, Z5, Z6])
                  refine anyH_pure 22 _ ?_ rfl (by kernel_rfl) (by kernel_rfl) (by kernel_rfl) (fun _ _ _ h => h) rfl ?_ hS ?_
                  rotate_left
                  · (intro w'; go_simp; (try with_reducible rfl))
                  (try simp only [Act.put, Z1, Z2, Z3, Z4, Z5, Z6])
                  refine anyH_pure 23 _ ?_ rfl (by kernel_rfl) (by kernel_rfl) (by kernel_rfl) (fun _ _ _ h => h) rfl ?_ hS ?_
                  rotate_left
                  · (intro w'; go_simp; (try with_reducible rfl))
                  (try simp only [Act.put, Z1, Z2, Z3, Z4, Z5, Z6])
                  refine anyH_pure 24 _ ?_ rfl (by kernel_rfl) (by kernel_rfl) (by kernel_rfl) (fun _ _ _ h => h) rfl ?_ hS ?_
                  rotate_left
                  · (intro w'; go_simp; (try with_reducible rfl))
                  (try simp only [Act.put, Z1, Z2, Z3, Z4, Z5, Z6])
                  refine anyH_if 25 _ ?_ rfl (by kernel_rfl) (by kernel_rfl) (by kernel_rfl) (fun _ _ _ h => h) rfl ?_ hS ?_
                  rotate_left
                  · (intro w' h; have c0 := h.b0; go_simp; (try with_reducible rfl))
                  (try simp only [Act.put, Z1, Z2, Z3, Z4, Z5, Z6])
                  refine anyH_pure 26 _ ?_ rfl (by kernel_rfl) (by kernel_rfl) (by kernel_rfl) (fun _ _ _ h => h) rfl ?_ hS ?_
                  rotate_left
                  · (intro w'; go_simp; (try with_reducible rfl))
                  (try simp only [Act.put, Z1, Z2, Z3, Z4, Z5, Z6])
                  refine anyH_pure 27 _ ?_ rfl (by kernel_rfl) (by kernel_rfl) (by kernel_rfl) (fun _ _ _ h => h) rfl ?_ hS ?_
                  rotate_left
                  · (intro w'; go_simp; (try with_reducible rfl))
                  (try simp only [Act.put, Z1, Z2, Z3, Z4, Z5, Z6])
                  refine anyH_skip 28 _ rfl (by kernel_rfl) (by kernel_rfl) (by kernel_rfl) (fun _ _ _ h => h) rfl hS ?_
                  (try simp only [Act.put, Z1, Z2, Z3, Z4, Z5, Z6])
                  refine anyH_skip 29 _ rfl (by kernel_rfl) (by kernel_rfl) (by kernel_rfl) (fun _ _ _ h => h) rfl hS ?_
                  (try simp only [Act.put, Z1, Z2, Z3, Z4, Z5, Z6])
                  refine anyH_skip 30 _ rfl (by kernel_rfl) (by kernel_rfl) (by kernel_rfl) (fun _ _ _ h => h) rfl hS ?_
                  (try simp only [Act.put, Z1, Z2, Z3, Z4, Z5, Z6])
                  refine anyH_skip 31 _ rfl (by kernel_rfl) (by kernel_rfl) (by kernel_rfl) (fun _ _ _ h => h) rfl hS ?_
                  (try simp only [Act.put, Z1, Z2, Z3, Z4, Z5, Z6])
                  refine anyH_skip 32 _ rfl (by kernel_rfl) (by kernel_rfl) (by kernel_rfl) (fun _ _ _ h => h) rfl hS ?_
                  (try simp only [Act.put, Z1, Z2, Z3, Z4, Z5, Z6])
                  refine anyH_skip 33 _ rfl (by kernel_rfl) (by kernel_rfl) (by kernel_rfl) (fun _ _ _ h => h) rfl hS ?_
                  (try simp only [Act.put, Z1, Z2, Z3, Z4, Z5, Z6])
                  refine anyH_skip 34 _ rfl (by kernel_rfl) (by kernel_rfl) (by kernel_rfl) (fun _ _ _ h => h) rfl hS ?_
                  (try simp only [Act.put, Z1, Z2, Z3, Z4, Z5, Z6])
                  refine anyH_skip 35 _ rfl (by kernel_rfl) (by kernel_rfl) (by kernel_rfl) (fun _ _ _ h => h) rfl hS ?_
                  (try simp only [Act.put, Z1, Z2, Z3, Z4, Z5, Z6])
                  refine anyH_skip 36 _ rfl (by kernel_rfl) (by kernel_rfl) (by kernel_rfl) (fun _ _ _ h => h) rfl hS ?_
                  (try simp only [Act.put, Z1, Z2, Z3, Z4, Z5, Z6])
                  refine anyH_skip 37 _ rfl (by kernel_rfl) (by kernel_rfl) (by kernel_rfl) (fun _ _ _ h => h) rfl hS ?_
                  (try simp only [Act.put, Z1, Z2, Z3, Z4, Z5, Z6])
                  refine anyH_skip 38 _ rfl (by kernel_rfl) (by kernel_rfl) (by kernel_rfl) (fun _ _ _ h => h) rfl hS ?_
                  (try simp only [Act.put, Z1, Z2, Z3, Z4, Z5, Z6])
                  refine anyH_skip 39 _ rfl (by kernel_rfl) (by kernel_rfl) (by kernel_rfl) (fun _ _ _ h => h) rfl hS ?_
                  (try simp only [Act.put, Z1, Z2, Z3, Z4, Z5, Z6])
                  refine anyH_skip 40 _ rfl (by kernel_rfl) (by kernel_rfl) (by kernel_rfl) (fun _ _ _ h => h) rfl hS ?_
                  (try simp only [Act.put, Z1, Z2, Z3, Z4, Z5, Z6])
                  refine anyH_skip 41 _ rfl (by kernel_rfl) (by kernel_rfl) (by kernel_rfl) (fun _ _ _ h => h) rfl hS ?_
                  (try simp only [Act.put, Z1, Z2, Z3, Z4, Z5, Z6])
                  refine anyH_skip 42 _ rfl (by kernel_rfl) (by kernel_rfl) (by kernel_rfl) (fun _ _ _ h => h) rfl hS ?_
                  (try simp only [Act.put, Z1, Z2, Z3, Z4, Z5, Z6])
                  refine anyH_skip 43 _ rfl (by kernel_rfl) (by kernel_rfl) (by kernel_rfl) (fun _ _ _ h => h) rfl hS ?_
                  (try simp only [Act.put, Z1, Z2, Z3, Z4, Z5, Z6])
                  refine anyH_skip 44 _ rfl (by kernel_rfl) (by kernel_rfl) (by kernel_rfl) (fun _ _ _ h => h) rfl hS ?_
                  (try simp only [Act.put, Z1, Z2, Z3, Z4, Z5, Z6])
                  refine anyH_pure 45 _ ?_ rfl (by kernel_rfl) (by kernel_rfl) (by kernel_rfl) (fun _ _ _ h => h) rfl ?_ hS ?_
                  rotate_left
                  · (intro w'; go_simp; (try with_reducible rfl))
                  (try simp only [Act.put, Z1, Z2, Z3, Z4, Z5, Z6])
                  refine anyH_pure 46 _ ?_ rfl (by kernel_rfl) (by kernel_rfl) (by kernel_rfl) (fun _ _ _ h => h) rfl ?_ hS ?_
                  rotate_left
                  · (intro w'; go_simp; (try with_reducible rfl))
                  (try simp only [Act.put, Z1, Z2, Z3, Z4, Z5, Z6])
                  refine wpAnyH_done (by kernel_rfl) ?_ _
                  go_wp2_with fail
                  go_meet
                  case rel => exact ⟨false, rfl, hS, HB⟩
            · have h2' : decide (cl.kind ≤ 2) = false := by simp; omega
              have hk2' : (cl.kind == 2) = false := by simp; omega
              have HB : BadQ false M cl := ⟨fun e => (by cases e), fun hb => by
                rcases hb with hb | ⟨hb, _⟩ | ⟨hb, _⟩ <;> omega⟩
              clear h7 h1 h2 hp'
              refine anyH_pure 0 _ ?_ rfl (by kernel_rfl) (by kernel_rfl) (by kernel_rfl) (fun _ _ _ h => h) rfl ?_ hS ?_
              rotate_left
              · (intro w'; go_simp; (try with_reducible rfl))
              (try simp only [Act.put, Z1, Z2, Z4, Z5, Z6])
              refine anyH_if 1 _ ?_ rfl (by kernel_rfl) (by kernel_rfl) (by kernel_rfl) (fun _ _ _ h => h) rfl ?_ hS ?_
              rotate_left
              · (intro w' h; have c0 := h.b0; go_simp; (try with_reducible rfl))
              (try simp only [Act.put, Z1, Z2, Z3, Z4, Z5, Z6])
              refine anyH_pure 2 _ ?_ rfl (by kernel_rfl) (by kernel_rfl) (by kernel_rfl) (fun _ _ _ h => h) rfl ?_ hS ?_
              rotate_left
              · (intro w'; go_simp; (try with_reducible rfl))
              (try simp only [Act.put, Z1, Z2, Z3, Z4, Z5, Z6])
              refine anyH_pure 3 _ ?_ rfl (by kernel_rfl) (by kernel_rfl) (by kernel_rfl) (fun _ _ _ h => h) rfl ?_ hS ?_
              rotate_left
              · (intro w'; go_simp; (try with_reducible rfl))
              (try simp only [Act.put, Z1, Z2, Z3, Z4, Z5, Z6])
              refine anyH_pure 4 _ ?_ rfl (by kernel_rfl) (by kernel_rfl) (by kernel_rfl) (fun _ _ _ h => h) rfl ?_ hS ?_
              rotate_left
              · (intro w'; go_simp; (try with_reducible rfl))
              (try simp only [Act.put, Z1, Z2, Z3, Z4, Z5, Z6])
              refine anyH_if 5 _ ?_ rfl (by kernel_rfl) (by kernel_rfl) (by kernel_rfl) (fun _ _ _ h => h) rfl ?_ hS ?_
              rotate_left
              · (intro w' h; have c0 := h.b0; go_simp; (try with_reducible rfl))
              (try simp only [Act.put, Z1, Z2, Z3, Z4, Z5, Z6])
              refine anyH_pure 6 _ ?_ rfl (by kernel_rfl) (by kernel_rfl) (by kernel_rfl) (fun _ _ _ h => h) rfl ?_ hS ?_
              rotate_left
              · (intro w'; go_simp; (try with_reducible rfl))
              (try simp only [Act.put, Z1, Z2, Z3, Z4, Z5, Z6])
              refine anyH_pure 7 _ ?_ rfl (by kernel_rfl) (by kernel_rfl) (by kernel_rfl) (fun _ _ _ h => h) rfl ?_ hS ?_
              rotate_left
              · (intro w'; go_simp; (try with_reducible rfl))
              (try simp only [Act.put, Z1, Z2, Z3, Z4, Z5, Z6])
              refine anyH_pure 8 _ ?_ rfl (by kernel_rfl) (by kernel_rfl) (by kernel_rfl) (fun _ _ _ h => h) rfl ?_ hS ?_
              rotate_left
              · (intro w'; go_simp; (try with_reducible rfl))
              (try simp only [Act.put, Z1, Z2, Z3, Z4, Z5, Z6])
              refine anyH_if 9 _ ?_ rfl (by kernel_rfl) (by kernel_rfl) (by kernel_rfl) (fun _ _ _ h => h) rfl ?_ hS ?_
              rotate_left
              · (intro w' h; have c0 := h.b0; go_simp; (try with_reducible rfl))
              (try simp only [Act.put, Z1, Z2, Z3, Z4, Z5, Z6])
              refine anyH_pure 10 _ ?_ rfl (by kernel_rfl) (by kernel_rfl) (by kernel_rfl) (fun _ _ _ h => h) rfl ?_ hS ?_
              rotate_left
              · (intro w'; go_simp; (try with_reducible rfl))
              (try simp only [Act.put, Z1, Z2, Z3, Z4, Z5, Z6])
              refine anyH_pure 11 _ ?_ rfl (by kernel_rfl) (by kernel_rfl) (by kernel_rfl) (fun _ _ _ h => h) rfl ?_ hS ?_
              rotate_left
              · (intro w'; go_simp; (try with_reducible rfl))
              (try simp only [Act.put, Z1, Z2, Z3, Z4, Z5, Z6])
              refine anyH_pure 12 _ ?_ rfl (by kernel_rfl) (by kernel_rfl) (by kernel_rfl) (fun _ _ _ h => h) rfl ?_ hS ?_
              rotate_left
              · (intro w'; go_simp; (try with_reducible rfl))
              (try simp only [Act.put, Z1, Z2, Z3, Z4, Z5, Z6])
              refine anyH_skip 13 _ rfl (by kernel_rfl) (by kernel_rfl) (by kernel_rfl) (fun _ _ _ h => h) rfl hS ?_
              (try simp only [Act.put, Z1, Z2, Z3, Z4, Z5, Z6])
              refine anyH_skip 14 _ rfl (by kernel_rfl) (by kernel_rfl) (by kernel_rfl) (fun _ _ _ h => h) rfl hS ?_
              (try simp only [Act.put, Z1, Z2, Z3, Z4, Z5, Z6])
              refine anyH_skip 15 _ rfl (by kernel_rfl) (by kernel_rfl) (by kernel_rfl) (fun _ _ _ h => h) rfl hS ?_
              (try simp only [Act.put, Z1, Z2, Z3, Z4, Z5, Z6])
              refine anyH_skip 16 _ rfl (by kernel_rfl) (by kernel_rfl) (by kernel_rfl) (fun _ _ _ h => h) rfl hS ?_
              (try simp only [Act.put, Z1, Z2, Z3, Z4, Z5, Z6])
              refine anyH_skip 17 _ rfl (by kernel_rfl) (by kernel_rfl) (by kernel_rfl) (fun _ _ _ h => h) rfl hS ?_
              (try simp only [Act.put, Z1, Z2, Z3, Z4, Z5, Z6])
              refine anyH_skip 18 _ rfl (by kernel_rfl) (by kernel_rfl) (by kernel_rfl) (fun _ _ _ h => h) rfl hS ?_
              (try simp only [Act.put, Z1, Z2, Z3, Z4, Z5, Z6])
              refine anyH_skip 19 _ rfl (by kernel_rfl) (by kernel_rfl) (by kernel_rfl) (fun _ _ _ h => h) rfl hS ?_
              (try simp only [Act.put, Z1, Z2, Z3, Z4, Z5, Z6])
              refine anyH_skip 20 _ rfl (by kernel_rfl) (by kernel_rfl) (by kernel_rfl) (fun _ _ _ h => h) rfl hS ?_
              (try simp only [Act.put, Z1, Z2, Z3, Z4, Z5, Z6])
              refine anyH_pure 21 _ ?_ rfl (by kernel_rfl) (by kernel_rfl) (by kernel_rfl) (fun _ _ _ h => h) rfl ?_ hS ?_
              rotate_left
              · (intro w'; go_simp; (try with_reducible rfl))
              (try simp only [Act.put, Z1, Z2, Z3, Z4, Z5, Z6])
              refine anyH_pure 22 _ ?_ rfl (by kernel_rfl) (by kernel_rfl) (by kernel_rfl) (fun _ _ _ h => h) rfl ?_ hS ?_
              rotate_left
              · (intro w'; go_simp; (try with_reducible rfl))
              (try simp only [Act.put, Z1, Z2, Z3, Z4, Z5, Z6])
              refine anyH_pure 23 _ ?_ rfl (by kernel_rfl) (by kernel_rfl) (by kernel_rfl) (fun _ _ _ h => h) rfl ?_ hS ?_
              rotate_left
              · (intro w'; go_simp; (try with_reducible rfl))
              (try simp only [Act.put, Z1, Z2, Z3, Z4, Z5, Z6])
              refine anyH_pure 24 _ ?_ rfl (by kernel_rfl) (by kernel_rfl) (by kernel_rfl) (fun _ _ _ h => h) rfl ?_ hS ?_
              rotate_left
              · (intro w'; go_simp; (try with_reducible rfl))
              (try simp only [Act.put, Z1, Z2, Z3, Z4, Z5, Z6])
              refine anyH_if 25 _ ?_ rfl (by kernel_rfl) (by kernel_rfl) (by kernel_rfl) (fun _ _ _ h => h) rfl ?_ hS ?_
              rotate_left
              · (intro w' h; have c0 := h.b0; go_simp; (try with_reducible rfl))
              (try simp only [Act.put, Z1, Z2, Z3, Z4, Z5, Z6])
              refine anyH_pure 26 _ ?_ rfl (by kernel_rfl) (by kernel_rfl) (by kernel_rfl) (fun _ _ _ h => h) rfl ?_ hS ?_
              rotate_left
              · (intro w'; go_simp; (try with_reducible rfl))
              (try simp only [Act.put, Z1, Z2, Z3, Z4, Z5, Z6])
              refine anyH_pure 27 _ ?_ rfl (by kernel_rfl) (by kernel_rfl) (by kernel_rfl) (fun _ _ _ h => h) rfl ?_ hS ?_
              rotate_left
              · (intro w'; go_simp; (try with_reducible rfl))
              (try simp only [Act.put, Z1, Z2, Z3, Z4, Z5, Z6])
              refine anyH_skip 28 _ rfl (by kernel_rfl) (by kernel_rfl) (by kernel_rfl) (fun _ _ _ h => h) rfl hS ?_
              (try simp only [Act.put, Z1, Z2, Z3, Z4, Z5, Z6])
              refine anyH_skip 29 _ rfl (by kernel_rfl) (by kernel_rfl) (by kernel_rfl) (fun _ _ _ h => h) rfl hS ?_
              (try simp only [Act.put, Z1, Z2, Z3, Z4, Z5, Z6])
              refine anyH_skip 30 _ rfl (by kernel_rfl) (by kernel_rfl) (by kernel_rfl) (fun _ _ _ h => h) rfl hS ?_
              (try simp only [Act.put, Z1, Z2, Z3, Z4, Z5, Z6])
              refine anyH_skip 31 _ rfl (by kernel_rfl) (by kernel_rfl) (by kernel_rfl) (fun _ _ _ h => h) rfl hS ?_
              (try simp only [Act.put, Z1, Z2, Z3, Z4, Z5, Z6])
              refine anyH_skip 32 _ rfl (by kernel_rfl) (by kernel_rfl) (by kernel_rfl) (fun _ _ _ h => h) rfl hS ?_
              (try simp only [Act.put, Z1, Z2, Z3, Z4, Z5, Z6])
              refine anyH_skip 33 _ rfl (by kernel_rfl) (by kernel_rfl) (by kernel_rfl) (fun _ _ _ h => h) rfl hS ?_
              (try simp only [Act.put, Z1, Z2, Z3, Z4, Z5, Z6])
              refine anyH_skip 34 _ rfl (by kernel_rfl) (by kernel_rfl) (by kernel_rfl) (fun _ _ _ h => h) rfl hS ?_
              (try simp only [Act.put, Z1, Z2, Z3, Z4, Z5, Z6])
              refine anyH_skip 35 _ rfl (by kernel_rfl) (by kernel_rfl) (by kernel_rfl) (fun _ _ _ h => h) rfl hS ?_
              (try simp only [Act.put, Z1, Z2, Z3, Z4, Z5, Z6])
              refine anyH_skip 36 _ rfl (by kernel_rfl) (by kernel_rfl) (by kernel_rfl) (fun _ _ _ h => h) rfl hS ?_
              (try simp only [Act.put, Z1, Z2, Z3, Z4, Z5, Z6])
              refine anyH_skip 37 _ rfl (by kernel_rfl) (by kernel_rfl) (by kernel_rfl) (fun _ _ _ h => h) rfl hS ?_
              (try simp only [Act.put, Z1, Z2, Z3, Z4, Z5, Z6])
              refine anyH_skip 38 _ rfl (by kernel_rfl) (by kernel_rfl) (by kernel_rfl) (fun _ _ _ h => h) rfl hS ?_
              (try simp only [Act.put, Z1, Z2, Z3, Z4, Z5, Z6])
              refine anyH_skip 39 _ rfl (by kernel_rfl) (by kernel_rfl) (by kernel_rfl) (fun _ _ _ h => h) rfl hS ?_
              (try simp only [Act.put, Z1, Z2, Z3, Z4, Z5, Z6])
              refine anyH_skip 40 _ rfl (by kernel_rfl) (by kernel_rfl) (by kernel_rfl) (fun _ _ _ h => h) rfl hS ?_
              (try simp only [Act.put, Z1, Z2, Z3, Z4, Z5, Z6])
              refine anyH_skip 41 _ rfl (by kernel_rfl) (by kernel_rfl) (by kernel_rfl) (fun _ _ _ h => h) rfl hS ?_
              (try simp only [Act.put, Z1, Z2, Z3, Z4, Z5, Z6])
              refine anyH_skip 42 _ rfl (by kernel_rfl) (by kernel_rfl) (by kernel_rfl) (fun _ _ _ h => h) rfl hS ?_
              (try simp only [Act.put, Z1, Z2, Z3, Z4, Z5, Z6])
              refine anyH_skip 43 _ rfl (by kernel_rfl) (by kernel_rfl) (by kernel_rfl) (fun _ _ _ h => h) rfl hS ?_
              (try simp only [Act.put, Z1, Z2, Z3, Z4, Z5, Z6])
              refine anyH_skip 44 _ rfl (by kernel_rfl) (by kernel_rfl) (by kernel_rfl) (fun _ _ _ h => h) rfl hS ?_
              (try simp only [Act.put, Z1, Z2, Z3, Z4, Z5, Z6])
              refine anyH_pure 45 _ ?_ rfl (by kernel_rfl) (by kernel_rfl) (by kernel_rfl) (fun _ _ _ h => h) rfl ?_ hS ?_
              rotate_left
              · (intro w'; go_simp; (try with_reducible rfl))
              (try simp only [Act.put, Z1, Z2, Z3, Z4, Z5, Z6])
              refine anyH_pure 46 _ ?_ rfl (by kernel_rfl) (by kernel_rfl) (by kernel_rfl) (fun _ _ _ h => h) rfl ?_ hS ?_
              rotate_left
              · (intro w'; go_simp; (try with_reducible rfl))
              (try simp only [Act.put, Z1, Z2, Z3, Z4, Z5, Z6])
              refine wpAnyH_done (by kernel_rfl) ?_ _
              go_wp2_with fail
              go_meet
              case rel => exact ⟨false, rfl, hS, HB⟩
          · have h1' : decide (1 ≤ cl.kind) = false := by simp; omega
            have hk2' : (cl.kind == 2) = false := by simp; omega
            have HB : BadQ false M cl := ⟨fun e => (by cases e), fun hb => by
              rcases hb with hb | ⟨hb, _⟩ | ⟨hb, _⟩ <;> omega⟩
            clear h7 h1 hp'
            refine anyH_pure 0 _ ?_ rfl (by kernel_rfl) (by kernel_rfl) (by kernel_rfl) (fun _ _ _ h => h) rfl ?_ hS ?_
            rotate_left
            · (intro w'; go_simp; (try with_reducible rfl))
            (try simp only [Act.put, Z1, Z2, Z4, Z5, Z6])
            refine anyH_if 1 _ ?_ rfl (by kernel_rfl) (by kernel_rfl) (by kernel_rfl) (fun _ _ _ h => h) rfl ?_ hS ?_
            rotate_left
            · (intro w' h; have c0 := h.b0; go_simp; (try with_reducible rfl))
            (try simp only [Act.put, Z1, Z2, Z3, Z4, Z5, Z6])
            refine anyH_pure 2 _ ?_ rfl (by kernel_rfl) (by kernel_rfl) (by kernel_rfl) (fun _ _ _ h => h) rfl ?_ hS ?_
            rotate_left
            · (intro w'; go_simp; (try with_reducible rfl))
            (try simp only [Act.put, Z1, Z2, Z3, Z4, Z5, Z6])
            refine anyH_pure 3 _ ?_ rfl (by kernel_rfl) (by kernel_rfl) (by kernel_rfl) (fun _ _ _ h => h) rfl ?_ hS ?_
            rotate_left
            · (intro w'; go_simp; (try with_reducible rfl))
            (try simp only [Act.put, Z1, Z2, Z3, Z4, Z5, Z6])
            refine anyH_pure 4 _ ?_ rfl (by kernel_rfl) (by kernel_rfl) (by kernel_rfl) (fun _ _ _ h => h) rfl ?_ hS ?_
            rotate_left
            · (intro w'; go_simp; (try with_reducible rfl))
            (try simp only [Act.put, Z1, Z2, Z3, Z4, Z5, Z6])
            refine anyH_if 5 _ ?_ rfl (by kernel_rfl) (by kernel_rfl) (by kernel_rfl) (fun _ _ _ h => h) rfl ?_ hS ?_
            rotate_left
            · (intro w' h; have c0 := h.b0; go_simp; (try with_reducible rfl))
            (try simp only [Act.put, Z1, Z2, Z3, Z4, Z5, Z6])
            refine anyH_pure 6 _ ?_ rfl (by kernel_rfl) (by kernel_rfl) (by kernel_rfl) (fun _ _ _ h => h) rfl ?_ hS ?_
            rotate_left
            · (intro w'; go_simp; (try with_reducible rfl))
            (try simp only [Act.put, Z1, Z2, Z3, Z4, Z5, Z6])
            refine anyH_pure 7 _ ?_ rfl (by kernel_rfl) (by kernel_rfl) (by kernel_rfl) (fun _ _ _ h => h) rfl ?_ hS ?_
            rotate_left
            · (intro w'; go_simp; (try with_reducible rfl))
            (try simp only [Act.put, Z1, Z2, Z3, Z4, Z5, Z6])
            refine anyH_skip 8 _ rfl (by kernel_rfl) (by kernel_rfl) (by kernel_rfl) (fun _ _ _ h => h) rfl hS ?_
            (try simp only [Act.put, Z1, Z2, Z3, Z4, Z5, Z6])
            refine anyH_skip 9 _ rfl (by kernel_rfl) (by kernel_rfl) (by kernel_rfl) (fun _ _ _ h => h) rfl hS ?_
            (try simp only [Act.put, Z1, Z2, Z3, Z4, Z5, Z6])
            refine anyH_skip 10 _ rfl (by kernel_rfl) (by kernel_rfl) (by kernel_rfl) (fun _ _ _ h => h) rfl hS ?_
            (try simp only [Act.put, Z1, Z2, Z3, Z4, Z5, Z6])
            refine anyH_pure 11 _ ?_ rfl (by kernel_rfl) (by kernel_rfl) (by kernel_rfl) (fun _ _ _ h => h) rfl ?_ hS ?_
            rotate_left
            · (intro w'; go_simp; (try with_reducible rfl))
            (try simp only [Act.put, Z1, Z2, Z3, Z4, Z5, Z6])
            refine anyH_pure 12 _ ?_ rfl (by kernel_rfl) (by kernel_rfl) (by kernel_rfl) (fun _ _ _ h => h) rfl ?_ hS ?_
            rotate_left
            · (intro w'; go_simp; (try with_reducible rfl))
            (try simp only [Act.put, Z1, Z2, Z3, Z4, Z5, Z6])
            refine anyH_skip 13 _ rfl (by kernel_rfl) (by kernel_rfl) (by kernel_rfl) (fun _ _ _ h => h) rfl hS ?_
            (try simp only [Act.put, Z1, Z2, Z3, Z4, Z5, Z6])
            refine anyH_skip 14 _ rfl (by kernel_rfl) (by kernel_rfl) (by kernel_rfl) (fun _ _ _ h => h) rfl hS ?_
            (try simp only [Act.put, Z1, Z2, Z3, Z4, Z5, Z6])
            refine anyH_skip 15 _ rfl (by kernel_rfl) (by kernel_rfl) (by kernel_rfl) (fun _ _ _ h => h) rfl hS ?_
            (try simp only [Act.put, Z1, Z2, Z3, Z4, Z5, Z6])
            refine anyH_skip 16 _ rfl (by kernel_rfl) (by kernel_rfl) (by kernel_rfl) (fun _ _ _ h => h) rfl hS ?_
            (try simp only [Act.put, Z1, Z2, Z3, Z4, Z5, Z6])
            refine anyH_skip 17 _ rfl (by kernel_rfl) (by kernel_rfl) (by kernel_rfl) (fun _ _ _ h => h) rfl hS ?_
            (try simp only [Act.put, Z1, Z2, Z3, Z4, Z5, Z6])
            refine anyH_skip 18 _ rfl (by kernel_rfl) (by kernel_rfl) (by kernel_rfl) (fun _ _ _ h => h) rfl hS ?_
            (try simp only [Act.put, Z1, Z2, Z3, Z4, Z5, Z6])
            refine anyH_skip 19 _ rfl (by kernel_rfl) (by kernel_rfl) (by kernel_rfl) (fun _ _ _ h => h) rfl hS ?_
            (try simp only [Act.put, Z1, Z2, Z3, Z4, Z5, Z6])
            refine anyH_skip 20 _ rfl (by kernel_rfl) (by kernel_rfl) (by kernel_rfl) (fun _ _ _ h => h) rfl hS ?_
            (try simp only [Act.put, Z1, Z2, Z3, Z4, Z5, Z6])
            refine anyH_pure 21 _ ?_ rfl (by kernel_rfl) (by kernel_rfl) (by kernel_rfl) (fun _ _ _ h => h) rfl ?_ hS ?_
            rotate_left
            · (intro w'; go_simp; (try with_reducible rfl))
            (try simp only [Act.put, Z1, Z2, Z3, Z4, Z5, Z6])
            refine anyH_pure 22 _ ?_ rfl (by kernel_rfl) (by kernel_rfl) (by kernel_rfl) (fun _ _ _ h => h) rfl ?_ hS ?_
            rotate_left
            · (intro w'; go_simp; (try with_reducible rfl))
            (try simp only [Act.put, Z1, Z2, Z3, Z4, Z5, Z6])
            refine anyH_pure 23 _ ?_ rfl (by kernel_rfl) (by kernel_rfl) (by kernel_rfl) (fun _ _ _ h => h) rfl ?_ hS ?_
            rotate_left
            · (intro w'; go_simp; (try with_reducible rfl))
            (try simp only [Act.put, Z1, Z2, Z3, Z4, Z5, Z6])
            refine anyH_pure 24 _ ?_ rfl (by kernel_rfl) (by kernel_rfl) (by kernel_rfl) (fun _ _ _ h => h) rfl ?_ hS ?_
            rotate_left
            · (intro w'; go_simp; (try with_reducible rfl))
            (try simp only [Act.put, Z1, Z2, Z3, Z4, Z5, Z6])
            refine anyH_if 25 _ ?_ rfl (by kernel_rfl) (by kernel_rfl) (by kernel_rfl) (fun _ _ _ h => h) rfl ?_ hS ?_
            rotate_left
            · (intro w' h; have c0 := h.b0; go_simp; (try with_reducible rfl))
            (try simp only [Act.put, Z1, Z2, Z3, Z4, Z5, Z6])
            refine anyH_pure 26 _ ?_ rfl (by kernel_rfl) (by kernel_rfl) (by kernel_rfl) (fun _ _ _ h => h) rfl ?_ hS ?_
            rotate_left
            · (intro w'; go_simp; (try with_reducible rfl))
            (try simp only [Act.put, Z1, Z2, Z3, Z4, Z5, Z6])
            refine anyH_pure 27 _ ?_ rfl (by kernel_rfl) (by kernel_rfl) (by kernel_rfl) (fun _ _ _ h => h) rfl ?_ hS ?_
            rotate_left
            · (intro w'; go_simp; (try with_reducible rfl))
            (try simp only [Act.put, Z1, Z2, Z3, Z4, Z5, Z6])
            refine anyH_skip 28 _ rfl (by kernel_rfl) (by kernel_rfl) (by kernel_rfl) (fun _ _ _ h => h) rfl hS ?_
            (try simp only [Act.put, Z1, Z2, Z3, Z4, Z5, Z6])
            refine anyH_skip 29 _ rfl (by kernel_rfl) (by kernel_rfl) (by kernel_rfl) (fun _ _ _ h => h) rfl hS ?_
            (try simp only [Act.put, Z1, Z2, Z3, Z4, Z5, Z6])
            refine anyH_skip 30 _ rfl (by kernel_rfl) (by kernel_rfl) (by kernel_rfl) (fun _ _ _ h => h) rfl hS ?_
            (try simp only [Act.put, Z1, Z2, Z3, Z4, Z5, Z6])
            refine anyH_skip 31 _ rfl (by kernel_rfl) (by kernel_rfl) (by kernel_rfl) (fun _ _ _ h => h) rfl hS ?_
            (try simp only [Act.put, Z1, Z2, Z3, Z4, Z5, Z6])
            refine anyH_skip 32 _ rfl (by kernel_rfl) (by kernel_rfl) (by kernel_rfl) (fun _ _ _ h => h) rfl hS ?_
            (try simp only [Act.put, Z1, Z2, Z3, Z4, Z5, Z6])
            refine anyH_skip 33 _ rfl (by kernel_rfl) (by kernel_rfl) (by kernel_rfl) (fun _ _ _ h => h) rfl hS ?_
            (try simp only [Act.put, Z1, Z2, Z3, Z4, Z5, Z6])
            refine anyH_skip 34 _ rfl (by kernel_rfl) (by kernel_rfl) (by kernel_rfl) (fun _ _ _ h => h) rfl hS ?_
            (try simp only [Act.put, Z1, Z2, Z3, Z4, Z5, Z6])
            refine anyH_skip 35 _ rfl (by kernel_rfl) (by kernel_rfl) (by kernel_rfl) (fun _ _ _ h => h) rfl hS ?_
            (try simp only [Act.put, Z1, Z2, Z3, Z4, Z5, Z6])
            refine anyH_skip 36 _ rfl (by kernel_rfl) (by kernel_rfl) (by kernel_rfl) (fun _ _ _ h => h) rfl hS ?_
            (try simp only [Act.put, Z1, Z2, Z3, Z4, Z5, Z6])
            refine anyH_skip 37 _ rfl (by kernel_rfl) (by kernel_rfl) (by kernel_rfl) (fun _ _ _ h => h) rfl hS ?_
            (try simp only [Act.put, Z1, Z2, Z3, Z4, Z5, Z6])
            refine anyH_skip 38 _ rfl (by kernel_rfl) (by kernel_rfl) (by kernel_rfl) (fun _ _ _ h => h) rfl hS ?_
            (try simp only [Act.put, Z1, Z2, Z3, Z4, Z5, Z6])
            refine anyH_skip 39 _ rfl (by kernel_rfl) (by kernel_rfl) (by kernel_rfl) (fun _ _ _ h => h) rfl hS ?_
            (try simp only [Act.put, Z1, Z2, Z3, Z4, Z5, Z6])
            refine anyH_skip 40 _ rfl (by kernel_rfl) (by kernel_rfl) (by kernel_rfl) (fun _ _ _ h => h) rfl hS ?_
            (try simp only [Act.put, Z1, Z2, Z3, Z4, Z5, Z6])
            refine anyH_skip 41 _ rfl (by kernel_rfl) (by kernel_rfl) (by kernel_rfl) (fun _ _ _ h => h) rfl hS ?_
            (try simp only [Act.put, Z1, Z2, Z3, Z4, Z5, Z6])
            refine anyH_skip 42 _ rfl (by kernel_rfl) (by kernel_rfl) (by kernel_rfl) (fun _ _ _ h => h) rfl hS ?_
            (try simp only [Act.put, Z1, Z2, Z3, Z4, Z5, Z6])
            refine anyH_skip 43 _ rfl (by kernel_rfl) (by kernel_rfl) (by kernel_rfl) (fun _ _ _ h => h) rfl hS ?_
            (try simp only [Act.put, Z1, Z2, Z3, Z4, Z5, Z6])
            refine anyH_skip 44 _ rfl (by kernel_rfl) (by kernel_rfl) (by kernel_rfl) (fun _ _ _ h => h) rfl hS ?_
            (try simp only [Act.put, Z1, Z2, Z3, Z4, Z5, Z6])
            refine anyH_pure 45 _ ?_ rfl (by kernel_rfl) (by kernel_rfl) (by kernel_rfl) (fun _ _ _ h => h) rfl ?_ hS ?_
            rotate_left
            · (intro w'; go_simp; (try with_reducible rfl))
            (try simp only [Act.put, Z1, Z2, Z3, Z4, Z5, Z6])
            refine anyH_pure 46 _ ?_ rfl (by kernel_rfl) (by kernel_rfl) (by kernel_rfl) (fun _ _ _ h => h) rfl ?_ hS ?_
            rotate_left
            · (intro w'; go_simp; (try with_reducible rfl))
            (try simp only [Act.put, Z1, Z2, Z3, Z4, Z5, Z6])
            refine wpAnyH_done (by kernel_rfl) ?_ _
            go_wp2_with fail
            go_meet
            case rel => exact ⟨false, rfl, hS, HB⟩
      case rest =>
      clear hS
      obtain ⟨bb, rfl, hS, HB⟩ := hcut
      obtain ⟨V, rfl⟩ : ∃ V, V = wc := ⟨_, rfl⟩
      cases bb with
      | true =>
        have HC : Hid ((P.step M cl).2 = P.err 1) := by unfold Hid; rw [step_bad hs0.out (HB.1 rfl)]
        go_upto_region 8 with (fail)
        refine no_implicit_lambda% (wp_region_lit ?_)
        refine wpList_buildE rfl 40 _ rfl (rpA ⟨1, 0, 0, P.zb⟩) (by go_simp; exact b40_0 _) ?_
        (try simp only [Act.put, Z1, Z2, Z3, Z4, Z5, Z6])
        refine wpList_store_fr rfl 40 _ _ rfl (w.heap.size + 1) (rpA ⟨1, 0, 0, P.zb⟩) rfl rfl 40 _ hS.res (size40 _) (by simp only [rpA_size]) (rpA_one _) ?_
        intro w9 hB9 hF9
        refine no_implicit_lambda% (wpList_nil ?_)
        go_wp2_with fail
        refine bodyPost_ret (v := .agg (rpA ⟨1, 0, 0, P.zb⟩)) ?_ rfl ?_
        · exact results_cell_row rfl _ _ (w.heap.size + 1) 40 (rpA ⟨1, 0, 0, P.zb⟩) (0, 0) _ rfl hB9 Try.underlying40 rfl (size40 _)
        exact ⟨by rw [HC.out] <;> rfl, Fr.below hS.below hF9 (Nat.le_refl _) fun i hi => by omega⟩
      | false =>
        have HNB : Hid (¬ badR M cl) := fun e => by have := HB.2 e; cases this
        clear HB
        obtain ⟨hkb1, hkb2⟩ := hc.kind
        have hk7 : cl.kind ≤ 7 := Int.not_lt.1 fun e => HNB.out (.inl e)
        by_cases hk0 : cl.kind = 0
        · have hk0' : (cl.kind == 0) = true := by simp [hk0]
          have hlv := P.livF_eq hsim.out hs0.out
          have h8 := hsim.out.eight
          have hcnt := hsim.out.ok.cnt
          have htx : ∀ d ∈ log, d.1.kind = 0 → d.2.e = 0 → 0 ≤ d.2.txn := fun d hd a b => by have := hsim.out.begs d hd a b; omega
          have hst : ∀ (h8 : M.live.length ≠ 8), (P.step M cl).2 = ⟨0, M.count + 1, M.last, P.zb⟩ := fun h8 => by
            unfold P.step
            rw [if_neg (by rw [hs0.out]; simp), if_pos hk0, if_neg h8]
          have hst8 : ∀ (h8 : M.live.length = 8), (P.step M cl).2 = P.err 10 := fun h8 => by
            unfold P.step
            rw [if_neg (by rw [hs0.out]; simp), if_pos hk0, if_pos h8]
          replace hst := Lib.hid hst
          replace hst8 := Lib.hid hst8
          replace htx := Lib.hid htx
          replace hlv := Lib.hid hlv
          clear hk0 HNB
          go_upto_region 9 with (fail)
          refine no_implicit_lambda% (wp_region_lit ?_)
          refine no_implicit_lambda% (wpl_val ?_ rfl ?_ ?_)
          rotate_left
          · (go_simp; (try with_reducible rfl))
          (try simp only [Act.put, Z1, Z2, Z4, Z5, Z6])
          refine no_implicit_lambda% (wpl_val ?_ rfl ?_ ?_)
          rotate_left
          · (have c0 := hS.b0; go_simp; (try with_reducible rfl))
          (try simp only [Act.put, Z1, Z2, Z3, Z4, Z5, Z6])
          refine no_implicit_lambda% (wpl_val ?_ rfl ?_ ?_)
          rotate_left
          · (go_simp; (try with_reducible rfl))
          (try simp only [Act.put, Z1, Z2, Z3, Z4, Z5, Z6])
          refine no_implicit_lambda% (wpList_nil ?_)
          go_upto_region 10 with (fail)
          refine no_implicit_lambda% (wp_region_lit ?_)
          refine no_implicit_lambda% (wpl_val ?_ rfl ?_ ?_)
          rotate_left
          · (go_simp; (try with_reducible rfl))
          (try simp only [Act.put, Z1, Z2, Z4, Z5, Z6])
          have hcl := live_any (h.below hS.below) hn1 htx.out
          rw [hlv.out] at hcl
          refine wpl_call _ _ rfl (by go_simp) _ hcl ?_
          rintro e w2 ⟨rfl, hb2⟩
          refine ⟨_, rfl, ?_⟩
          replace hS := hS.go hb2
          clear hb2 hcl
          (try simp only [Act.put, Z1, Z2, Z3, Z4, Z5, Z6])
          iterate 5
            refine no_implicit_lambda% (wpl_val ?_ rfl ?_ ?_)
            rotate_left
            · (go_simp; (try with_reducible rfl))
            (try simp only [Act.put, Z1, Z2, Z3, Z4, Z5, Z6])
          refine no_implicit_lambda% (wpList_nil ?_)
          by_cases he8 : M.live.length = 8
          · have HC := Lib.hid (hst8.out he8)
            have hd8 : decide ((8 : Int) ≤ (M.live.length : Int)) = true := by simp; omega
            clear he8
            go_upto_region 11 with (fail)
            refine no_implicit_lambda% (wp_region_lit ?_)
            iterate 2
              refine no_implicit_lambda% (wpl_val ?_ rfl ?_ ?_)
              rotate_left
              · (go_simp; (try with_reducible rfl))
              (try simp only [Act.put, Z1, Z2, Z3, Z4, Z5, Z6])
            refine no_implicit_lambda% (wpList_nil ?_)
            go_upto_region 12 with (fail)
            refine no_implicit_lambda% (wp_region_lit ?_)
            refine wpList_buildE rfl 40 _ rfl (rpA ⟨10, 0, 0, P.zb⟩) (by go_simp; exact b40_0 _) ?_
            (try simp only [Act.put, Z1, Z2, Z3, Z4, Z5, Z6])
            refine wpList_store_fr rfl 40 _ _ rfl (w.heap.size + 1) (rpA ⟨10, 0, 0, P.zb⟩) rfl rfl 40 _ hS.res (size40 _) (by simp only [rpA_size]) (rpA_one _) ?_
            intro w9 hB9 hF9
            refine no_implicit_lambda% (wpList_nil ?_)
            go_wp2_with fail
            refine bodyPost_ret (v := .agg (rpA ⟨10, 0, 0, P.zb⟩)) ?_ rfl ?_
            · exact results_cell_row rfl _ _ (w.heap.size + 1) 40 (rpA ⟨10, 0, 0, P.zb⟩) (0, 0) _ rfl hB9 Try.underlying40 rfl (size40 _)
            exact ⟨by rw [HC.out] <;> rfl, Fr.below hS.below hF9 (Nat.le_refl _) fun i hi => by omega⟩
          · have HC := Lib.hid (hst.out he8)
            have hd8 : decide ((8 : Int) ≤ (M.live.length : Int)) = false := by simp; omega
            have hwr : IntKind.u64.wrap ((M.count : Int) + 1) = (M.count : Int) + 1 := IntWalk.u64_in _ (by omega)
            clear he8
            go_upto_region 11 with (fail)
            refine no_implicit_lambda% (wp_region_lit ?_)
            iterate 2
              refine no_implicit_lambda% (wpl_val ?_ rfl ?_ ?_)
              rotate_left
              · (go_simp; (try with_reducible rfl))
              (try simp only [Act.put, Z1, Z2, Z3, Z4, Z5, Z6])
            refine no_implicit_lambda% (wpList_nil ?_)
            go_upto_region 13 with (fail)
            refine no_implicit_lambda% (wp_region_lit ?_)
            iterate 3
              refine no_implicit_lambda% (wpl_val ?_ rfl ?_ ?_)
              rotate_left
              · (go_simp; (try with_reducible rfl))
              (try simp only [Act.put, Z1, Z2, Z3, Z4, Z5, Z6])
            have hla := reflast_any (h.below hS.below) hn1
            rw [hsim.out.last] at hla
            refine wpl_call _ _ rfl (by go_simp) _ hla ?_
            rintro e w3 ⟨rfl, hb3⟩
            refine ⟨_, rfl, ?_⟩
            replace hS := hS.go hb3
            clear hb3 hla
            (try simp only [Act.put, Z1, Z2, Z3, Z4, Z5, Z6])
            refine wpList_buildE rfl 40 _ rfl (rpA ⟨0, (M.count : Int) + 1, M.last, P.zb⟩) (by go_simp; exact b40_12 _ _) ?_
            (try simp only [Act.put, Z1, Z2, Z3, Z4, Z5, Z6])
            refine wpList_store_fr rfl 40 _ _ rfl (w.heap.size + 1) (rpA ⟨0, (M.count : Int) + 1, M.last, P.zb⟩) rfl rfl 40 _ hS.res (size40 _) (by simp only [rpA_size]) (rpA_one _) ?_
            intro w9 hB9 hF9
            refine no_implicit_lambda% (wpList_nil ?_)
            go_wp2_with fail
            refine bodyPost_ret (v := .agg (rpA ⟨0, (M.count : Int) + 1, M.last, P.zb⟩)) ?_ rfl ?_
            · exact results_cell_row rfl _ _ (w.heap.size + 1) 40 (rpA ⟨0, (M.count : Int) + 1, M.last, P.zb⟩) (0, 0) _ rfl hB9 Try.underlying40 rfl (size40 _)
            exact ⟨by rw [HC.out] <;> rfl, Fr.below hS.below hF9 (Nat.le_refl _) fun i hi => by omega⟩
        · have hk0' : (cl.kind == 0) = false := by simp [hk0]
          by_cases hk4 : 4 < cl.kind
          · have hk4' : decide (4 < cl.kind) = true := by simp [hk4]
            have HC : Hid ((P.step M cl).2 = P.ok 0 P.zb) := step_567 hs0.out (by omega)
            clear hk0 hk4
            go_upto_region 9 with (fail)
            refine no_implicit_lambda% (wp_region_lit ?_)
            refine no_implicit_lambda% (wpl_val ?_ rfl ?_ ?_)
            rotate_left
            · (go_simp; (try with_reducible rfl))
            (try simp only [Act.put, Z1, Z2, Z4, Z5, Z6])
            refine no_implicit_lambda% (wpl_val ?_ rfl ?_ ?_)
            rotate_left
            · (have c0 := hS.b0; go_simp; (try with_reducible rfl))
            (try simp only [Act.put, Z1, Z2, Z3, Z4, Z5, Z6])
            refine no_implicit_lambda% (wpl_val ?_ rfl ?_ ?_)
            rotate_left
            · (go_simp; (try with_reducible rfl))
            (try simp only [Act.put, Z1, Z2, Z3, Z4, Z5, Z6])
            refine no_implicit_lambda% (wpList_nil ?_)
            go_upto_region 14 with (fail)
            refine no_implicit_lambda% (wp_region_lit ?_)
            refine no_implicit_lambda% (wpl_val ?_ rfl ?_ ?_)
            rotate_left
            · (go_simp; (try with_reducible rfl))
            (try simp only [Act.put, Z1, Z2, Z4, Z5, Z6])
            refine no_implicit_lambda% (wpl_val ?_ rfl ?_ ?_)
            rotate_left
            · (have c0 := hS.b0; go_simp; (try with_reducible rfl))
            (try simp only [Act.put, Z1, Z2, Z3, Z4, Z5, Z6])
            refine no_implicit_lambda% (wpl_val ?_ rfl ?_ ?_)
            rotate_left
            · (go_simp; (try with_reducible rfl))
            (try simp only [Act.put, Z1, Z2, Z3, Z4, Z5, Z6])
            refine no_implicit_lambda% (wpList_nil ?_)
            go_upto_region 15 with (fail)
            refine no_implicit_lambda% (wp_region_lit ?_)
            refine wpList_buildE rfl 40 _ rfl (rpA ⟨0, 0, 0, P.zb⟩) (by go_simp; exact b40) ?_
            (try simp only [Act.put, Z1, Z2, Z3, Z4, Z5, Z6])
            refine wpList_store_fr rfl 40 _ _ rfl (w.heap.size + 1) (rpA ⟨0, 0, 0, P.zb⟩) rfl rfl 40 _ hS.res (size40 _) (by simp only [rpA_size]) (rpA_one _) ?_
            intro w9 hB9 hF9
            refine no_implicit_lambda% (wpList_nil ?_)
            go_wp2_with fail
            refine bodyPost_ret (v := .agg (rpA ⟨0, 0, 0, P.zb⟩)) ?_ rfl ?_
            · exact results_cell_row rfl _ _ (w.heap.size + 1) 40 (rpA ⟨0, 0, 0, P.zb⟩) (0, 0) _ rfl hB9 Try.underlying40 rfl (size40 _)
            exact ⟨by rw [HC.out] <;> rfl, Fr.below hS.below hF9 (Nat.le_refl _) fun i hi => by omega⟩
          · have hk4' : decide (4 < cl.kind) = false := by simp; omega
            have hkk : cl.kind = 1 ∨ cl.kind = 2 ∨ cl.kind = 3 ∨ cl.kind = 4 := by omega
            have hOF : Hid ((P.step M cl).2 = (P.of M cl).2) := by unfold Hid; rw [step_of hs0.out hkk]
            have hb1 := (hsim.out.beg hs0.out cl.txn).1
            replace hb1 := Lib.hid hb1
            have htx0 := hc.txn
            clear hk0 hk4
            go_upto_region 9 with (fail)
            refine no_implicit_lambda% (wp_region_lit ?_)
            refine no_implicit_lambda% (wpl_val ?_ rfl ?_ ?_)
            rotate_left
            · (go_simp; (try with_reducible rfl))
            (try simp only [Act.put, Z1, Z2, Z4, Z5, Z6])
            refine no_implicit_lambda% (wpl_val ?_ rfl ?_ ?_)
            rotate_left
            · (have c0 := hS.b0; go_simp; (try with_reducible rfl))
            (try simp only [Act.put, Z1, Z2, Z3, Z4, Z5, Z6])
            refine no_implicit_lambda% (wpl_val ?_ rfl ?_ ?_)
            rotate_left
            · (go_simp; (try with_reducible rfl))
            (try simp only [Act.put, Z1, Z2, Z3, Z4, Z5, Z6])
            refine no_implicit_lambda% (wpList_nil ?_)
            go_upto_region 14 with (fail)
            refine no_implicit_lambda% (wp_region_lit ?_)
            refine no_implicit_lambda% (wpl_val ?_ rfl ?_ ?_)
            rotate_left
            · (go_simp; (try with_reducible rfl))
            (try simp only [Act.put, Z1, Z2, Z4, Z5, Z6])
            refine no_implicit_lambda% (wpl_val ?_ rfl ?_ ?_)
            rotate_left
            · (have c0 := hS.b0; go_simp; (try with_reducible rfl))
            (try simp only [Act.put, Z1, Z2, Z3, Z4, Z5, Z6])
            refine no_implicit_lambda% (wpl_val ?_ rfl ?_ ?_)
            rotate_left
            · (go_simp; (try with_reducible rfl))
            (try simp only [Act.put, Z1, Z2, Z3, Z4, Z5, Z6])
            refine no_implicit_lambda% (wpList_nil ?_)
            go_upto_region 16 with (fail)
            refine no_implicit_lambda% (wp_region_lit ?_)
            iterate 2
              refine no_implicit_lambda% (wpl_val ?_ rfl ?_ ?_)
              rotate_left
              · (go_simp; (try with_reducible rfl))
              (try simp only [Act.put, Z1, Z2, Z3, Z4, Z5, Z6])
            refine no_implicit_lambda% (wpl_val ?_ rfl ?_ ?_)
            rotate_left
            · (have c0 := hS.b1; go_simp; (try with_reducible rfl))
            (try simp only [Act.put, Z1, Z2, Z3, Z4, Z5, Z6])
            refine wpl_call _ _ rfl (by go_simp) _ (refbegun_any (h.below hS.below) hn1 cl.txn htx0) ?_
            rintro e w2 ⟨rfl, hb2⟩
            refine ⟨_, rfl, ?_⟩
            replace hS := hS.go hb2
            rw [hb1.out]
            clear hb2 hb1
            have hHB := HNB.out
            have hNB : ¬ P.bad M cl := fun e => hHB (.inr e)
            clear hHB HNB
            replace hNB := Lib.hid hNB
            cases hg : get M.live cl.txn with
            | none =>
              have HC : Hid ((P.step M cl).2 = P.err 9) := by
                unfold Hid
                rw [hOF.out]
                unfold P.of
                rw [if_neg hNB.out, hg]
              clear hg hkk
              simp only [Option.isSome_none]
              (try simp only [Act.put, Z1, Z2, Z3, Z4, Z5, Z6])
              iterate 5
                refine no_implicit_lambda% (wpl_val ?_ rfl ?_ ?_)
                rotate_left
                · (go_simp; (try with_reducible rfl))
                (try simp only [Act.put, Z1, Z2, Z3, Z4, Z5, Z6])
              refine no_implicit_lambda% (wpList_nil ?_)
              go_upto_region 18 with (fail)
              refine no_implicit_lambda% (wp_region_lit ?_)
              refine wpList_buildE rfl 40 _ rfl (rpA ⟨9, 0, 0, P.zb⟩) (by go_simp; exact b40_0 _) ?_
              (try simp only [Act.put, Z1, Z2, Z3, Z4, Z5, Z6])
              refine wpList_store_fr rfl 40 _ _ rfl (w.heap.size + 1) (rpA ⟨9, 0, 0, P.zb⟩) rfl rfl 40 _ hS.res (size40 _) (by simp only [rpA_size]) (rpA_one _) ?_
              intro w9 hB9 hF9
              refine no_implicit_lambda% (wpList_nil ?_)
              go_wp2_with fail
              refine bodyPost_ret (v := .agg (rpA ⟨9, 0, 0, P.zb⟩)) ?_ rfl ?_
              · exact results_cell_row rfl _ _ (w.heap.size + 1) 40 (rpA ⟨9, 0, 0, P.zb⟩) (0, 0) _ rfl hB9 Try.underlying40 rfl (size40 _)
              exact ⟨by rw [HC.out] <;> rfl, Fr.below hS.below hF9 (Nat.le_refl _) fun i hi => by omega⟩
            | some T =>
              have hst := (hsim.out.beg hs0.out cl.txn).2 T hg
              rw [hst]
              clear hst
              simp only [Option.isSome_some]
              (try simp only [Act.put, Z1, Z2, Z3, Z4, Z5, Z6])
              iterate 5
                refine no_implicit_lambda% (wpl_val ?_ rfl ?_ ?_)
                rotate_left
                · (go_simp; (try with_reducible rfl))
                (try simp only [Act.put, Z1, Z2, Z3, Z4, Z5, Z6])
              refine no_implicit_lambda% (wpList_nil ?_)
              have HT := Lib.hid hg
              clear hg
              go_upto_region 17 with (fail)
              refine no_implicit_lambda% (wp_region_lit ?_)
              iterate 2
                refine no_implicit_lambda% (wpl_val ?_ rfl ?_ ?_)
                rotate_left
                · (go_simp; (try with_reducible rfl))
                (try simp only [Act.put, Z1, Z2, Z3, Z4, Z5, Z6])
              refine no_implicit_lambda% (wpList_nil ?_)
              go_upto_region 19 with (fail)
              refine no_implicit_lambda% (wp_region_lit ?_)
              refine no_implicit_lambda% (wpl_val ?_ rfl ?_ ?_)
              rotate_left
              · (go_simp; (try with_reducible rfl))
              (try simp only [Act.put, Z1, Z2, Z4, Z5, Z6])
              refine no_implicit_lambda% (wpl_val ?_ rfl ?_ ?_)
              rotate_left
              · (have c0 := hS.b0; go_simp; (try with_reducible rfl))
              (try simp only [Act.put, Z1, Z2, Z3, Z4, Z5, Z6])
              refine no_implicit_lambda% (wpList_nil ?_)
              have hwr := Lib.hid (hsim.out.wr cl.txn T HT.out)
              have hoff := Lib.hid hsim.out.offs
              have hla := Lib.hid hsim.out.last
              rcases hkk with h1 | h1 | h1 | h1
              · exact absurd h1 (by have := hN.out; omega)
              · have hk1 : (cl.kind == 1) = false := by simp [h1]
                have hk2 : (cl.kind == 2) = true := by simp [h1]
                have hk3 : (cl.kind == 3) = false := by simp [h1]
                have hflag := Lib.hid (P.wr_flag hsim.out HT.out cl.page P.zb)
                have hcnt := P.cntF_eq hsim.out HT.out
                rw [hpg.out, Int.toNat_natCast] at hcnt
                replace hcnt := Lib.hid hcnt
                have hpg16 : pg ≤ 16 := by have h1 := hsim.out.ok.pos; have h2 := hpg.out; omega
                have hfew := (hsim.out.ok.few _ (get_mem HT.out)).1
                have hfew' : T.now.length ≤ 4 := hfew
                have HC : Hid ((P.step M cl).2 = if (get T.now cl.page).isSome = true ∨ T.now.length ≠ 4 then P.ok 0 P.zb else P.err 10) := by
                  unfold Hid
                  rw [hOF.out]
                  unfold P.of
                  rw [if_neg hNB.out, HT.out]
                  simp only []
                  rw [if_neg (by omega), if_pos h1]
                  cases hgm : get T.now cl.page with
                  | some b =>
                    rw [if_pos (show (some b).isSome = true ∨ T.now.length ≠ 4 from .inl rfl)]
                    rfl
                  | none =>
                    simp only [Option.isSome_none]
                    by_cases h4 : T.now.length = 4
                    · rw [if_pos h4, if_neg (show ¬ (false = true ∨ T.now.length ≠ 4) by simp [h4])]
                    · rw [if_neg h4, if_pos (show false = true ∨ T.now.length ≠ 4 from .inr h4)]; rfl
                clear h1 hOF hwr hfew
                go_upto_region 27 with (fail)
                refine no_implicit_lambda% (wp_region_lit ?_)
                iterate 2
                  refine no_implicit_lambda% (wpl_val ?_ rfl ?_ ?_)
                  rotate_left
                  · (go_simp; (try with_reducible rfl))
                  (try simp only [Act.put, Z1, Z2, Z3, Z4, Z5, Z6])
                refine no_implicit_lambda% (wpl_val ?_ rfl ?_ ?_)
                rotate_left
                · (have c0 := hS.b1; go_simp; (try with_reducible rfl))
                (try simp only [Act.put, Z1, Z2, Z3, Z4, Z5, Z6])
                refine no_implicit_lambda% (wpl_val ?_ rfl ?_ ?_)
                rotate_left
                · (go_simp; (try with_reducible rfl))
                (try simp only [Act.put, Z1, Z2, Z3, Z4, Z5, Z6])
                refine no_implicit_lambda% (wpl_val ?_ rfl ?_ ?_)
                rotate_left
                · (have c0 := hS.b2; go_simp; (try with_reducible rfl))
                (try simp only [Act.put, Z1, Z2, Z3, Z4, Z5, Z6])
                refine wpl_val (.agg (row 64 P.zb)) rfl (run_buildE rfl (by go_simp; exact built38)) ?_
                (try simp only [Act.put, Z1, Z2, Z3, Z4, Z5, Z6])
                refine wpl_call _ _ rfl (by go_simp) _ (wrote_any (h.below hS.below) hn1 hoff.out cl.txn cl.page P.zb) ?_
                rintro e w4 ⟨rfl, hb4⟩
                refine ⟨_, rfl, ?_⟩
                replace hS := hS.go hb4
                rw [hflag.out]
                clear hb4
                (try simp only [Act.put, Z1, Z2, Z3, Z4, Z5, Z6])
                iterate 3
                  refine no_implicit_lambda% (wpl_val ?_ rfl ?_ ?_)
                  rotate_left
                  · (go_simp; (try with_reducible rfl))
                  (try simp only [Act.put, Z1, Z2, Z3, Z4, Z5, Z6])
                refine wpl_alloc 38 (row 64 P.zb) rfl rfl hz38 ?_
                (try simp only [Act.put, Z1, Z2, Z3, Z4, Z5, Z6])
                refine wpl_law rfl (wp_store_row 38 _ _ rfl w4.heap.size (row 64 (P.wrF log cl.txn cl.page P.zb).1) rfl rfl 38 _ (Blk.alloc_new _ _ _) (size38 _) (by simp only [row_size]) (row_one _ _) ?_)
                (try simp only [Act.put, Z1, Z2, Z3, Z4, Z5, Z6])
                refine no_implicit_lambda% (wpl_val ?_ rfl ?_ ?_)
                rotate_left
                · (go_simp; (try with_reducible rfl))
                (try simp only [Act.put, Z1, Z2, Z3, Z4, Z5, Z6])
                refine no_implicit_lambda% (wpList_nil ?_)
                obtain ⟨_, hb4⟩ := row_box (w := w4) P.zb (P.wrF log cl.txn cl.page P.zb).1
                replace hS := hS.go hb4
                clear hb4
                generalize (w4.alloc (.cells (row 64 P.zb) 38)).setRow w4.heap.size (row 64 (P.wrF log cl.txn cl.page P.zb).1) = V4 at *
                cases hgm : (get T.now cl.page).isSome with
                | true =>
                  have HC2 : Hid ((P.step M cl).2 = P.ok 0 P.zb) := by unfold Hid; rw [HC.out, hgm, if_pos (.inl rfl)]
                  replace HC := HC2
                  clear HC2 hgm
                  go_upto_region 28 with (fail)
                  refine no_implicit_lambda% (wp_region_lit ?_)
                  iterate 3
                    refine no_implicit_lambda% (wpl_val ?_ rfl ?_ ?_)
                    rotate_left
                    · (go_simp; (try with_reducible rfl))
                    (try simp only [Act.put, Z1, Z2, Z3, Z4, Z5, Z6])
                  iterate 5
                    refine no_implicit_lambda% (wpl_skip rfl ?_)
                    (try simp only [Act.put, Z1, Z2, Z3, Z4, Z5, Z6])
                  refine no_implicit_lambda% (wpl_val ?_ rfl ?_ ?_)
                  rotate_left
                  · (go_simp; (try with_reducible rfl))
                  (try simp only [Act.put, Z1, Z2, Z3, Z4, Z5, Z6])
                  refine no_implicit_lambda% (wpList_nil ?_)
                  go_upto_region 42 with (fail)
                  refine no_implicit_lambda% (wp_region_lit ?_)
                  refine wpList_buildE rfl 40 _ rfl (rpA ⟨0, 0, 0, P.zb⟩) (by go_simp; exact b40) ?_
                  (try simp only [Act.put, Z1, Z2, Z3, Z4, Z5, Z6])
                  refine wpList_store_fr rfl 40 _ _ rfl (w.heap.size + 1) (rpA ⟨0, 0, 0, P.zb⟩) rfl rfl 40 _ hS.res (size40 _) (by simp only [rpA_size]) (rpA_one _) ?_
                  intro w9 hB9 hF9
                  refine no_implicit_lambda% (wpList_nil ?_)
                  go_wp2_with fail
                  refine bodyPost_ret (v := .agg (rpA ⟨0, 0, 0, P.zb⟩)) ?_ rfl ?_
                  · exact results_cell_row rfl _ _ (w.heap.size + 1) 40 (rpA ⟨0, 0, 0, P.zb⟩) (0, 0) _ rfl hB9 Try.underlying40 rfl (size40 _)
                  exact ⟨by rw [HC.out] <;> rfl, Fr.below hS.below hF9 (Nat.le_refl _) fun i hi => by omega⟩
                | false =>
                  go_upto_region 28 with (fail)
                  refine no_implicit_lambda% (wp_region_lit ?_)
                  iterate 5
                    refine no_implicit_lambda% (wpl_val ?_ rfl ?_ ?_)
                    rotate_left
                    · (go_simp; (try with_reducible rfl))
                    (try simp only [Act.put, Z1, Z2, Z3, Z4, Z5, Z6])
                  refine no_implicit_lambda% (wpl_val ?_ rfl ?_ ?_)
                  rotate_left
                  · (have c0 := hS.b1; go_simp; (try with_reducible rfl))
                  (try simp only [Act.put, Z1, Z2, Z3, Z4, Z5, Z6])
                  have hcc := count_any (h.below hS.below) hn1 hpg16 hoff.out cl.txn
                  rw [hcnt.out] at hcc
                  refine wpl_call _ _ rfl (by go_simp) _ hcc ?_
                  rintro e w5 ⟨rfl, hb5⟩
                  refine ⟨_, rfl, ?_⟩
                  replace hS := hS.go hb5
                  clear hb5 hcc
                  (try simp only [Act.put, Z1, Z2, Z3, Z4, Z5, Z6])
                  by_cases h4 : T.now.length = 4
                  · have HC2 : Hid ((P.step M cl).2 = P.err 10) := by unfold Hid; rw [HC.out, hgm, if_neg (by simp [h4])]
                    replace HC := HC2
                    have hd4 : decide ((4 : Int) ≤ (T.now.length : Int)) = true := by simp; omega
                    clear HC2 hgm h4
                    iterate 2
                      refine no_implicit_lambda% (wpl_val ?_ rfl ?_ ?_)
                      rotate_left
                      · (go_simp; (try with_reducible rfl))
                      (try simp only [Act.put, Z1, Z2, Z3, Z4, Z5, Z6])
                    refine no_implicit_lambda% (wpList_nil ?_)
                    go_upto_region 29 with (fail)
                    refine no_implicit_lambda% (wp_region_lit ?_)
                    refine wpList_buildE rfl 40 _ rfl (rpA ⟨10, 0, 0, P.zb⟩) (by go_simp; exact b40_0 _) ?_
                    (try simp only [Act.put, Z1, Z2, Z3, Z4, Z5, Z6])
                    refine wpList_store_fr rfl 40 _ _ rfl (w.heap.size + 1) (rpA ⟨10, 0, 0, P.zb⟩) rfl rfl 40 _ hS.res (size40 _) (by simp only [rpA_size]) (rpA_one _) ?_
                    intro w9 hB9 hF9
                    refine no_implicit_lambda% (wpList_nil ?_)
                    go_wp2_with fail
                    refine bodyPost_ret (v := .agg (rpA ⟨10, 0, 0, P.zb⟩)) ?_ rfl ?_
                    · exact results_cell_row rfl _ _ (w.heap.size + 1) 40 (rpA ⟨10, 0, 0, P.zb⟩) (0, 0) _ rfl hB9 Try.underlying40 rfl (size40 _)
                    exact ⟨by rw [HC.out] <;> rfl, Fr.below hS.below hF9 (Nat.le_refl _) fun i hi => by omega⟩
                  · have HC2 : Hid ((P.step M cl).2 = P.ok 0 P.zb) := by unfold Hid; rw [HC.out, hgm, if_pos (.inr h4)]
                    replace HC := HC2
                    have hd4 : decide ((4 : Int) ≤ (T.now.length : Int)) = false := by simp; omega
                    clear HC2 hgm h4
                    iterate 2
                      refine no_implicit_lambda% (wpl_val ?_ rfl ?_ ?_)
                      rotate_left
                      · (go_simp; (try with_reducible rfl))
                      (try simp only [Act.put, Z1, Z2, Z3, Z4, Z5, Z6])
                    refine no_implicit_lambda% (wpList_nil ?_)
                    go_upto_region 42 with (fail)
                    refine no_implicit_lambda% (wp_region_lit ?_)
                    refine wpList_buildE rfl 40 _ rfl (rpA ⟨0, 0, 0, P.zb⟩) (by go_simp; exact b40) ?_
                    (try simp only [Act.put, Z1, Z2, Z3, Z4, Z5, Z6])
                    refine wpList_store_fr rfl 40 _ _ rfl (w.heap.size + 1) (rpA ⟨0, 0, 0, P.zb⟩) rfl rfl 40 _ hS.res (size40 _) (by simp only [rpA_size]) (rpA_one _) ?_
                    intro w9 hB9 hF9
                    refine no_implicit_lambda% (wpList_nil ?_)
                    go_wp2_with fail
                    refine bodyPost_ret (v := .agg (rpA ⟨0, 0, 0, P.zb⟩)) ?_ rfl ?_
                    · exact results_cell_row rfl _ _ (w.heap.size + 1) 40 (rpA ⟨0, 0, 0, P.zb⟩) (0, 0) _ rfl hB9 Try.underlying40 rfl (size40 _)
                    exact ⟨by rw [HC.out] <;> rfl, Fr.below hS.below hF9 (Nat.le_refl _) fun i hi => by omega⟩
              · exact absurd h1 (by have := hN.out; omega)
              · exact absurd h1 (by have := hN.out; omega)
end Go.Proofs.Ytjaecdcddmohoaa
