/- The walk of the document's Open. -/
import Derived.Test.YtkalbhddjpnnmaaOpenW
namespace Go.Proofs.Ytkalbhddjpnnmaa
open Go.RowKit
theorem built23 : Try.prog.built 23 [] = some (row 224 fun _ => 0#8) := by rw [row_zero]; kernel_rfl
def loI (g : Nat → BitVec 8) (j : Nat) : Int := (loNat g j : Int)
def pwI (j : Nat) : Int := ((256 ^ j % 18446744073709551616 : Nat) : Int)
theorem pow_le (j : Nat) (hj : j < 8) : 256 ^ (j + 1) ≤ 18446744073709551616 := Nat.pow_le_pow_right (n := 256) (by omega) (show j + 1 ≤ 8 by omega)
theorem lo_step (g : Nat → BitVec 8) (j : Nat) (hj : j < 8) : IntKind.u64.wrap (loI g j + IntKind.u64.wrap (pwI j * B (g j))) = loI g (j + 1) := by
  have h1 := loNat_lt g j
  have h2 := loNat_lt g (j + 1)
  have h3 := pow_le j hj
  have h5 : 256 ^ j < 18446744073709551616 := by rw [Nat.pow_succ] at h3; omega
  unfold loI pwI B
  rw [Nat.mod_eq_of_lt h5]
  have h4 : loNat g (j + 1) = loNat g j + 256 ^ j * (g j).toNat := rfl
  have e1 : ((256 ^ j : Nat) : Int) * ((g j).toNat : Int) = ((256 ^ j * (g j).toNat : Nat) : Int) := (Int.natCast_mul _ _).symm
  rw [e1, h4]
  rw [h4] at h2
  generalize 256 ^ j * (g j).toNat = b at *
  generalize loNat g j = a at *
  generalize 256 ^ (j + 1) = c at *
  rw [show IntKind.u64.wrap (b : Int) = (b : Int) % 18446744073709551616 from rfl, show ∀ z : Int, IntKind.u64.wrap z = z % 18446744073709551616 from fun _ => rfl]
  omega
theorem pw_step (j : Nat) : IntKind.u64.wrap (pwI j * 256) = pwI (j + 1) := by
  unfold pwI
  rw [Nat.pow_succ]
  generalize 256 ^ j = a
  rw [show IntKind.u64.wrap (((a % 18446744073709551616 : Nat) : Int) * 256) = (((a % 18446744073709551616 : Nat) : Int) * 256) % 18446744073709551616 from rfl]
  omega
theorem eq25 {f g : Nat → BitVec 8} (h : ∀ j, j < 256 → f j = g j) (w : World) : (Op.equalIn 10000 25 (.agg (row 256 f)) (.agg (row 256 g))).run Try.prog w = .ok true w :=
  run_eql_yes Try.underlying25 Try.underlying5 cells5 cells25 key25 h w
theorem ne25 {f g : Nat → BitVec 8} (h : ¬ ∀ j, j < 256 → f j = g j) (w : World) : (Op.equalIn 10000 25 (.agg (row 256 f)) (.agg (row 256 g))).run Try.prog w = .ok false w :=
  run_eql_no Try.underlying25 Try.underlying5 cells5 cells25 key25 h w
theorem St3.go {w wr w' : World} {n0 : Nat} {f0 : Nat → BitVec 8} {t0 : TypeId} {n1 : Nat} {f1 : Nat → BitVec 8} {t1 : TypeId} {n2 : Nat} {f2 : Nat → BitVec 8} {t2 : TypeId}
    (h : St3 w wr n0 f0 t0 n1 f1 t1 n2 f2 t2) (hb : Below wr.heap.size wr w') : St3 w w' n0 f0 t0 n1 f1 t1 n2 f2 t2 :=
  ⟨h.below.trans (hb.mono h.below.size), h.b0.below hb, h.b1.below hb, h.b2.below hb⟩
set_option maxRecDepth 100000 in
set_option maxHeartbeats 4000000 in
theorem refopen_any (f : Nat → BitVec 8) (w : World) :
    Calls Try.prog 15 #[.agg (row 256 f)] w fun e w' => e = .returned (openV f) ∧ Below w.heap.size w w' := by
  have hz23 := (zero_row info23).1
  have hS := St3.start w 256 f 25 224 (fun _ => 0#8) 23 224 (fun _ => 0#8) 23
  have HS := hid hS; clear hS
  have hb0 : Blk ((w.alloc (.cells (row 256 f) 25)).alloc (.cells (row 224 fun _ => 0#8) 23)) w.heap.size (row 256 f) 25 := (Blk.alloc_new w _ _).alloc _
  have HB0 := hid hb0; clear hb0
  have hlo : loI (fun k => f (56 + k)) 8 = X (stampOf f 0) := by
    have := loNat_leN (fun k => f (64 * 0 + 56 + k))
    simpa [loI, stampOf] using this
  have HLO := hid hlo; clear hlo
  go_enter Try.func15, Try.ntmps15
  go_wp2_with fail
  go_loop [5, 6, 7] (fun s k j => ∃ n : Nat, n ≤ 8 ∧ s = .int .u64 (loI (fun k => f (56 + k)) n) ∧ k = .int .u64 (pwI n) ∧ j = .int .i64 (n : Int)) (fun _ _ j => 8 - (intOf j).toNat)
  case atStart => exact ⟨0, Nat.zero_le _, rfl, rfl, rfl⟩
  case round =>
    obtain ⟨n, hn, rfl, rfl, rfl⟩ := hrel
    by_cases hl : n < 8
    · have hc := HB0.out.byte (j := 56 + n) (by omega)
      have b0 := B_lo (f (56 + n))
      have b1 := B_hi (f (56 + n))
      have i1 : (56 + (n : Int)).toNat = 56 + n := by omega
      have e1 := lo_step (fun k => f (56 + k)) n hl
      have e2 := pw_step n
      go_wp2_with fail
      go_round
      case rel => exact ⟨n + 1, by omega, rfl, rfl, by go_num⟩
      case measure => simp [intOf]; omega
    · obtain rfl : n = 8 := by omega
      rw [HLO.out]
      go_wp2_with fail
      clear hz23
      go_loopw [9] (fun v wr => ∃ (k : Nat) (g : Nat → BitVec 8), k ≤ 224 ∧ v = .int .i64 k ∧ St3 w wr 256 f 25 224 (fun _ => 0#8) 23 224 g 23 ∧ ∀ j, j < k → g j = openP f j) (fun v _ => 224 - (intOf v).toNat)
      case atStart => exact ⟨0, _, Nat.zero_le _, rfl, HS.out, fun j hj => by omega⟩
      case round =>
        obtain ⟨k, g, hk, rfl, hS, hg⟩ := hrel
        have HG := hid hg; clear hg
        have HSS := hid hS; clear hS
        by_cases hl : k < 224
        · have hc := HSS.out.b2.byte (j := k) hl
          have hz := HSS.out.b2.free k
          have hs := HSS.out.b0.byte (j := 64 * (k / 56) + k % 56) (by omega)
          have i1 : ((k : Int) / 56 * 64 + (k : Int) % 56).toNat = 64 * (k / 56) + k % 56 := by omega
          have i2 : (0 : Int) ≤ (k : Int) / 56 * 64 + (k : Int) % 56 := by omega
          have i3 : (k : Int) / 56 * 64 + (k : Int) % 56 < 256 := by omega
          go_wp2_with fail
          go_roundw
          case rel =>
            refine ⟨k + 1, upd g k (f (64 * (k / 56) + k % 56)), by omega, by go_num, ?_, fun j hj => ?_⟩
            · rw [HSS.out.b2.setCell, show (Value.int .u8 (B (f (64 * (k / 56) + k % 56)))) = bv (f (64 * (k / 56) + k % 56)) from rfl, row_set]
              exact HSS.out.set2 _
            · unfold upd
              by_cases e : j = k
              · rw [if_pos e, e]; rfl
              · rw [if_neg e]; exact HG.out j (by omega)
          case measure => simp [intOf]; omega
        · obtain rfl : k = 224 := by omega
          have hS : St3 w wr.drew 256 f 25 224 (fun _ => 0#8) 23 224 (openP f) 23 := by
            have h := HSS.out.drew
            exact ⟨h.below, h.b0, h.b1, by have := h.b2; rwa [row_congr HG.out] at this⟩
          clear HG HSS
          have hg25 := guard25
          by_cases hW : Whole f
          · have he := eq25 ((whole_iff f).2 hW)
            have HW := hid hW; clear hW
            go_wp2_with fail
            refine wp_region_held (S := (fun w' => St3 w w' 256 f 25 224 (fun _ => 0#8) 23 224 (openP f) 23)) (by kernel_rfl) ?_
            change wpAnyH _ _ _ _ _ _ _ _ wr.drew
            refine anyH_pure 0 _ ?_ rfl (by kernel_rfl) (by kernel_rfl) (by kernel_rfl) (fun _ _ _ h => h) rfl ?_ hS ?_
            rotate_left
            · (intro w'; go_simp; (try with_reducible rfl))
            (try simp only [Act.put, List.getElem_toArray, List.getElem_cons_zero, List.setIfInBounds_toArray, List.set_cons_zero, List.set_cons_succ])
            refine anyH_load_blk 1 _ 23 _ (w.heap.size+1+1) 224 (openP f) 23 5 hS (fun w' h => h.b2) Try.underlying23 (zero_row info23).2 rfl rfl rfl (by kernel_rfl) (by kernel_rfl) (by kernel_rfl) (fun _ _ _ h => h) rfl ?_
            (try simp only [Act.put, List.getElem_toArray, List.getElem_cons_zero, List.getElem_cons_succ, List.setIfInBounds_toArray, List.set_cons_zero, List.set_cons_succ])
            refine anyH_load_blk 3 _ 25 _ w.heap.size 256 f 25 5 hS (fun w' h => h.b0) Try.underlying25 (zero_row info25).2 rfl rfl rfl (by kernel_rfl) (by kernel_rfl) (by kernel_rfl) (fun _ _ _ h => h) rfl ?_
            (try simp only [Act.put, List.getElem_toArray, List.getElem_cons_zero, List.getElem_cons_succ, List.setIfInBounds_toArray, List.set_cons_zero, List.set_cons_succ])
            refine anyH_call 2 _ _ _ _ (by kernel_rfl) rfl rfl (by go_simp) ((refseal_any (stampOf f 0) (openP f) _).mono fun e w' ⟨he, hb⟩ => ⟨he, hS.go hb⟩) (fun w' hS => ?_)
            (try simp only [Act.put, List.getElem_toArray, List.getElem_cons_zero, List.getElem_cons_succ, List.setIfInBounds_toArray, List.set_cons_zero, List.set_cons_succ])
            refine anyH_pure 4 _ ?_ rfl (by kernel_rfl) (by kernel_rfl) (by kernel_rfl) (fun _ _ _ h => h) rfl ?_ hS ?_
            rotate_left
            · (intro w'; go_simp; (try with_reducible rfl))
            (try simp only [Act.put, List.getElem_toArray, List.getElem_cons_zero, List.getElem_cons_succ, List.setIfInBounds_toArray, List.set_cons_zero, List.set_cons_succ])
            refine wpAnyH_done (by kernel_rfl) ?_ _
            rename_i w2 _
            go_wp2_with fail
            refine wp_region_still_tail 3 (by kernel_rfl) (by kernel_rfl) ?_
            simp only [List.take_succ_cons, List.take_zero, List.drop_succ_cons, List.drop_zero]
            have hS2 := hS.drew
            change wpStill _ _ (World.drew _) (fun a' => wpList _ _ _ _ _ (World.drew _)) _ _
            still_step
            refine still_load_blk 23 _ (w.heap.size + 1 + 1) 224 (openP f) 23 5 hS2.b2 Try.underlying23 (zero_row info23).2 rfl rfl rfl ?_
            (try simp only [Act.put, List.setIfInBounds_toArray, List.set_cons_zero, List.set_cons_succ])
            still_step
            refine wpStill_nil ?_
            go_wp2_with (refine wpList_store_blk rfl 23 _ _ rfl (w.heap.size + 1) 224 (fun _ => 0#8) (openP f) 23 hS2.b1 rfl rfl (zero_row info23).2 ?_)
            refine bodyPost_ret (v := .tuple #[.int .u64 (X (stampOf f 0)), .agg (row 224 (openP f)), .bool true]) ?_ rfl ⟨by rw [openV_yes HW.out], below_setRow hS2.below (by omega) _⟩
            refine results_3 (a := 2) (b := 4) (p := 3) (ty := 23) rfl _ _ (w.heap.size + 1) 224 23 5 (openP f) ?_ (hS2.b1.setRow _) Try.underlying23 (zero_row info23).2
            rfl
          · have he := ne25 (fun h => hW ((whole_iff f).1 h))
            have HW := hid hW; clear hW
            go_wp2_with fail
            refine wp_region_held (S := (fun w' => St3 w w' 256 f 25 224 (fun _ => 0#8) 23 224 (openP f) 23)) (by kernel_rfl) ?_
            change wpAnyH _ _ _ _ _ _ _ _ wr.drew
            refine anyH_pure 0 _ ?_ rfl (by kernel_rfl) (by kernel_rfl) (by kernel_rfl) (fun _ _ _ h => h) rfl ?_ hS ?_
            rotate_left
            · (intro w'; go_simp; (try with_reducible rfl))
            (try simp only [Act.put, List.getElem_toArray, List.getElem_cons_zero, List.setIfInBounds_toArray, List.set_cons_zero, List.set_cons_succ])
            refine anyH_load_blk 1 _ 23 _ (w.heap.size+1+1) 224 (openP f) 23 5 hS (fun w' h => h.b2) Try.underlying23 (zero_row info23).2 rfl rfl rfl (by kernel_rfl) (by kernel_rfl) (by kernel_rfl) (fun _ _ _ h => h) rfl ?_
            (try simp only [Act.put, List.getElem_toArray, List.getElem_cons_zero, List.getElem_cons_succ, List.setIfInBounds_toArray, List.set_cons_zero, List.set_cons_succ])
            refine anyH_load_blk 3 _ 25 _ w.heap.size 256 f 25 5 hS (fun w' h => h.b0) Try.underlying25 (zero_row info25).2 rfl rfl rfl (by kernel_rfl) (by kernel_rfl) (by kernel_rfl) (fun _ _ _ h => h) rfl ?_
            (try simp only [Act.put, List.getElem_toArray, List.getElem_cons_zero, List.getElem_cons_succ, List.setIfInBounds_toArray, List.set_cons_zero, List.set_cons_succ])
            refine anyH_call 2 _ _ _ _ (by kernel_rfl) rfl rfl (by go_simp) ((refseal_any (stampOf f 0) (openP f) _).mono fun e w' ⟨he, hb⟩ => ⟨he, hS.go hb⟩) (fun w' hS => ?_)
            (try simp only [Act.put, List.getElem_toArray, List.getElem_cons_zero, List.getElem_cons_succ, List.setIfInBounds_toArray, List.set_cons_zero, List.set_cons_succ])
            refine anyH_pure 4 _ ?_ rfl (by kernel_rfl) (by kernel_rfl) (by kernel_rfl) (fun _ _ _ h => h) rfl ?_ hS ?_
            rotate_left
            · (intro w'; go_simp; (try with_reducible rfl))
            (try simp only [Act.put, List.getElem_toArray, List.getElem_cons_zero, List.getElem_cons_succ, List.setIfInBounds_toArray, List.set_cons_zero, List.set_cons_succ])
            refine wpAnyH_done (by kernel_rfl) ?_ _
            go_wp2_with (first
              | (refine wpList_build0 rfl 23 rfl _ built23 ?_)
              | (refine wpList_store_blk rfl 23 _ _ rfl (w.heap.size + 1) 224 (fun _ => 0#8) (fun _ => 0#8) 23 hS.b1 rfl rfl (zero_row info23).2 ?_))
            refine bodyPost_ret (v := .tuple #[.int .u64 0, .agg (row 224 fun _ => 0#8), .bool false]) ?_ rfl ⟨by rw [openV_no HW.out], below_setRow hS.below (by omega) _⟩
            refine results_3 (a := 2) (b := 4) (p := 3) (ty := 23) rfl _ _ (w.heap.size + 1) 224 23 5 (fun _ => 0#8) ?_ (hS.b1.setRow _) Try.underlying23 (zero_row info23).2
            rfl
end Go.Proofs.Ytkalbhddjpnnmaa
