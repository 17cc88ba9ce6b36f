/- The walks of Open and of the document's Open. -/
import Derived.Test.YtkalbhddjpnnmaaStamp
import Derived.Test.YtkalbhddjpnnmaaReg
import Derived.Test.YtkalbhddjpnnmaaLaws
namespace Go.Proofs.Ytkalbhddjpnnmaa
open Go.RowKit
theorem X_or (y : BitVec 64) (c : BitVec 8) : bits .or .u64 (IntKind.u64.wrap (X y * 256)) (B c) = X ((y <<< 8) ||| c.zeroExtend 64) := by
  have hX : ∀ y : BitVec 64, BitVec.ofInt 64 (X y) = y := fun y => by unfold X; rw [BitVec.ofInt_natCast]; simp
  have hwr : ∀ y : BitVec 64, IntKind.u64.wrap (y.toNat : Int) = X y := fun y => by
    unfold X
    have := y.isLt
    rw [show IntKind.u64.wrap (y.toNat : Int) = (y.toNat : Int) % 18446744073709551616 from rfl]
    omega
  have h1 : IntKind.u64.wrap (X y * 256) = X (y <<< 8) := by
    unfold X
    rw [BitVec.toNat_shiftLeft, Nat.shiftLeft_eq]
    rw [show IntKind.u64.wrap ((y.toNat : Int) * 256) = ((y.toNat : Int) * 256) % 18446744073709551616 from rfl]
    omega
  have h2 : B c = X (c.zeroExtend 64) := by
    unfold B X
    have := c.isLt
    show (c.toNat : Int) = ((BitVec.setWidth 64 c).toNat : Int)
    rw [BitVec.toNat_setWidth]
    omega
  rw [h1, h2]
  show IntKind.u64.wrap (((BitVec.ofInt 64 (X (y <<< 8)) ||| BitVec.ofInt 64 (X (c.zeroExtend 64))).toNat : Nat) : Int) = _
  rw [hX, hX, hwr]
theorem openP_part (f g : Nat → BitVec 8) (i : Nat) (hg : ∀ j, j < 56 * i → g j = openP f j) : ∀ j, j < 56 * (i + 1) → lay g (56 * i) 56 f (64 * i) j = openP f j := fun j hj => by
  unfold lay
  by_cases h : 56 * i ≤ j ∧ j < 56 * i + 56
  · rw [if_pos h]
    unfold openP
    congr 1
    omega
  · rw [if_neg h]
    exact hg j (by omega)
/-- What follows in a round behind its stamp. -/
theorem results_3 {P : Program} {fn : Func} {a b p : Tmp} {ty : TypeId} (h : fn.results = #[.tmp a, .cell p ty, .tmp b]) (tmps : Array Value) (w : World) (g n : Nat) (t e : TypeId) (f : Nat → BitVec 8)
    (hp : tmps.getD p undef = .pointer (some ⟨g, 0, none⟩)) (hg : Blk w g (row n f) t) (hu : P.underlying ty = some (.array n e)) (hi : (P.info? ty).map (·.size) = some n) :
    (results fn tmps).run P w = .ok (.tuple #[tmps.getD a undef, .agg (row n f), tmps.getD b undef]) w := by
  have hp' : tmps[p]?.getD undef = .pointer (some ⟨g, 0, none⟩) := by simpa using hp
  simp [results, h, hp', asAddr, run_loadVar_row w g t ty (row n f) (0, 0) _ hg hu rfl (by rw [row_size]; exact hi)]
theorem built24 : Try.prog.built 24 [] = some (row 224 fun _ => 0#8) := by rw [row_zero]; kernel_rfl
open Classical in
/-- What Open answers. -/
noncomputable def openV (f : Nat → BitVec 8) : Value :=
  if Whole f then .tuple #[.int .u64 (X (stampOf f 0)), .agg (row 224 (openP f)), .bool true] else .tuple #[.int .u64 0, .agg (row 224 fun _ => 0#8), .bool false]
theorem openV_yes {f : Nat → BitVec 8} (h : Whole f) : openV f = .tuple #[.int .u64 (X (stampOf f 0)), .agg (row 224 (openP f)), .bool true] := if_pos h
theorem openV_no {f : Nat → BitVec 8} (h : ¬ Whole f) : openV f = .tuple #[.int .u64 0, .agg (row 224 fun _ => 0#8), .bool false] := if_neg h
theorem X_inj {x y : BitVec 64} (h : X x = X y) : x = y := by
  unfold X at h
  exact BitVec.eq_of_toNat_eq (by omega)
set_option maxRecDepth 100000 in
set_option maxHeartbeats 4000000 in
theorem open_any (f : Nat → BitVec 8) (w : World) :
    Calls Try.prog 14 #[.agg (row 256 f)] w fun e w' => e = .returned (openV f) ∧ Below w.heap.size w w' := by
  have hz24 := (zero_row info24).1
  have hS := St3.start w 256 f 26 224 (fun _ => 0#8) 24 224 (fun _ => 0#8) 24
  have HS := hid hS; clear hS
  go_enter Try.func14, Try.ntmps14
  go_wp2_with fail
  clear hz24
  go_loopw [11, 6] (fun v s wr => ∃ (i : Nat) (g : Nat → BitVec 8), i ≤ 4 ∧ v = .int .i64 i ∧ (0 < i → s = .int .u64 (X (stampOf f 0))) ∧ (∃ z, s = .int .u64 z) ∧ St3 w wr 256 f 26 224 (fun _ => 0#8) 24 224 g 24 ∧ (∀ j, j < 56 * i → g j = openP f j) ∧ ∀ m, m < i → stampOf f m = stampOf f 0) (fun v _ _ => 4 - (intOf v).toNat)
  case atStart => exact ⟨0, _, Nat.zero_le _, rfl, fun h => by omega, ⟨_, rfl⟩, HS.out, fun j hj => by omega, fun m hm => by omega⟩
  case round =>
    obtain ⟨i, g, hi, rfl, hs, ⟨z, rfl⟩, hS, hg, hst⟩ := hrel
    have HST := hid hst; clear hst
    have HG := hid hg; clear hg
    have HSS := hid hS; clear hS
    have HSt := hid hs; clear hs
    by_cases hlt : i < 4
    · go_wp2_with fail
      go_loop [9, 10] (fun v k => ∃ n : Nat, n ≤ 8 ∧ v = .int .u64 (X (leN (fun k => f (64 * i + 56 + k)) n)) ∧ k = .int .i64 (7 - (n : Int))) (fun _ k => (intOf k + 1).toNat)
      case atStart => exact ⟨0, Nat.zero_le _, rfl, rfl⟩
      case round =>
        obtain ⟨n, hn, rfl, rfl⟩ := hrel
        by_cases hl : n < 8
        · have hc := HSS.out.b0.byte (j := 64 * i + 56 + (7 - n)) (by omega)
          have k0 : (0 : Int) ≤ 7 - (n : Int) := by omega
          have i1 : ((i : Int) * 64 + 56 + (7 - (n : Int))).toNat = 64 * i + 56 + (7 - n) := by omega
          have b0 := B_lo (f (64 * i + 56 + (7 - n)))
          have b1 := B_hi (f (64 * i + 56 + (7 - n)))
          go_wp2_with fail
          go_round
          case rel =>
            refine ⟨n + 1, by omega, ?_, by go_num⟩
            rw [X_or]; rfl
          case measure => simp [intOf]; omega
        · obtain rfl : n = 8 := by omega
          have hy : leN (fun k => f (64 * i + 56 + k)) 8 = stampOf f i := rfl
          rw [hy]
          clear hy
          by_cases heq : stampOf f i = stampOf f 0
          · have HEQ := hid heq
            rw [heq]
            clear heq
            have i0 : IntKind.i64.wrap ((i : Int) * 56) = (i : Int) * 56 := IntWalk.i64_in _ (by omega)
            have i1 : IntKind.i64.wrap ((i : Int) + 1) = (i : Int) + 1 := IntWalk.i64_in _ (by omega)
            have i2 : IntKind.i64.wrap (((i : Int) + 1) * 56) = ((i : Int) + 1) * 56 := IntWalk.i64_in _ (by omega)
            have s1 := fun w' => run_slice_lh (P := Try.prog) Try.underlying24 size5 (b := w.heap.size + 1 + 1) (lo := 56 * i) (hi := 56 * i + 56) (kl := .i64) (kh := .i64) (L := (i : Int) * 56) (H := ((i : Int) + 1) * 56) (by omega) (by omega) (by omega) (by omega) (by omega) w'
            have s2 := fun w' => run_slice_l (P := Try.prog) Try.underlying26 size5 (b := w.heap.size) (lo := 64 * i) (kl := .i64) (L := (i : Int) * 64) (by omega) (by omega) w'
            by_cases hi0 : i = 0
            · have hb : ((i : Int) == 0) = true := by simp [hi0]
              clear hi0
              go_wp2_with fail
              go_still_tail 8, (by kernel_rfl)
              clear s1 s2 i0 i1 i2
              change wpList _ _ _ _ _ wr.drew
              have hS1 := HSS.out.drew
              refine wpList_copy_row rfl _ _ 43 43 rfl 5 Try.underlying43 size5 (w.heap.size + 1 + 1) (56 * i) _ (224 - 56 * i) w.heap.size (64 * i) (256 - 64 * i) (256 - 64 * i) rfl rfl 224 256 g f 24 26 hS1.b2 hS1.b0 56 (by show 56 = min (256 - 64 * i) _; omega) (by omega) (by omega) ?_
              have hS2 := hS1.set2 (lay g (56 * i) 56 f (64 * i))
              have hg2 := openP_part f g i HG.out
              generalize lay g (56 * i) 56 f (64 * i) = g2 at *
              generalize wr.drew.setRow (w.heap.size + 1 + 1) (row 224 g2) = w2 at *
              have HS2 := hid hS2; clear hS2 hS1
              have HG2 := hid hg2; clear hg2
              go_wp2_with fail
              go_roundw
              case rel => exact ⟨i + 1, g2, by omega, by go_num, fun _ => rfl, ⟨_, rfl⟩, HS2.out, HG2.out, fun m hm => by
                rcases Nat.lt_or_ge m i with h | h
                · exact HST.out m h
                · obtain rfl : m = i := by omega
                  exact HEQ.out⟩
              case measure => simp [intOf]; omega
            · have hb : ((i : Int) == 0) = false := by simp [hi0]
              have hz := HSt.out (by omega)
              injection hz with _ hz
              subst hz
              clear hi0
              go_wp2_with fail
              go_still_tail 8, (by kernel_rfl)
              clear s1 s2 i0 i1 i2
              change wpList _ _ _ _ _ wr.drew
              have hS1 := HSS.out.drew
              refine wpList_copy_row rfl _ _ 43 43 rfl 5 Try.underlying43 size5 (w.heap.size + 1 + 1) (56 * i) _ (224 - 56 * i) w.heap.size (64 * i) (256 - 64 * i) (256 - 64 * i) rfl rfl 224 256 g f 24 26 hS1.b2 hS1.b0 56 (by show 56 = min (256 - 64 * i) _; omega) (by omega) (by omega) ?_
              have hS2 := hS1.set2 (lay g (56 * i) 56 f (64 * i))
              have hg2 := openP_part f g i HG.out
              generalize lay g (56 * i) 56 f (64 * i) = g2 at *
              generalize wr.drew.setRow (w.heap.size + 1 + 1) (row 224 g2) = w2 at *
              have HS2 := hid hS2; clear hS2 hS1
              have HG2 := hid hg2; clear hg2
              go_wp2_with fail
              go_roundw
              case rel => exact ⟨i + 1, g2, by omega, by go_num, fun _ => rfl, ⟨_, rfl⟩, HS2.out, HG2.out, fun m hm => by
                rcases Nat.lt_or_ge m i with h | h
                · exact HST.out m h
                · obtain rfl : m = i := by omega
                  exact HEQ.out⟩
              case measure => simp [intOf]; omega
          · have hi0 : i ≠ 0 := fun h => heq (by rw [h])
            have hb : ((i : Int) == 0) = false := by simp [hi0]
            have hz := HSt.out (by omega)
            injection hz with _ hz
            subst hz
            have hne : (X (stampOf f i) != X (stampOf f 0)) = true := by rw [bne_iff_ne]; exact fun h => heq (X_inj h)
            have hno : ¬ Whole f := fun h => heq (h i hlt)
            have HNO := hid hno; clear hno heq hi0
            have hS := HSS.out
            go_wp2_with (first
              | (refine wpList_build0 rfl 24 rfl _ built24 ?_)
              | (refine wpList_store_blk rfl 24 _ _ rfl (w.heap.size + 1) 224 (fun _ => 0#8) (fun _ => 0#8) 24 hS.b1 rfl rfl (zero_row info24).2 ?_))
            refine bodyPost_ret (v := .tuple #[.int .u64 0, .agg (row 224 fun _ => 0#8), .bool false]) ?_ rfl ⟨by rw [openV_no HNO.out], below_setRow hS.below (by omega) _⟩
            refine results_3 (a := 2) (b := 4) (p := 3) (ty := 24) rfl _ _ (w.heap.size + 1) 224 24 5 (fun _ => 0#8) ?_ (hS.b1.setRow _) Try.underlying24 (zero_row info24).2
            rfl
    · obtain rfl : i = 4 := by omega
      have hs := HSt.out (by omega)
      injection hs with _ hs
      subst hs
      have hS := HSS.out.drew
      go_wp2_with fail
      refine wp_region_still_tail 3 (by kernel_rfl) (by kernel_rfl) ?_
      simp only [List.take_succ_cons, List.take_zero, List.drop_succ_cons, List.drop_zero]
      change wpStill _ _ wr.drew (fun a' => wpList _ _ _ _ _ wr.drew) _ _
      still_step
      refine still_load_blk 24 _ (w.heap.size + 1 + 1) 224 g 24 5 hS.b2 Try.underlying24 (zero_row info24).2 rfl rfl rfl ?_
      (try simp only [Act.put, List.setIfInBounds_toArray, List.set_cons_zero, List.set_cons_succ])
      still_step
      refine wpStill_nil ?_
      go_wp2_with (refine wpList_store_blk rfl 24 _ _ rfl (w.heap.size + 1) 224 (fun _ => 0#8) g 24 hS.b1 rfl rfl (zero_row info24).2 ?_)
      refine bodyPost_ret (v := .tuple #[.int .u64 (X (stampOf f 0)), .agg (row 224 g), .bool true]) ?_ rfl ⟨by rw [openV_yes HST.out, row_congr fun j hj => HG.out j (by omega)], below_setRow hS.below (by omega) _⟩
      refine results_3 (a := 2) (b := 4) (p := 3) (ty := 24) rfl _ _ (w.heap.size + 1) 224 24 5 g ?_ (hS.b1.setRow _) Try.underlying24 (zero_row info24).2
      rfl
end Go.Proofs.Ytkalbhddjpnnmaa
