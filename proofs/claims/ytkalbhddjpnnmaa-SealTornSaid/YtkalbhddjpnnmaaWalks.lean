/- The walks of seal: what Seal, Open, Cut and Lay, and the document's answers, compute. -/
import Derived.Test.YtkalbhddjpnnmaaProg
import Derived.Test.YtkalbhddjpnnmaaArr
import Derived.BigQuiet
import Derived.Deep.QuietTactic
import Derived.StillTailTactics
namespace Go.Proofs.Ytkalbhddjpnnmaa
open Go.RowKit

/-- A stamp's number. -/
def X (x : BitVec 64) : Int := (x.toNat : Int)
/-- A stamp's byte. -/
def sb (x : BitVec 64) (k : Nat) : BitVec 8 := (x >>> (8 * k)).truncate 8
/-- The sealed block. -/
def sealF (x : BitVec 64) (p : Nat → BitVec 8) : Nat → BitVec 8 := fun j => if j % 64 < 56 then p (56 * (j / 64) + j % 64) else sb x (j % 64 - 56)

theorem info26 : (Try.prog.info? 26).map (fun i => (i.zero, i.size)) = some (some (.agg (Array.replicate 256 (.int .u8 0))), 256) := by kernel_rfl
theorem info25 : (Try.prog.info? 25).map (fun i => (i.zero, i.size)) = some (some (.agg (Array.replicate 256 (.int .u8 0))), 256) := by kernel_rfl
theorem info24 : (Try.prog.info? 24).map (fun i => (i.zero, i.size)) = some (some (.agg (Array.replicate 224 (.int .u8 0))), 224) := by kernel_rfl
theorem info23 : (Try.prog.info? 23).map (fun i => (i.zero, i.size)) = some (some (.agg (Array.replicate 224 (.int .u8 0))), 224) := by kernel_rfl
theorem info31 : (Try.prog.info? 31).map (fun i => (i.zero, i.size)) = some (some (.agg (Array.replicate 64 (.int .u8 0))), 64) := by kernel_rfl
theorem info30 : (Try.prog.info? 30).map (fun i => (i.zero, i.size)) = some (some (.agg (Array.replicate 64 (.int .u8 0))), 64) := by kernel_rfl
theorem size5 : (Try.prog.info? 5).map (·.size) = some 1 := by kernel_rfl

/-- What Seal's rounds lean on: three blocks. -/
structure SealSt (w wr : World) (p f : Nat → BitVec 8) (t1 t2 : TypeId) : Prop where
  below : Below w.heap.size w wr
  src : Blk wr w.heap.size (row 224 p) t1
  res : Blk wr (w.heap.size + 1) (row 256 fun _ => 0#8) t2
  dst : Blk wr (w.heap.size + 2) (row 256 f) t2

theorem SealSt.turned {w wr : World} {p f : Nat → BitVec 8} {t1 t2 : TypeId} (h : SealSt w wr p f t1 t2) (g : Nat → BitVec 8) : SealSt w (wr.setRow (w.heap.size + 1 + 1) (row 256 g)) p g t1 t2 where
  below := below_setRow h.below (by omega) _
  src := h.src.setRow_other (by omega) _
  res := h.res.setRow_other (by omega) _
  dst := h.dst.setRow _
theorem SealSt.start (w : World) (p : Nat → BitVec 8) (t1 t2 : TypeId) : SealSt w (((w.alloc (.cells (row 224 p) t1)).alloc (.cells (row 256 fun _ => 0#8) t2)).alloc (.cells (row 256 fun _ => 0#8) t2)) p (fun _ => 0#8) t1 t2 where
  below := (((Below.refl _ _).alloc (Nat.le_refl _) _).alloc (by simp) _).alloc (by simp; omega) _
  src := ((Blk.alloc_new w _ _).alloc _).alloc _
  res := by
    have h := Blk.alloc_new (w.alloc (.cells (row 224 p) t1)) (row 256 fun _ => 0#8) t2
    rw [show (w.alloc (.cells (row 224 p) t1)).heap.size = w.heap.size + 1 by simp] at h
    exact h.alloc _
  dst := by
    have h := Blk.alloc_new ((w.alloc (.cells (row 224 p) t1)).alloc (.cells (row 256 fun _ => 0#8) t2)) (row 256 fun _ => 0#8) t2
    rw [show ((w.alloc (.cells (row 224 p) t1)).alloc (.cells (row 256 fun _ => 0#8) t2)).heap.size = w.heap.size + 2 by simp] at h
    exact h
theorem sb_val (x : BitVec 64) (k : Nat) : X x / 2 ^ (8 * k) % 256 = B (sb x k) := by
  unfold X B sb
  simp only [BitVec.truncate_eq_setWidth, BitVec.toNat_setWidth, BitVec.toNat_ushiftRight, Nat.shiftRight_eq_div_pow]
  show ((x.toNat : Nat) : Int) / 2 ^ (8 * k) % 256 = ((x.toNat / 2 ^ (8 * k) % 256 : Nat) : Int)
  generalize x.toNat = z
  rw [Int.natCast_emod, Int.natCast_ediv, Int.natCast_pow]
  rfl
theorem sealF_part (x : BitVec 64) (p f : Nat → BitVec 8) (i : Nat) (hf : ∀ j, j < 64 * i → f j = sealF x p j) :
    ∀ j, j < 64 * i + 56 → lay f (64 * i) 56 p (56 * i) j = sealF x p j := fun j hj => by
  unfold lay
  by_cases h : 64 * i ≤ j
  · rw [if_pos ⟨h, hj⟩]
    unfold sealF
    have h1 : j / 64 = i := by omega
    have h2 : j % 64 = j - 64 * i := by omega
    rw [if_pos (by omega), h1, h2]
  · rw [if_neg (by omega)]
    exact hf j (by omega)
theorem sealF_stamp (x : BitVec 64) (p f : Nat → BitVec 8) (i k : Nat) (hk : k < 8) (hf : ∀ j, j < 64 * i + 56 + k → f j = sealF x p j) :
    ∀ j, j < 64 * i + 56 + (k + 1) → upd f (64 * i + 56 + k) (sb x k) j = sealF x p j := fun j hj => by
  unfold upd
  by_cases h : j = 64 * i + 56 + k
  · rw [if_pos h]
    unfold sealF
    rw [if_neg (by omega), show j % 64 - 56 = k by omega]
  · rw [if_neg h]
    exact hf j (by omega)

set_option maxRecDepth 100000 in
set_option maxHeartbeats 1000000 in
theorem seal_any (x : BitVec 64) (p : Nat → BitVec 8) (w : World) :
    Calls Try.prog 8 #[.int .u64 (X x), .agg (row 224 p)] w fun e w' => e = .returned (.agg (row 256 (sealF x p))) ∧ Below w.heap.size w w' := by
  have hz26 := (zero_row info26).1
  go_enter Try.func8, Try.ntmps8
  go_wp2_with fail
  clear hz26
  go_loopw [9] (fun v wr => ∃ (i : Nat) (f : Nat → BitVec 8), i ≤ 4 ∧ v = .int .i64 i ∧ SealSt w wr p f 24 26 ∧ ∀ j, j < 64 * i → f j = sealF x p j) (fun v _ => 4 - (intOf v).toNat)
  case atStart => exact ⟨0, _, Nat.zero_le _, rfl, SealSt.start w p 24 26, fun j hj => by omega⟩
  case round =>
    obtain ⟨i, f, hi, rfl, hS, hf⟩ := hrel
    by_cases hlt : i < 4
    · have i0 : IntKind.i64.wrap ((i : Int) * 64 + 56) = (i : Int) * 64 + 56 := IntWalk.i64_in _ (by omega)
      have i1 : IntKind.i64.wrap ((i : Int) * 56) = (i : Int) * 56 := IntWalk.i64_in _ (by omega)
      have s1 := fun w' => run_slice_lh (P := Try.prog) Try.underlying26 size5 (b := w.heap.size + 1 + 1) (lo := 64 * i) (hi := 64 * i + 56) (kl := .i64) (kh := .i64) (L := (i : Int) * 64) (H := (i : Int) * 64 + 56) (by omega) (by omega) (by omega) (by omega) (by omega) w'
      have s2 := fun w' => run_slice_l (P := Try.prog) Try.underlying24 size5 (b := w.heap.size) (lo := 56 * i) (kl := .i64) (L := (i : Int) * 56) (by omega) (by omega) w'
      go_wp2_with fail
      go_still_tail 7, (by kernel_rfl)
      clear s1 s2 i0 i1
      change wpList _ _ _ _ _ wr.drew
      have hS1 : SealSt w wr.drew p f 24 26 := ⟨hS.below.drew, hS.src, hS.res, hS.dst⟩
      refine wpList_copy_row rfl _ _ 43 43 rfl 5 Try.underlying43 size5 (w.heap.size + 1 + 1) (64 * i) 56 (256 - 64 * i) w.heap.size (56 * i) (224 - 56 * i) (224 - 56 * i) rfl rfl 256 224 f p 26 24 hS1.dst hS1.src 56
        (by show 56 = min (224 - 56 * i) 56; omega) (by omega) (by omega) ?_
      have hS2 := hS1.turned (lay f (64 * i) 56 p (56 * i))
      have hf2 := sealF_part x p f i hf
      generalize lay f (64 * i) 56 p (56 * i) = f2 at *
      generalize wr.drew.setRow (w.heap.size + 1 + 1) (row 256 f2) = w2 at *
      clear hS1 hS hf
      go_wp2_with fail
      go_loopw [22] (fun v wr => ∃ (k : Nat) (f : Nat → BitVec 8), k ≤ 8 ∧ v = .int .i64 k ∧ SealSt w wr p f 24 26 ∧ ∀ j, j < 64 * i + 56 + k → f j = sealF x p j) (fun v _ => 8 - (intOf v).toNat)
      case atStart => exact ⟨0, f2, Nat.zero_le _, rfl, hS2, hf2⟩
      case round =>
        clear hS2 hf2
        obtain ⟨k, f, hk, rfl, hS, hf⟩ := hrel
        by_cases hl : k < 8
        · have hc := hS.dst.byte (j := 64 * i + 56 + k) (by omega)
          have hz := hS.dst.free (64 * i + 56 + k)
          have i2 : ((i : Int) * 64 + 56 + (k : Int)).toNat = 64 * i + 56 + k := by omega
          go_wp2_with fail
          go_roundw
          case rel =>
            refine ⟨k + 1, upd f (64 * i + 56 + k) (sb x k), by omega, by go_num, ?_, sealF_stamp x p f i k hl hf⟩
            rw [sb_val, hS.dst.setCell, show (Value.int .u8 (B (sb x k))) = bv (sb x k) from rfl, row_set]
            exact hS.turned _
          case measure => simp [intOf]; omega
        · obtain rfl : k = 8 := by omega
          go_wp2_with fail
          go_roundw
          case rel => exact ⟨i + 1, f, by omega, by go_num, hS, fun j hj => hf j (by omega)⟩
          case measure => simp [intOf]; omega
    · obtain rfl : i = 4 := by omega
      have hd := hS.dst
      have hr := hS.res
      go_wp2_with (first
        | (refine wpList_load_blk rfl 26 _ rfl (w.heap.size + 1 + 1) 256 f 26 hd rfl 5 Try.underlying26 (zero_row info26).2 ?_)
        | (refine wpList_store_blk rfl 26 _ _ rfl (w.heap.size + 1) 256 (fun _ => 0#8) f 26 hr rfl rfl (zero_row info26).2 ?_))
      refine bodyPost_ret (v := .agg (row 256 f)) ?_ rfl ⟨by rw [row_congr fun j hj => hf j (by omega)], below_setRow hS.below (by omega) _⟩
      exact results_cell_row rfl _ _ (w.heap.size + 1) 26 (row 256 f) (0, 0) _ rfl (hr.setRow _) Try.underlying26 rfl (by rw [row_size]; exact (zero_row info26).2)

theorem X_div (y : BitVec 64) : IntKind.u64.wrap ((X y).tdiv 256) = X (y >>> 8) := by
  unfold X
  rw [Int.tdiv_eq_ediv_of_nonneg (by omega), BitVec.toNat_ushiftRight, Nat.shiftRight_eq_div_pow]
  have := y.isLt
  generalize y.toNat = z at *
  rw [show IntKind.u64.wrap ((z : Int) / 256) = ((z : Int) / 256) % 18446744073709551616 from rfl]
  omega
theorem X_mod (y : BitVec 64) : IntKind.u8.wrap ((X y).tmod 256) = B (y.truncate 8) := by
  unfold X B
  rw [Int.tmod_eq_emod_of_nonneg (by omega), BitVec.truncate_eq_setWidth, BitVec.toNat_setWidth]
  generalize y.toNat = z at *
  rw [show IntKind.u8.wrap ((z : Int) % 256) = ((z : Int) % 256) % 256 from rfl]
  omega
theorem sealF_next (x : BitVec 64) (p f : Nat → BitVec 8) (a : Nat) (c : BitVec 8) (hc : c = sealF x p a) (hf : ∀ j, j < a → f j = sealF x p j) : ∀ j, j < a + 1 → upd f a c j = sealF x p j := fun j hj => by
  unfold upd
  by_cases h : j = a
  · rw [if_pos h, h, hc]
  · rw [if_neg h]; exact hf j (by omega)

set_option maxRecDepth 100000 in
set_option maxHeartbeats 1000000 in
theorem refseal_any (x : BitVec 64) (p : Nat → BitVec 8) (w : World) :
    Calls Try.prog 9 #[.int .u64 (X x), .agg (row 224 p)] w fun e w' => e = .returned (.agg (row 256 (sealF x p))) ∧ Below w.heap.size w w' := by
  have hz25 := (zero_row info25).1
  go_enter Try.func9, Try.ntmps9
  go_wp2_with fail
  clear hz25
  go_loopw [6] (fun v wr => ∃ (a : Nat) (f : Nat → BitVec 8), a ≤ 256 ∧ v = .int .i64 a ∧ SealSt w wr p f 23 25 ∧ ∀ j, j < a → f j = sealF x p j) (fun v _ => 256 - (intOf v).toNat)
  case atStart => exact ⟨0, _, Nat.zero_le _, rfl, SealSt.start w p 23 25, fun j hj => by omega⟩
  case round =>
    obtain ⟨a, f, ha, rfl, hS, hf⟩ := hrel
    by_cases hlt : a < 256
    · have hc := hS.dst.byte (j := a) hlt
      have hz := hS.dst.free a
      by_cases hk : (a : Int) % 64 < 56
      · have hs := hS.src.byte (j := 56 * (a / 64) + a % 64) (by omega)
        have i1 : (56 * ((a : Int) / 64) + (a : Int) % 64).toNat = 56 * (a / 64) + a % 64 := by omega
        have i2 : (0 : Int) ≤ 56 * ((a : Int) / 64) + (a : Int) % 64 := by omega
        have i3 : 56 * ((a : Int) / 64) + (a : Int) % 64 < 224 := by omega
        go_wp2_with fail
        go_roundw
        case rel =>
          refine ⟨a + 1, upd f a (p (56 * (a / 64) + a % 64)), by omega, by go_num, ?_, sealF_next x p f a _ (by unfold sealF; rw [if_pos (by omega)]) hf⟩
          rw [hS.dst.setCell, show (Value.int .u8 (B (p (56 * (a / 64) + a % 64)))) = bv (p (56 * (a / 64) + a % 64)) from rfl, row_set]
          exact hS.turned _
        case measure => simp [intOf]; omega
      · go_wp2_with fail
        go_loop [9, 10] (fun v j => ∃ m : Nat, 56 + m ≤ a % 64 ∧ v = .int .u64 (X (x >>> (8 * m))) ∧ j = .int .i64 ((56 + m : Nat) : Int)) (fun _ j => 64 - (intOf j).toNat)
        case atStart => exact ⟨0, by omega, rfl, rfl⟩
        case round =>
          obtain ⟨m, hm, rfl, rfl⟩ := hrel
          by_cases hl : ((56 + m : Nat) : Int) < (a : Int) % 64
          · have hd := X_div (x >>> (8 * m))
            have hm1 : 56 + (m + 1) ≤ a % 64 := by omega
            go_wp2_with fail
            go_round
            case rel => exact ⟨m + 1, hm1, by rw [← BitVec.shiftRight_add]; rfl, by go_num⟩
            case measure => simp [intOf]; omega
          · have hm1 : a % 64 - 56 = m := by omega
            have hv : B ((x >>> (8 * m)).truncate 8) = B (sealF x p a) := by unfold sealF; rw [if_neg (by omega), hm1]; rfl
            have hd := (X_mod (x >>> (8 * m))).trans hv
            clear hm1 hv
            go_wp2_with fail
            go_roundw
            case rel =>
              refine ⟨a + 1, upd f a (sealF x p a), by omega, by go_num, ?_, sealF_next x p f a _ rfl hf⟩
              try rw [hd]
              rw [hS.dst.setCell, show (Value.int .u8 (B (sealF x p a))) = bv (sealF x p a) from rfl, row_set]
              exact hS.turned _
            case measure => simp [intOf]; omega
    · obtain rfl : a = 256 := by omega
      have hd := hS.dst
      have hr := hS.res
      go_wp2_with (first
        | (refine wpList_load_blk rfl 25 _ rfl (w.heap.size + 1 + 1) 256 f 25 hd rfl 5 Try.underlying25 (zero_row info25).2 ?_)
        | (refine wpList_store_blk rfl 25 _ _ rfl (w.heap.size + 1) 256 (fun _ => 0#8) f 25 hr rfl rfl (zero_row info25).2 ?_))
      refine bodyPost_ret (v := .agg (row 256 f)) ?_ rfl ⟨by rw [row_congr fun j hj => hf j (by omega)], below_setRow hS.below (by omega) _⟩
      exact results_cell_row rfl _ _ (w.heap.size + 1) 25 (row 256 f) (0, 0) _ rfl (hr.setRow _) Try.underlying25 rfl (by rw [row_size]; exact (zero_row info25).2)

/-! ### Cut and Lay -/
/-- Three blocks of the call's own. -/
structure St3 (w wr : World) (n0 : Nat) (f0 : Nat → BitVec 8) (t0 : TypeId) (n1 : Nat) (f1 : Nat → BitVec 8) (t1 : TypeId) (n2 : Nat) (f2 : Nat → BitVec 8) (t2 : TypeId) : Prop where
  below : Below w.heap.size w wr
  b0 : Blk wr w.heap.size (row n0 f0) t0
  b1 : Blk wr (w.heap.size + 1) (row n1 f1) t1
  b2 : Blk wr (w.heap.size + 2) (row n2 f2) t2
section
variable {w wr : World} {n0 : Nat} {f0 : Nat → BitVec 8} {t0 : TypeId} {n1 : Nat} {f1 : Nat → BitVec 8} {t1 : TypeId} {n2 : Nat} {f2 : Nat → BitVec 8} {t2 : TypeId}
theorem St3.start (w : World) (n0 : Nat) (f0 : Nat → BitVec 8) (t0 : TypeId) (n1 : Nat) (f1 : Nat → BitVec 8) (t1 : TypeId) (n2 : Nat) (f2 : Nat → BitVec 8) (t2 : TypeId) :
    St3 w (((w.alloc (.cells (row n0 f0) t0)).alloc (.cells (row n1 f1) t1)).alloc (.cells (row n2 f2) t2)) n0 f0 t0 n1 f1 t1 n2 f2 t2 where
  below := (((Below.refl _ _).alloc (Nat.le_refl _) _).alloc (by simp) _).alloc (by simp; omega) _
  b0 := ((Blk.alloc_new w _ _).alloc _).alloc _
  b1 := by
    have h := Blk.alloc_new (w.alloc (.cells (row n0 f0) t0)) (row n1 f1) t1
    rw [show (w.alloc (.cells (row n0 f0) t0)).heap.size = w.heap.size + 1 by simp] at h
    exact h.alloc _
  b2 := by
    have h := Blk.alloc_new ((w.alloc (.cells (row n0 f0) t0)).alloc (.cells (row n1 f1) t1)) (row n2 f2) t2
    rw [show ((w.alloc (.cells (row n0 f0) t0)).alloc (.cells (row n1 f1) t1)).heap.size = w.heap.size + 2 by simp] at h
    exact h
theorem St3.drew (h : St3 w wr n0 f0 t0 n1 f1 t1 n2 f2 t2) : St3 w wr.drew n0 f0 t0 n1 f1 t1 n2 f2 t2 := ⟨h.below.drew, h.b0, h.b1, h.b2⟩
theorem St3.set0 (h : St3 w wr n0 f0 t0 n1 f1 t1 n2 f2 t2) (g : Nat → BitVec 8) : St3 w (wr.setRow w.heap.size (row n0 g)) n0 g t0 n1 f1 t1 n2 f2 t2 :=
  ⟨below_setRow h.below (Nat.le_refl _) _, h.b0.setRow _, h.b1.setRow_other (by omega) _, h.b2.setRow_other (by omega) _⟩
theorem St3.set1 (h : St3 w wr n0 f0 t0 n1 f1 t1 n2 f2 t2) (g : Nat → BitVec 8) : St3 w (wr.setRow (w.heap.size + 1) (row n1 g)) n0 f0 t0 n1 g t1 n2 f2 t2 :=
  ⟨below_setRow h.below (by omega) _, h.b0.setRow_other (by omega) _, h.b1.setRow _, h.b2.setRow_other (by omega) _⟩
theorem St3.set2 (h : St3 w wr n0 f0 t0 n1 f1 t1 n2 f2 t2) (g : Nat → BitVec 8) : St3 w (wr.setRow (w.heap.size + 1 + 1) (row n2 g)) n0 f0 t0 n1 f1 t1 n2 g t2 :=
  ⟨below_setRow h.below (by omega) _, h.b0.setRow_other (by omega) _, h.b1.setRow_other (by omega) _, h.b2.setRow _⟩
end
def cutF (f : Nat → BitVec 8) (i : Int) : Nat → BitVec 8 := fun k => if 0 ≤ i ∧ i < 4 then f (64 * i.toNat + k) else 0#8
def layF (f : Nat → BitVec 8) (i : Int) (s : Nat → BitVec 8) : Nat → BitVec 8 := fun j => if 0 ≤ i ∧ i < 4 then lay f (64 * i.toNat) 64 s 0 j else f j

set_option maxRecDepth 100000 in
set_option maxHeartbeats 1000000 in
theorem cut_any (f : Nat → BitVec 8) (i : Int) (w : World) :
    Calls Try.prog 10 #[.agg (row 256 f), .int .i64 i] w fun e w' => e = .returned (.agg (row 64 (cutF f i))) ∧ Below w.heap.size w w' := by
  have hz31 := (zero_row info31).1
  by_cases h0 : 0 ≤ i ∧ i < 4
  · obtain ⟨h0, h4⟩ := h0
    have hcf : ∀ j, j < 64 → lay (fun _ => 0#8) 0 64 f (64 * i.toNat) j = cutF f i j := fun j hj => by
      unfold lay cutF; rw [if_pos (by omega), if_pos ⟨h0, h4⟩]; rfl
    have HCF := hid hcf; clear hcf
    have s1 := fun w' => run_slice_all (P := Try.prog) Try.underlying31 size5 (b := w.heap.size + 1 + 1) w'
    have s2 := fun w' => run_slice_l (P := Try.prog) Try.underlying26 size5 (b := w.heap.size) (lo := 64 * i.toNat) (kl := .i64) (L := i * 64) (by omega) (by omega) w'
    have i1 : IntKind.i64.wrap (i * 64) = i * 64 := IntWalk.i64_in _ (by omega)
    have hS := St3.start w 256 f 26 64 (fun _ => 0#8) 31 64 (fun _ => 0#8) 31
    have HS := hid hS; clear hS
    go_enter Try.func10, Try.ntmps10
    go_wp2_with fail
    clear hz31
    go_still_tail 4, (by kernel_rfl)
    clear s1 s2
    generalize hwr : ((w.alloc (.cells (row 256 f) 26)).alloc (.cells (row 64 fun _ => 0#8) 31)).alloc (.cells (row 64 fun _ => 0#8) 31) = wr at *
    clear hwr
    change wpList _ _ _ _ _ wr.drew
    have hS := HS.out.drew
    clear HS
    refine wpList_copy_row rfl _ _ 43 43 rfl 5 Try.underlying43 size5 (w.heap.size + 1 + 1) 0 64 64 w.heap.size (64 * i.toNat) (256 - 64 * i.toNat) (256 - 64 * i.toNat) rfl rfl 64 256 (fun _ => 0#8) f 31 26 hS.b2 hS.b0 64
      (by show 64 = min (256 - 64 * i.toNat) 64; omega) (by omega) (by omega) ?_
    have hS2 := hS.set2 (lay (fun _ => 0#8) 0 64 f (64 * i.toNat))
    clear hS
    generalize wr.drew.setRow (w.heap.size + 1 + 1) (row 64 (lay (fun _ => 0#8) 0 64 f (64 * i.toNat))) = w2 at *
    have hd := hS2.b2
    have hr := hS2.b1
    rw [row_congr HCF.out] at hd
    go_wp2_with (first
      | (refine wpList_load_blk rfl 31 _ rfl (w.heap.size + 1 + 1) 64 (cutF f i) 31 hd rfl 5 Try.underlying31 (zero_row info31).2 ?_)
      | (refine wpList_store_blk rfl 31 _ _ rfl (w.heap.size + 1) 64 (fun _ => 0#8) (cutF f i) 31 hr rfl rfl (zero_row info31).2 ?_))
    refine bodyPost_ret (v := .agg (row 64 (cutF f i))) ?_ rfl ⟨rfl, below_setRow hS2.below (by omega) _⟩
    exact results_cell_row rfl _ _ (w.heap.size + 1) 31 (row 64 (cutF f i)) (0, 0) _ rfl (hr.setRow _) Try.underlying31 rfl (by rw [row_size]; exact (zero_row info31).2)
  · have hcf : ∀ j, j < 64 → (fun _ => 0#8 : Nat → BitVec 8) j = cutF f i j := fun j hj => by unfold cutF; rw [if_neg h0]
    have HCF := hid hcf; clear hcf
    have hS := St3.start w 256 f 26 64 (fun _ => 0#8) 31 64 (fun _ => 0#8) 31
    have HS := hid hS; clear hS
    have fin : ∀ wr, St3 w wr 256 f 26 64 (fun _ => 0#8) 31 64 (fun _ => 0#8) 31 → Below w.heap.size w (wr.setRow (w.heap.size + 1) (row 64 fun _ => 0#8)) ∧ Blk (wr.setRow (w.heap.size + 1) (row 64 fun _ => 0#8)) (w.heap.size + 1) (row 64 fun _ => 0#8) 31 :=
      fun wr h => ⟨below_setRow h.below (by omega) _, h.b1.setRow _⟩
    have Fin := hid fin; clear fin
    by_cases h1 : 0 ≤ i
    · have h2 : ¬ i < 4 := fun h => h0 ⟨h1, h⟩
      clear h0
      go_enter Try.func10, Try.ntmps10
      go_wp2_with (first
        | (refine wpList_load_blk rfl 31 _ rfl (w.heap.size + 1 + 1) 64 (fun _ => 0#8) 31 HS.out.b2 rfl 5 Try.underlying31 (zero_row info31).2 ?_)
        | (refine wpList_store_blk rfl 31 _ _ rfl (w.heap.size + 1) 64 (fun _ => 0#8) (fun _ => 0#8) 31 HS.out.b1 rfl rfl (zero_row info31).2 ?_))
      refine bodyPost_ret (v := .agg (row 64 fun _ => 0#8)) ?_ rfl ⟨by rw [row_congr HCF.out], (Fin.out _ HS.out).1⟩
      exact results_cell_row rfl _ _ (w.heap.size + 1) 31 (row 64 fun _ => 0#8) (0, 0) _ rfl (Fin.out _ HS.out).2 Try.underlying31 rfl (by rw [row_size]; exact (zero_row info31).2)
    · clear h0
      go_enter Try.func10, Try.ntmps10
      go_wp2_with (first
        | (refine wpList_load_blk rfl 31 _ rfl (w.heap.size + 1 + 1) 64 (fun _ => 0#8) 31 HS.out.b2 rfl 5 Try.underlying31 (zero_row info31).2 ?_)
        | (refine wpList_store_blk rfl 31 _ _ rfl (w.heap.size + 1) 64 (fun _ => 0#8) (fun _ => 0#8) 31 HS.out.b1 rfl rfl (zero_row info31).2 ?_))
      refine bodyPost_ret (v := .agg (row 64 fun _ => 0#8)) ?_ rfl ⟨by rw [row_congr HCF.out], (Fin.out _ HS.out).1⟩
      exact results_cell_row rfl _ _ (w.heap.size + 1) 31 (row 64 fun _ => 0#8) (0, 0) _ rfl (Fin.out _ HS.out).2 Try.underlying31 rfl (by rw [row_size]; exact (zero_row info31).2)

set_option maxRecDepth 100000 in
set_option maxHeartbeats 1000000 in
theorem refcut_any (f : Nat → BitVec 8) (i : Int) (w : World) :
    Calls Try.prog 11 #[.agg (row 256 f), .int .i64 i] w fun e w' => e = .returned (.agg (row 64 (cutF f i))) ∧ Below w.heap.size w w' := by
  have hz30 := (zero_row info30).1
  by_cases h0 : 0 ≤ i ∧ i < 4
  · obtain ⟨h0, h4⟩ := h0
    have hS := St3.start w 256 f 25 64 (fun _ => 0#8) 30 64 (fun _ => 0#8) 30
    have HS := hid hS; clear hS
    obtain ⟨m, rfl⟩ := Int.eq_ofNat_of_zero_le h0
    have hm : m < 4 := by omega
    have hcf : cutF f (m : Int) = fun k => f (64 * m + k) := by funext k; unfold cutF; rw [if_pos ⟨h0, h4⟩]; rfl
    rw [hcf]; clear hcf
    go_enter Try.func11, Try.ntmps11
    go_wp2_with fail
    clear hz30
    go_loopw [6] (fun v wr => ∃ (k : Nat) (g : Nat → BitVec 8), k ≤ 64 ∧ v = .int .i64 k ∧ St3 w wr 256 f 25 64 (fun _ => 0#8) 30 64 g 30 ∧ ∀ j, j < k → g j = f (64 * m + j)) (fun v _ => 64 - (intOf v).toNat)
    case atStart => exact ⟨0, _, Nat.zero_le _, rfl, HS.out, fun j hj => by omega⟩
    case round =>
      obtain ⟨k, g, hk, rfl, hS, hg⟩ := hrel
      by_cases hlt : k < 64
      · have hc := hS.b2.byte (j := k) hlt
        have hz := hS.b2.free k
        have hs := hS.b0.byte (j := 64 * m + k) (by omega)
        have i1 : (64 * (m : Int) + (k : Int)).toNat = 64 * m + k := by omega
        have i3 : 64 * (m : Int) + (k : Int) < 256 := by omega
        go_wp2_with fail
        go_roundw
        case rel =>
          refine ⟨k + 1, upd g k (f (64 * m + k)), by omega, by go_num, ?_, fun j hj => ?_⟩
          · rw [hS.b2.setCell, show (Value.int .u8 (B (f (64 * m + k)))) = bv (f (64 * m + k)) from rfl, row_set]
            exact hS.set2 _
          · unfold upd
            by_cases e : j = k
            · rw [if_pos e, e]
            · rw [if_neg e]; exact hg j (by omega)
        case measure => simp [intOf]; omega
      · obtain rfl : k = 64 := by omega
        have hd := hS.b2
        have hr := hS.b1
        rw [row_congr hg] at hd
        go_wp2_with (first
          | (refine wpList_load_blk rfl 30 _ rfl (w.heap.size + 1 + 1) 64 (fun j => f (64 * m + j)) 30 hd rfl 5 Try.underlying30 (zero_row info30).2 ?_)
          | (refine wpList_store_blk rfl 30 _ _ rfl (w.heap.size + 1) 64 (fun _ => 0#8) (fun j => f (64 * m + j)) 30 hr rfl rfl (zero_row info30).2 ?_))
        refine bodyPost_ret (v := .agg (row 64 fun j => f (64 * m + j))) ?_ rfl ⟨rfl, below_setRow hS.below (by omega) _⟩
        exact results_cell_row rfl _ _ (w.heap.size + 1) 30 (row 64 fun j => f (64 * m + j)) (0, 0) _ rfl (hr.setRow _) Try.underlying30 rfl (by rw [row_size]; exact (zero_row info30).2)
  · have hcf : ∀ j, j < 64 → (fun _ => 0#8 : Nat → BitVec 8) j = cutF f i j := fun j hj => by unfold cutF; rw [if_neg h0]
    have HCF := hid hcf; clear hcf
    have hS := St3.start w 256 f 25 64 (fun _ => 0#8) 30 64 (fun _ => 0#8) 30
    have HS := hid hS; clear hS
    have fin : ∀ wr, St3 w wr 256 f 25 64 (fun _ => 0#8) 30 64 (fun _ => 0#8) 30 → Below w.heap.size w (wr.setRow (w.heap.size + 1) (row 64 fun _ => 0#8)) ∧ Blk (wr.setRow (w.heap.size + 1) (row 64 fun _ => 0#8)) (w.heap.size + 1) (row 64 fun _ => 0#8) 30 :=
      fun wr h => ⟨below_setRow h.below (by omega) _, h.b1.setRow _⟩
    have Fin := hid fin; clear fin
    by_cases h1 : i < 0
    · clear h0
      go_enter Try.func11, Try.ntmps11
      go_wp2_with (first
        | (refine wpList_load_blk rfl 30 _ rfl (w.heap.size + 1 + 1) 64 (fun _ => 0#8) 30 HS.out.b2 rfl 5 Try.underlying30 (zero_row info30).2 ?_)
        | (refine wpList_store_blk rfl 30 _ _ rfl (w.heap.size + 1) 64 (fun _ => 0#8) (fun _ => 0#8) 30 HS.out.b1 rfl rfl (zero_row info30).2 ?_))
      refine bodyPost_ret (v := .agg (row 64 fun _ => 0#8)) ?_ rfl ⟨by rw [row_congr HCF.out], (Fin.out _ HS.out).1⟩
      exact results_cell_row rfl _ _ (w.heap.size + 1) 30 (row 64 fun _ => 0#8) (0, 0) _ rfl (Fin.out _ HS.out).2 Try.underlying30 rfl (by rw [row_size]; exact (zero_row info30).2)
    · have h2 : 3 < i := by omega
      clear h0
      go_enter Try.func11, Try.ntmps11
      go_wp2_with (first
        | (refine wpList_load_blk rfl 30 _ rfl (w.heap.size + 1 + 1) 64 (fun _ => 0#8) 30 HS.out.b2 rfl 5 Try.underlying30 (zero_row info30).2 ?_)
        | (refine wpList_store_blk rfl 30 _ _ rfl (w.heap.size + 1) 64 (fun _ => 0#8) (fun _ => 0#8) 30 HS.out.b1 rfl rfl (zero_row info30).2 ?_))
      refine bodyPost_ret (v := .agg (row 64 fun _ => 0#8)) ?_ rfl ⟨by rw [row_congr HCF.out], (Fin.out _ HS.out).1⟩
      exact results_cell_row rfl _ _ (w.heap.size + 1) 30 (row 64 fun _ => 0#8) (0, 0) _ rfl (Fin.out _ HS.out).2 Try.underlying30 rfl (by rw [row_size]; exact (zero_row info30).2)

set_option maxRecDepth 100000 in
set_option maxHeartbeats 1000000 in
theorem lay_any (f : Nat → BitVec 8) (i : Int) (s : Nat → BitVec 8) (w : World) :
    Calls Try.prog 12 #[.agg (row 256 f), .int .i64 i, .agg (row 64 s)] w fun e w' => e = .returned (.agg (row 256 (layF f i s))) ∧ Below w.heap.size w w' := by
  have hz26 := (zero_row info26).1
  have hS := St3.start w 256 f 26 64 s 31 256 (fun _ => 0#8) 26
  have HS := hid hS; clear hS
  by_cases h0 : 0 ≤ i ∧ i < 4
  · obtain ⟨h0, h4⟩ := h0
    have hcf : layF f i s = lay f (64 * i.toNat) 64 s 0 := by funext k; unfold layF; rw [if_pos ⟨h0, h4⟩]
    rw [hcf]; clear hcf
    have s1 := fun w' => run_slice_all (P := Try.prog) Try.underlying31 size5 (b := w.heap.size + 1) w'
    have s2 := fun w' => run_slice_l (P := Try.prog) Try.underlying26 size5 (b := w.heap.size) (lo := 64 * i.toNat) (kl := .i64) (L := i * 64) (by omega) (by omega) w'
    have i1 : IntKind.i64.wrap (i * 64) = i * 64 := IntWalk.i64_in _ (by omega)
    go_enter Try.func12, Try.ntmps12
    go_wp2_with fail
    clear hz26
    go_still_tail 4, (by kernel_rfl)
    clear s1 s2
    generalize hwr : ((w.alloc (.cells (row 256 f) 26)).alloc (.cells (row 64 s) 31)).alloc (.cells (row 256 fun _ => 0#8) 26) = wr at *
    clear hwr
    change wpList _ _ _ _ _ wr.drew
    have hS := HS.out.drew
    clear HS
    refine wpList_copy_row rfl _ _ 43 43 rfl 5 Try.underlying43 size5 w.heap.size (64 * i.toNat) (256 - 64 * i.toNat) (256 - 64 * i.toNat) (w.heap.size + 1) 0 64 64 rfl rfl 256 64 f s 26 31 hS.b0 hS.b1 64
      (by show 64 = min 64 (256 - 64 * i.toNat); omega) (by omega) (by omega) ?_
    have hS2 := hS.set0 (lay f (64 * i.toNat) 64 s 0)
    clear hS
    generalize wr.drew.setRow w.heap.size (row 256 (lay f (64 * i.toNat) 64 s 0)) = w2 at *
    generalize hgg : lay f (64 * i.toNat) 64 s 0 = g at *
    have Hg := hid hgg; clear hgg
    have hd := hS2.b0
    have hr := hS2.b2
    go_wp2_with (first
      | (refine wpList_load_blk rfl 26 _ rfl w.heap.size 256 g 26 hd rfl 5 Try.underlying26 (zero_row info26).2 ?_)
      | (refine wpList_store_blk rfl 26 _ _ rfl (w.heap.size + 1 + 1) 256 (fun _ => 0#8) g 26 hr rfl rfl (zero_row info26).2 ?_))
    refine bodyPost_ret (v := .agg (row 256 g)) ?_ rfl ⟨by rw [Hg.out], below_setRow hS2.below (by omega) _⟩
    exact results_cell_row rfl _ _ (w.heap.size + 1 + 1) 26 (row 256 g) (0, 0) _ rfl (hr.setRow _) Try.underlying26 rfl (by rw [row_size]; exact (zero_row info26).2)
  · have hcf : layF f i s = f := by funext k; unfold layF; rw [if_neg h0]
    rw [hcf]; clear hcf
    have fin : ∀ wr, St3 w wr 256 f 26 64 s 31 256 (fun _ => 0#8) 26 → Below w.heap.size w (wr.setRow (w.heap.size + 1 + 1) (row 256 f)) ∧ Blk (wr.setRow (w.heap.size + 1 + 1) (row 256 f)) (w.heap.size + 1 + 1) (row 256 f) 26 :=
      fun wr h => ⟨below_setRow h.below (by omega) _, h.b2.setRow _⟩
    have Fin := hid fin; clear fin
    by_cases h1 : 0 ≤ i
    · have h2 : ¬ i < 4 := fun h => h0 ⟨h1, h⟩
      clear h0
      go_enter Try.func12, Try.ntmps12
      go_wp2_with (first
        | (refine wpList_load_blk rfl 26 _ rfl w.heap.size 256 f 26 HS.out.b0 rfl 5 Try.underlying26 (zero_row info26).2 ?_)
        | (refine wpList_store_blk rfl 26 _ _ rfl (w.heap.size + 1 + 1) 256 (fun _ => 0#8) f 26 HS.out.b2 rfl rfl (zero_row info26).2 ?_))
      refine bodyPost_ret (v := .agg (row 256 f)) ?_ rfl ⟨rfl, (Fin.out _ HS.out).1⟩
      exact results_cell_row rfl _ _ (w.heap.size + 1 + 1) 26 (row 256 f) (0, 0) _ rfl (Fin.out _ HS.out).2 Try.underlying26 rfl (by rw [row_size]; exact (zero_row info26).2)
    · clear h0
      go_enter Try.func12, Try.ntmps12
      go_wp2_with (first
        | (refine wpList_load_blk rfl 26 _ rfl w.heap.size 256 f 26 HS.out.b0 rfl 5 Try.underlying26 (zero_row info26).2 ?_)
        | (refine wpList_store_blk rfl 26 _ _ rfl (w.heap.size + 1 + 1) 256 (fun _ => 0#8) f 26 HS.out.b2 rfl rfl (zero_row info26).2 ?_))
      refine bodyPost_ret (v := .agg (row 256 f)) ?_ rfl ⟨rfl, (Fin.out _ HS.out).1⟩
      exact results_cell_row rfl _ _ (w.heap.size + 1 + 1) 26 (row 256 f) (0, 0) _ rfl (Fin.out _ HS.out).2 Try.underlying26 rfl (by rw [row_size]; exact (zero_row info26).2)
end Go.Proofs.Ytkalbhddjpnnmaa
