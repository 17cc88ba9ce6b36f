/- The walk of SealTorn. -/
import Derived.Test.YtkalbhddjpnnmaaTornP
import Derived.Deep.DeepCutAuto
namespace Go.Proofs.Ytkalbhddjpnnmaa
open Go.RowKit
set_option linter.unusedSimpArgs false
set_option linter.unusedVariables false
theorem size_alloc1 (w : World) (o : Obj) : (w.alloc o).heap.size = w.heap.size + 1 := by simp
structure RA (w W : World) (p q : Nat → BitVec 8) : Prop where
  below : Below w.heap.size w W
  p : Blk W w.heap.size (row 224 p) 24
  q : Blk W (w.heap.size + 1) (row 224 q) 24
  size : w.heap.size + 2 ≤ W.heap.size
/-- The region's state: which of the two variables there are. -/
structure RB (w W : World) (p q : Nat → BitVec 8) (oc od : Option Nat) : Prop where
  ra : RA w W p q
  c : ∀ c, oc = some c → Blk W c (row 256 fun _ => 0#8) 26 ∧ w.heap.size + 2 ≤ c
  d : ∀ d, od = some d → Blk W d (row 256 fun _ => 0#8) 26 ∧ w.heap.size + 2 ≤ d
  ne : ∀ c d, oc = some c → od = some d → c ≠ d
theorem RA.go {w W W' : World} {p q : Nat → BitVec 8} (h : RA w W p q) (k : Below W.heap.size W W') : RA w W' p q :=
  ⟨h.below.trans (k.mono h.below.size), h.p.below k, h.q.below k, Nat.le_trans h.size k.size⟩
theorem RB.go {w W W' : World} {p q : Nat → BitVec 8} {oc od : Option Nat} (h : RB w W p q oc od) (k : Below W.heap.size W W') : RB w W' p q oc od :=
  ⟨h.ra.go k, fun c hc => ⟨(h.c c hc).1.below k, (h.c c hc).2⟩, fun d hd => ⟨(h.d d hd).1.below k, (h.d d hd).2⟩, h.ne⟩
theorem RB.allocC {w W : World} {p q : Nat → BitVec 8} {od : Option Nat} (h : RB w W p q none od) : RB w (W.alloc (.cells (row 256 fun _ => 0#8) 26)) p q (some W.heap.size) od := by
  have k : Below W.heap.size W (W.alloc (.cells (row 256 fun _ => 0#8) 26)) := (Below.refl _ _).alloc (Nat.le_refl _) _
  have h' := h.go k
  refine ⟨h'.ra, fun c hc => ?_, h'.d, fun c d hc hd => ?_⟩
  · obtain rfl := Option.some.inj hc
    exact ⟨Blk.alloc_new _ _ _, h.ra.size⟩
  · obtain rfl := Option.some.inj hc
    have := (h.d d hd).1.lt; omega
theorem RB.allocD {w W : World} {p q : Nat → BitVec 8} {oc : Option Nat} (h : RB w W p q oc none) : RB w (W.alloc (.cells (row 256 fun _ => 0#8) 26)) p q oc (some W.heap.size) := by
  have k : Below W.heap.size W (W.alloc (.cells (row 256 fun _ => 0#8) 26)) := (Below.refl _ _).alloc (Nat.le_refl _) _
  have h' := h.go k
  refine ⟨h'.ra, h'.c, fun c hc => ?_, fun c d hc hd => ?_⟩
  · obtain rfl := Option.some.inj hc
    exact ⟨Blk.alloc_new _ _ _, h.ra.size⟩
  · obtain rfl := Option.some.inj hd
    have := (h.c c hc).1.lt; omega
/-- Behind the region: both blocks sealed. -/
structure RC (w W : World) (p q : Nat → BitVec 8) (c d : Nat) (f g : Nat → BitVec 8) : Prop where
  ra : RA w W p q
  bc : Blk W c (row 256 f) 26
  bd : Blk W d (row 256 g) 26
  hc : w.heap.size + 2 ≤ c
  hd : w.heap.size + 2 ≤ d
theorem RB.stored {w W : World} {p q : Nat → BitVec 8} {c d : Nat} (h : RB w W p q (some c) (some d)) (f g : Nat → BitVec 8) : RA w (W.setRow c (row 256 f)) p q ∧ Blk (W.setRow c (row 256 f)) d (row 256 fun _ => 0#8) 26 ∧ RC w ((W.setRow c (row 256 f)).setRow d (row 256 g)) p q c d f g := by
  obtain ⟨hc, hc2⟩ := h.c c rfl
  obtain ⟨hd, hd2⟩ := h.d d rfl
  have hne := h.ne c d rfl rfl
  have r1 : RA w (W.setRow c (row 256 f)) p q := ⟨below_setRow h.ra.below (by omega) _, h.ra.p.setRow_other (by omega) _, h.ra.q.setRow_other (by omega) _, by simpa using h.ra.size⟩
  refine ⟨r1, hd.setRow_other (Ne.symm hne) _, ⟨below_setRow r1.below (by omega) _, r1.p.setRow_other (by omega) _, r1.q.setRow_other (by omega) _, by simpa using r1.size⟩, (hc.setRow _).setRow_other hne _, (hd.setRow_other (Ne.symm hne) _).setRow _, hc2, hd2⟩
theorem RC.go {w W W' : World} {p q : Nat → BitVec 8} {c d : Nat} {f g : Nat → BitVec 8} (h : RC w W p q c d f g) (k : Below W.heap.size W W') : RC w W' p q c d f g := ⟨h.ra.go k, h.bc.below k, h.bd.below k, h.hc, h.hd⟩
theorem RC.set {w W : World} {p q : Nat → BitVec 8} {c d : Nat} {f g : Nat → BitVec 8} (h : RC w W p q c d f g) (m : Nat) (h1 : c ≠ m) (h2 : d ≠ m) (h3 : w.heap.size + 2 ≤ m) (cs : Array Value) : RC w (W.setRow m cs) p q c d f g :=
  ⟨⟨below_setRow h.ra.below (by omega) _, h.ra.p.setRow_other (by omega) _, h.ra.q.setRow_other (by omega) _, by simpa using h.ra.size⟩, h.bc.setRow_other h1 _, h.bd.setRow_other h2 _, h.hc, h.hd⟩
set_option maxRecDepth 100000 in
set_option maxHeartbeats 4000000 in
theorem torn_walk (x y : BitVec 64) (p q : Nat → BitVec 8) (kp : BitVec 8) (w : World) :
    Calls Try.prog 7 #[.int .u64 (X x), .int .u64 (X y), .agg (row 224 p), .agg (row 224 q), .int .u8 (B kp)] w fun e w' => e = .returned (.bool true) ∧ Below w.heap.size w w' := by
  have hz26 := (zero_row info26).1
  have hz24 := (zero_row info24).1
  have hF0 : RB w ((w.alloc (.cells (row 224 p) 24)).alloc (.cells (row 224 q) 24)) p q none none := ⟨⟨((Below.refl _ _).alloc (Nat.le_refl _) _).alloc (by simp) _, (Blk.alloc_new _ _ _).alloc _, by
    have h := Blk.alloc_new (w.alloc (.cells (row 224 p) 24)) (row 224 q) 24
    rwa [show (w.alloc (.cells (row 224 p) 24)).heap.size = w.heap.size + 1 by simp] at h, by simp⟩, (fun c hc => by cases hc), (fun c hc => by cases hc), (fun c d hc => by cases hc)⟩
  have HF := hid hF0
  clear hF0
  go_enter Try.func7, Try.ntmps7
  go_upto_region 1 with (fail)
  go_cut [11, 12] (fun s11 s12 wx => ∃ c d, s11 = .pointer (some ⟨c, 0, none⟩) ∧ s12 = .pointer (some ⟨d, 0, none⟩) ∧ RC w wx p q c d (sealF x p) (sealF y q))
  case first =>
    refine wp_region_held (S := (fun w' => RA w w' p q)) (by kernel_rfl) ?_
    change wpAnyH _ _ _ _ _ _ _ _ (World.drew _)
    have hF : RB w ((w.alloc (.cells (row 224 p) 24)).alloc (.cells (row 224 q) 24)).drew p q none none := ⟨⟨HF.out.ra.below.drew, HF.out.ra.p, HF.out.ra.q, HF.out.ra.size⟩, (fun c hc => by cases hc), (fun c hc => by cases hc), (fun c d hc => by cases hc)⟩
    clear HF
    generalize ((w.alloc (.cells (row 224 p) 24)).alloc (.cells (row 224 q) 24)).drew = W1 at *
    (try simp only [Act.put])
    have hS := hF.ra
    refine anyH_pure 0 _ ?_ rfl (by kernel_rfl) (by kernel_rfl) (by kernel_rfl) (fun _ _ _ h => h) rfl ?_ hS ?_
    rotate_left
    · (intro w'; go_simp; (try with_reducible rfl))
    (try simp only [Act.put, List.getElem_toArray, List.getElem_cons_zero, List.setIfInBounds_toArray, List.set_cons_zero, List.set_cons_succ])
    refine anyH_load_blk 1 _ 24 _ w.heap.size 224 p 24 5 hS (fun w' h => h.p) Try.underlying24 (zero_row info24).2 rfl rfl rfl (by kernel_rfl) (by kernel_rfl) (by kernel_rfl) (fun _ _ _ h => h) rfl ?_
    (try simp only [Act.put, List.getElem_toArray, List.getElem_cons_zero, List.getElem_cons_succ, List.setIfInBounds_toArray, List.set_cons_zero, List.set_cons_succ])
    refine anyH_pure 3 _ ?_ rfl (by kernel_rfl) (by kernel_rfl) (by kernel_rfl) (fun _ _ _ h => h) rfl ?_ hS ?_
    rotate_left
    · (intro w'; go_simp; (try with_reducible rfl))
    (try simp only [Act.put, List.getElem_toArray, List.getElem_cons_zero, List.getElem_cons_succ, List.setIfInBounds_toArray, List.set_cons_zero, List.set_cons_succ])
    refine anyH_load_blk 4 _ 24 _ (w.heap.size+1) 224 q 24 5 hS (fun w' h => h.q) Try.underlying24 (zero_row info24).2 rfl rfl rfl (by kernel_rfl) (by kernel_rfl) (by kernel_rfl) (fun _ _ _ h => h) rfl ?_
    (try simp only [Act.put, List.getElem_toArray, List.getElem_cons_zero, List.getElem_cons_succ, List.setIfInBounds_toArray, List.set_cons_zero, List.set_cons_succ])
    clear hS
    refine anyH_all3 2 6 7 (by kernel_rfl) ?_ ?_ ?_
    · skip
      refine wpOp_call 2 _ _ _ _ rfl rfl (by go_simp) _ (seal_any x p _) ?_
      rintro W2 hb
      replace hF := hF.go hb
      refine ⟨hF.ra, ?_⟩
      (try simp only [Act.put, List.getElem_toArray, List.getElem_cons_zero, List.getElem_cons_succ, List.setIfInBounds_toArray, List.set_cons_zero, List.set_cons_succ])
      refine anyH_all3 5 6 7 (by kernel_rfl) ?_ ?_ ?_
      · skip
        refine wpOp_call 5 _ _ _ _ rfl rfl (by go_simp) _ (seal_any y q _) ?_
        rintro W2 hb
        replace hF := hF.go hb
        refine ⟨hF.ra, ?_⟩
        (try simp only [Act.put, List.getElem_toArray, List.getElem_cons_zero, List.getElem_cons_succ, List.setIfInBounds_toArray, List.set_cons_zero, List.set_cons_succ])
        refine anyH_all2 6 7 (by kernel_rfl) ?_ ?_
        · skip
          refine wpOp_alloc 6 _ 26 _ rfl rfl rfl hz26 ?_
          replace hF := hF.allocC
          refine ⟨hF.ra, ?_⟩
          (try simp only [Act.put, List.getElem_toArray, List.getElem_cons_zero, List.getElem_cons_succ, List.setIfInBounds_toArray, List.set_cons_zero, List.set_cons_succ])
          refine anyH_all1 7 (by kernel_rfl) ?_
          refine wpOp_alloc 7 _ 26 _ rfl rfl rfl hz26 ?_
          replace hF := hF.allocD
          refine ⟨hF.ra, ?_⟩
          (try simp only [Act.put, List.getElem_toArray, List.getElem_cons_zero, List.getElem_cons_succ, List.setIfInBounds_toArray, List.set_cons_zero, List.set_cons_succ])
          obtain ⟨r1, r2, r3⟩ := hF.stored (sealF x p) (sealF y q)
          refine anyH_store_blk 8 _ 26 _ _ _ 256 (fun _ => 0#8) (sealF x p) 26 (hF.c _ rfl).1 (zero_row info26).2 (by kernel_rfl) rfl rfl rfl rfl rfl r1 ?_
          refine anyH_store_blk 9 _ 26 _ _ _ 256 (fun _ => 0#8) (sealF y q) 26 r2 (zero_row info26).2 (by kernel_rfl) rfl rfl rfl rfl rfl r3.ra ?_
          refine wpAnyH_done (by kernel_rfl) ?_ _
          go_wp2_with fail
          go_meet
          exact ⟨_, _, rfl, rfl, by first | exact r3 | (have r4 := r3; simp only [size_alloc1] at r4; exact r4)⟩
        · skip
          refine wpOp_alloc 7 _ 26 _ rfl rfl rfl hz26 ?_
          replace hF := hF.allocD
          refine ⟨hF.ra, ?_⟩
          (try simp only [Act.put, List.getElem_toArray, List.getElem_cons_zero, List.getElem_cons_succ, List.setIfInBounds_toArray, List.set_cons_zero, List.set_cons_succ])
          refine anyH_all1 6 (by kernel_rfl) ?_
          refine wpOp_alloc 6 _ 26 _ rfl rfl rfl hz26 ?_
          replace hF := hF.allocC
          refine ⟨hF.ra, ?_⟩
          (try simp only [Act.put, List.getElem_toArray, List.getElem_cons_zero, List.getElem_cons_succ, List.setIfInBounds_toArray, List.set_cons_zero, List.set_cons_succ])
          obtain ⟨r1, r2, r3⟩ := hF.stored (sealF x p) (sealF y q)
          refine anyH_store_blk 8 _ 26 _ _ _ 256 (fun _ => 0#8) (sealF x p) 26 (hF.c _ rfl).1 (zero_row info26).2 (by kernel_rfl) rfl rfl rfl rfl rfl r1 ?_
          refine anyH_store_blk 9 _ 26 _ _ _ 256 (fun _ => 0#8) (sealF y q) 26 r2 (zero_row info26).2 (by kernel_rfl) rfl rfl rfl rfl rfl r3.ra ?_
          refine wpAnyH_done (by kernel_rfl) ?_ _
          go_wp2_with fail
          go_meet
          exact ⟨_, _, rfl, rfl, by first | exact r3 | (have r4 := r3; simp only [size_alloc1] at r4; exact r4)⟩
      · skip
        refine wpOp_alloc 6 _ 26 _ rfl rfl rfl hz26 ?_
        replace hF := hF.allocC
        refine ⟨hF.ra, ?_⟩
        (try simp only [Act.put, List.getElem_toArray, List.getElem_cons_zero, List.getElem_cons_succ, List.setIfInBounds_toArray, List.set_cons_zero, List.set_cons_succ])
        refine anyH_all2 5 7 (by kernel_rfl) ?_ ?_
        · skip
          refine wpOp_call 5 _ _ _ _ rfl rfl (by go_simp) _ (seal_any y q _) ?_
          rintro W2 hb
          replace hF := hF.go hb
          refine ⟨hF.ra, ?_⟩
          (try simp only [Act.put, List.getElem_toArray, List.getElem_cons_zero, List.getElem_cons_succ, List.setIfInBounds_toArray, List.set_cons_zero, List.set_cons_succ])
          refine anyH_all1 7 (by kernel_rfl) ?_
          refine wpOp_alloc 7 _ 26 _ rfl rfl rfl hz26 ?_
          replace hF := hF.allocD
          refine ⟨hF.ra, ?_⟩
          (try simp only [Act.put, List.getElem_toArray, List.getElem_cons_zero, List.getElem_cons_succ, List.setIfInBounds_toArray, List.set_cons_zero, List.set_cons_succ])
          obtain ⟨r1, r2, r3⟩ := hF.stored (sealF x p) (sealF y q)
          refine anyH_store_blk 8 _ 26 _ _ _ 256 (fun _ => 0#8) (sealF x p) 26 (hF.c _ rfl).1 (zero_row info26).2 (by kernel_rfl) rfl rfl rfl rfl rfl r1 ?_
          refine anyH_store_blk 9 _ 26 _ _ _ 256 (fun _ => 0#8) (sealF y q) 26 r2 (zero_row info26).2 (by kernel_rfl) rfl rfl rfl rfl rfl r3.ra ?_
          refine wpAnyH_done (by kernel_rfl) ?_ _
          go_wp2_with fail
          go_meet
          exact ⟨_, _, rfl, rfl, by first | exact r3 | (have r4 := r3; simp only [size_alloc1] at r4; exact r4)⟩
        · skip
          refine wpOp_alloc 7 _ 26 _ rfl rfl rfl hz26 ?_
          replace hF := hF.allocD
          refine ⟨hF.ra, ?_⟩
          (try simp only [Act.put, List.getElem_toArray, List.getElem_cons_zero, List.getElem_cons_succ, List.setIfInBounds_toArray, List.set_cons_zero, List.set_cons_succ])
          refine anyH_all1 5 (by kernel_rfl) ?_
          refine wpOp_call 5 _ _ _ _ rfl rfl (by go_simp) _ (seal_any y q _) ?_
          rintro W2 hb
          replace hF := hF.go hb
          refine ⟨hF.ra, ?_⟩
          (try simp only [Act.put, List.getElem_toArray, List.getElem_cons_zero, List.getElem_cons_succ, List.setIfInBounds_toArray, List.set_cons_zero, List.set_cons_succ])
          obtain ⟨r1, r2, r3⟩ := hF.stored (sealF x p) (sealF y q)
          refine anyH_store_blk 8 _ 26 _ _ _ 256 (fun _ => 0#8) (sealF x p) 26 (hF.c _ rfl).1 (zero_row info26).2 (by kernel_rfl) rfl rfl rfl rfl rfl r1 ?_
          refine anyH_store_blk 9 _ 26 _ _ _ 256 (fun _ => 0#8) (sealF y q) 26 r2 (zero_row info26).2 (by kernel_rfl) rfl rfl rfl rfl rfl r3.ra ?_
          refine wpAnyH_done (by kernel_rfl) ?_ _
          go_wp2_with fail
          go_meet
          exact ⟨_, _, rfl, rfl, by first | exact r3 | (have r4 := r3; simp only [size_alloc1] at r4; exact r4)⟩
      · skip
        refine wpOp_alloc 7 _ 26 _ rfl rfl rfl hz26 ?_
        replace hF := hF.allocD
        refine ⟨hF.ra, ?_⟩
        (try simp only [Act.put, List.getElem_toArray, List.getElem_cons_zero, List.getElem_cons_succ, List.setIfInBounds_toArray, List.set_cons_zero, List.set_cons_succ])
        refine anyH_all2 5 6 (by kernel_rfl) ?_ ?_
        · skip
          refine wpOp_call 5 _ _ _ _ rfl rfl (by go_simp) _ (seal_any y q _) ?_
          rintro W2 hb
          replace hF := hF.go hb
          refine ⟨hF.ra, ?_⟩
          (try simp only [Act.put, List.getElem_toArray, List.getElem_cons_zero, List.getElem_cons_succ, List.setIfInBounds_toArray, List.set_cons_zero, List.set_cons_succ])
          refine anyH_all1 6 (by kernel_rfl) ?_
          refine wpOp_alloc 6 _ 26 _ rfl rfl rfl hz26 ?_
          replace hF := hF.allocC
          refine ⟨hF.ra, ?_⟩
          (try simp only [Act.put, List.getElem_toArray, List.getElem_cons_zero, List.getElem_cons_succ, List.setIfInBounds_toArray, List.set_cons_zero, List.set_cons_succ])
          obtain ⟨r1, r2, r3⟩ := hF.stored (sealF x p) (sealF y q)
          refine anyH_store_blk 8 _ 26 _ _ _ 256 (fun _ => 0#8) (sealF x p) 26 (hF.c _ rfl).1 (zero_row info26).2 (by kernel_rfl) rfl rfl rfl rfl rfl r1 ?_
          refine anyH_store_blk 9 _ 26 _ _ _ 256 (fun _ => 0#8) (sealF y q) 26 r2 (zero_row info26).2 (by kernel_rfl) rfl rfl rfl rfl rfl r3.ra ?_
          refine wpAnyH_done (by kernel_rfl) ?_ _
          go_wp2_with fail
          go_meet
          exact ⟨_, _, rfl, rfl, by first | exact r3 | (have r4 := r3; simp only [size_alloc1] at r4; exact r4)⟩
        · skip
          refine wpOp_alloc 6 _ 26 _ rfl rfl rfl hz26 ?_
          replace hF := hF.allocC
          refine ⟨hF.ra, ?_⟩
          (try simp only [Act.put, List.getElem_toArray, List.getElem_cons_zero, List.getElem_cons_succ, List.setIfInBounds_toArray, List.set_cons_zero, List.set_cons_succ])
          refine anyH_all1 5 (by kernel_rfl) ?_
          refine wpOp_call 5 _ _ _ _ rfl rfl (by go_simp) _ (seal_any y q _) ?_
          rintro W2 hb
          replace hF := hF.go hb
          refine ⟨hF.ra, ?_⟩
          (try simp only [Act.put, List.getElem_toArray, List.getElem_cons_zero, List.getElem_cons_succ, List.setIfInBounds_toArray, List.set_cons_zero, List.set_cons_succ])
          obtain ⟨r1, r2, r3⟩ := hF.stored (sealF x p) (sealF y q)
          refine anyH_store_blk 8 _ 26 _ _ _ 256 (fun _ => 0#8) (sealF x p) 26 (hF.c _ rfl).1 (zero_row info26).2 (by kernel_rfl) rfl rfl rfl rfl rfl r1 ?_
          refine anyH_store_blk 9 _ 26 _ _ _ 256 (fun _ => 0#8) (sealF y q) 26 r2 (zero_row info26).2 (by kernel_rfl) rfl rfl rfl rfl rfl r3.ra ?_
          refine wpAnyH_done (by kernel_rfl) ?_ _
          go_wp2_with fail
          go_meet
          exact ⟨_, _, rfl, rfl, by first | exact r3 | (have r4 := r3; simp only [size_alloc1] at r4; exact r4)⟩
    · skip
      refine wpOp_alloc 6 _ 26 _ rfl rfl rfl hz26 ?_
      replace hF := hF.allocC
      refine ⟨hF.ra, ?_⟩
      (try simp only [Act.put, List.getElem_toArray, List.getElem_cons_zero, List.getElem_cons_succ, List.setIfInBounds_toArray, List.set_cons_zero, List.set_cons_succ])
      refine anyH_all2 2 7 (by kernel_rfl) ?_ ?_
      · skip
        refine wpOp_call 2 _ _ _ _ rfl rfl (by go_simp) _ (seal_any x p _) ?_
        rintro W2 hb
        replace hF := hF.go hb
        refine ⟨hF.ra, ?_⟩
        (try simp only [Act.put, List.getElem_toArray, List.getElem_cons_zero, List.getElem_cons_succ, List.setIfInBounds_toArray, List.set_cons_zero, List.set_cons_succ])
        refine anyH_all2 5 7 (by kernel_rfl) ?_ ?_
        · skip
          refine wpOp_call 5 _ _ _ _ rfl rfl (by go_simp) _ (seal_any y q _) ?_
          rintro W2 hb
          replace hF := hF.go hb
          refine ⟨hF.ra, ?_⟩
          (try simp only [Act.put, List.getElem_toArray, List.getElem_cons_zero, List.getElem_cons_succ, List.setIfInBounds_toArray, List.set_cons_zero, List.set_cons_succ])
          refine anyH_all1 7 (by kernel_rfl) ?_
          refine wpOp_alloc 7 _ 26 _ rfl rfl rfl hz26 ?_
          replace hF := hF.allocD
          refine ⟨hF.ra, ?_⟩
          (try simp only [Act.put, List.getElem_toArray, List.getElem_cons_zero, List.getElem_cons_succ, List.setIfInBounds_toArray, List.set_cons_zero, List.set_cons_succ])
          obtain ⟨r1, r2, r3⟩ := hF.stored (sealF x p) (sealF y q)
          refine anyH_store_blk 8 _ 26 _ _ _ 256 (fun _ => 0#8) (sealF x p) 26 (hF.c _ rfl).1 (zero_row info26).2 (by kernel_rfl) rfl rfl rfl rfl rfl r1 ?_
          refine anyH_store_blk 9 _ 26 _ _ _ 256 (fun _ => 0#8) (sealF y q) 26 r2 (zero_row info26).2 (by kernel_rfl) rfl rfl rfl rfl rfl r3.ra ?_
          refine wpAnyH_done (by kernel_rfl) ?_ _
          go_wp2_with fail
          go_meet
          exact ⟨_, _, rfl, rfl, by first | exact r3 | (have r4 := r3; simp only [size_alloc1] at r4; exact r4)⟩
        · skip
          refine wpOp_alloc 7 _ 26 _ rfl rfl rfl hz26 ?_
          replace hF := hF.allocD
          refine ⟨hF.ra, ?_⟩
          (try simp only [Act.put, List.getElem_toArray, List.getElem_cons_zero, List.getElem_cons_succ, List.setIfInBounds_toArray, List.set_cons_zero, List.set_cons_succ])
          refine anyH_all1 5 (by kernel_rfl) ?_
          refine wpOp_call 5 _ _ _ _ rfl rfl (by go_simp) _ (seal_any y q _) ?_
          rintro W2 hb
          replace hF := hF.go hb
          refine ⟨hF.ra, ?_⟩
          (try simp only [Act.put, List.getElem_toArray, List.getElem_cons_zero, List.getElem_cons_succ, List.setIfInBounds_toArray, List.set_cons_zero, List.set_cons_succ])
          obtain ⟨r1, r2, r3⟩ := hF.stored (sealF x p) (sealF y q)
          refine anyH_store_blk 8 _ 26 _ _ _ 256 (fun _ => 0#8) (sealF x p) 26 (hF.c _ rfl).1 (zero_row info26).2 (by kernel_rfl) rfl rfl rfl rfl rfl r1 ?_
          refine anyH_store_blk 9 _ 26 _ _ _ 256 (fun _ => 0#8) (sealF y q) 26 r2 (zero_row info26).2 (by kernel_rfl) rfl rfl rfl rfl rfl r3.ra ?_
          refine wpAnyH_done (by kernel_rfl) ?_ _
          go_wp2_with fail
          go_meet
          exact ⟨_, _, rfl, rfl, by first | exact r3 | (have r4 := r3; simp only [size_alloc1] at r4; exact r4)⟩
      · skip
        refine wpOp_alloc 7 _ 26 _ rfl rfl rfl hz26 ?_
        replace hF := hF.allocD
        refine ⟨hF.ra, ?_⟩
        (try simp only [Act.put, List.getElem_toArray, List.getElem_cons_zero, List.getElem_cons_succ, List.setIfInBounds_toArray, List.set_cons_zero, List.set_cons_succ])
        refine anyH_all1 2 (by kernel_rfl) ?_
        refine wpOp_call 2 _ _ _ _ rfl rfl (by go_simp) _ (seal_any x p _) ?_
        rintro W2 hb
        replace hF := hF.go hb
        refine ⟨hF.ra, ?_⟩
        (try simp only [Act.put, List.getElem_toArray, List.getElem_cons_zero, List.getElem_cons_succ, List.setIfInBounds_toArray, List.set_cons_zero, List.set_cons_succ])
        refine anyH_all1 5 (by kernel_rfl) ?_
        refine wpOp_call 5 _ _ _ _ rfl rfl (by go_simp) _ (seal_any y q _) ?_
        rintro W2 hb
        replace hF := hF.go hb
        refine ⟨hF.ra, ?_⟩
        (try simp only [Act.put, List.getElem_toArray, List.getElem_cons_zero, List.getElem_cons_succ, List.setIfInBounds_toArray, List.set_cons_zero, List.set_cons_succ])
        obtain ⟨r1, r2, r3⟩ := hF.stored (sealF x p) (sealF y q)
        refine anyH_store_blk 8 _ 26 _ _ _ 256 (fun _ => 0#8) (sealF x p) 26 (hF.c _ rfl).1 (zero_row info26).2 (by kernel_rfl) rfl rfl rfl rfl rfl r1 ?_
        refine anyH_store_blk 9 _ 26 _ _ _ 256 (fun _ => 0#8) (sealF y q) 26 r2 (zero_row info26).2 (by kernel_rfl) rfl rfl rfl rfl rfl r3.ra ?_
        refine wpAnyH_done (by kernel_rfl) ?_ _
        go_wp2_with fail
        go_meet
        exact ⟨_, _, rfl, rfl, by first | exact r3 | (have r4 := r3; simp only [size_alloc1] at r4; exact r4)⟩
    · skip
      refine wpOp_alloc 7 _ 26 _ rfl rfl rfl hz26 ?_
      replace hF := hF.allocD
      refine ⟨hF.ra, ?_⟩
      (try simp only [Act.put, List.getElem_toArray, List.getElem_cons_zero, List.getElem_cons_succ, List.setIfInBounds_toArray, List.set_cons_zero, List.set_cons_succ])
      refine anyH_all2 2 6 (by kernel_rfl) ?_ ?_
      · skip
        refine wpOp_call 2 _ _ _ _ rfl rfl (by go_simp) _ (seal_any x p _) ?_
        rintro W2 hb
        replace hF := hF.go hb
        refine ⟨hF.ra, ?_⟩
        (try simp only [Act.put, List.getElem_toArray, List.getElem_cons_zero, List.getElem_cons_succ, List.setIfInBounds_toArray, List.set_cons_zero, List.set_cons_succ])
        refine anyH_all2 5 6 (by kernel_rfl) ?_ ?_
        · skip
          refine wpOp_call 5 _ _ _ _ rfl rfl (by go_simp) _ (seal_any y q _) ?_
          rintro W2 hb
          replace hF := hF.go hb
          refine ⟨hF.ra, ?_⟩
          (try simp only [Act.put, List.getElem_toArray, List.getElem_cons_zero, List.getElem_cons_succ, List.setIfInBounds_toArray, List.set_cons_zero, List.set_cons_succ])
          refine anyH_all1 6 (by kernel_rfl) ?_
          refine wpOp_alloc 6 _ 26 _ rfl rfl rfl hz26 ?_
          replace hF := hF.allocC
          refine ⟨hF.ra, ?_⟩
          (try simp only [Act.put, List.getElem_toArray, List.getElem_cons_zero, List.getElem_cons_succ, List.setIfInBounds_toArray, List.set_cons_zero, List.set_cons_succ])
          obtain ⟨r1, r2, r3⟩ := hF.stored (sealF x p) (sealF y q)
          refine anyH_store_blk 8 _ 26 _ _ _ 256 (fun _ => 0#8) (sealF x p) 26 (hF.c _ rfl).1 (zero_row info26).2 (by kernel_rfl) rfl rfl rfl rfl rfl r1 ?_
          refine anyH_store_blk 9 _ 26 _ _ _ 256 (fun _ => 0#8) (sealF y q) 26 r2 (zero_row info26).2 (by kernel_rfl) rfl rfl rfl rfl rfl r3.ra ?_
          refine wpAnyH_done (by kernel_rfl) ?_ _
          go_wp2_with fail
          go_meet
          exact ⟨_, _, rfl, rfl, by first | exact r3 | (have r4 := r3; simp only [size_alloc1] at r4; exact r4)⟩
        · skip
          refine wpOp_alloc 6 _ 26 _ rfl rfl rfl hz26 ?_
          replace hF := hF.allocC
          refine ⟨hF.ra, ?_⟩
          (try simp only [Act.put, List.getElem_toArray, List.getElem_cons_zero, List.getElem_cons_succ, List.setIfInBounds_toArray, List.set_cons_zero, List.set_cons_succ])
          refine anyH_all1 5 (by kernel_rfl) ?_
          refine wpOp_call 5 _ _ _ _ rfl rfl (by go_simp) _ (seal_any y q _) ?_
          rintro W2 hb
          replace hF := hF.go hb
          refine ⟨hF.ra, ?_⟩
          (try simp only [Act.put, List.getElem_toArray, List.getElem_cons_zero, List.getElem_cons_succ, List.setIfInBounds_toArray, List.set_cons_zero, List.set_cons_succ])
          obtain ⟨r1, r2, r3⟩ := hF.stored (sealF x p) (sealF y q)
          refine anyH_store_blk 8 _ 26 _ _ _ 256 (fun _ => 0#8) (sealF x p) 26 (hF.c _ rfl).1 (zero_row info26).2 (by kernel_rfl) rfl rfl rfl rfl rfl r1 ?_
          refine anyH_store_blk 9 _ 26 _ _ _ 256 (fun _ => 0#8) (sealF y q) 26 r2 (zero_row info26).2 (by kernel_rfl) rfl rfl rfl rfl rfl r3.ra ?_
          refine wpAnyH_done (by kernel_rfl) ?_ _
          go_wp2_with fail
          go_meet
          exact ⟨_, _, rfl, rfl, by first | exact r3 | (have r4 := r3; simp only [size_alloc1] at r4; exact r4)⟩
      · skip
        refine wpOp_alloc 6 _ 26 _ rfl rfl rfl hz26 ?_
        replace hF := hF.allocC
        refine ⟨hF.ra, ?_⟩
        (try simp only [Act.put, List.getElem_toArray, List.getElem_cons_zero, List.getElem_cons_succ, List.setIfInBounds_toArray, List.set_cons_zero, List.set_cons_succ])
        refine anyH_all1 2 (by kernel_rfl) ?_
        refine wpOp_call 2 _ _ _ _ rfl rfl (by go_simp) _ (seal_any x p _) ?_
        rintro W2 hb
        replace hF := hF.go hb
        refine ⟨hF.ra, ?_⟩
        (try simp only [Act.put, List.getElem_toArray, List.getElem_cons_zero, List.getElem_cons_succ, List.setIfInBounds_toArray, List.set_cons_zero, List.set_cons_succ])
        refine anyH_all1 5 (by kernel_rfl) ?_
        refine wpOp_call 5 _ _ _ _ rfl rfl (by go_simp) _ (seal_any y q _) ?_
        rintro W2 hb
        replace hF := hF.go hb
        refine ⟨hF.ra, ?_⟩
        (try simp only [Act.put, List.getElem_toArray, List.getElem_cons_zero, List.getElem_cons_succ, List.setIfInBounds_toArray, List.set_cons_zero, List.set_cons_succ])
        obtain ⟨r1, r2, r3⟩ := hF.stored (sealF x p) (sealF y q)
        refine anyH_store_blk 8 _ 26 _ _ _ 256 (fun _ => 0#8) (sealF x p) 26 (hF.c _ rfl).1 (zero_row info26).2 (by kernel_rfl) rfl rfl rfl rfl rfl r1 ?_
        refine anyH_store_blk 9 _ 26 _ _ _ 256 (fun _ => 0#8) (sealF y q) 26 r2 (zero_row info26).2 (by kernel_rfl) rfl rfl rfl rfl rfl r3.ra ?_
        refine wpAnyH_done (by kernel_rfl) ?_ _
        go_wp2_with fail
        go_meet
        exact ⟨_, _, rfl, rfl, by first | exact r3 | (have r4 := r3; simp only [size_alloc1] at r4; exact r4)⟩
  case rest =>
    clear HF
    obtain ⟨c, d, rfl, rfl, hR⟩ := hcut
    have hsz := hR.ra.size
    go_wp2_with (first
      | (refine wpList_load_g 26 _ c 256 (sealF x p) 26 5 hR.bc Try.underlying26 (zero_row info26).2 rfl rfl rfl ?_)
      | (refine wpList_store_blk rfl 26 _ _ rfl wc.heap.size 256 (fun _ => 0#8) (sealF x p) 26 (Blk.alloc_new wc _ _) rfl rfl (zero_row info26).2 ?_))
    have hsz2 := Nat.le_trans (show w.heap.size ≤ w.heap.size + 2 by omega) hR.ra.size
    have hm := (Blk.alloc_new wc (row 256 fun _ => 0#8) 26).setRow (row 256 (sealF x p))
    have hR2 : RC w ((wc.alloc (.cells (row 256 fun _ => 0#8) 26)).setRow wc.heap.size (row 256 (sealF x p))) p q c d (sealF x p) (sealF y q) :=
      (hR.go ((Below.refl _ _).alloc (Nat.le_refl _) _)).set _ (by have := hR.bc.lt; omega) (by have := hR.bd.lt; omega) (by omega) _
    have hmn1 : wc.heap.size ≠ c := by have := hR.bc.lt; omega
    have hmn2 : wc.heap.size ≠ d := by have := hR.bd.lt; omega
    have hR := hR2
    have hmc : w.heap.size + 2 ≤ wc.heap.size := hsz
    generalize (wc.alloc (.cells (row 256 fun _ => 0#8) 26)).setRow wc.heap.size (row 256 (sealF x p)) = w1 at *
    generalize wc.heap.size = m at *
    have HR := hid hR
    have HM := hid hm
    have HB := hid (fun i (h : i < 4) => bit8' kp h)
    clear hR hR2 hm hsz2
    go_loopw [14] (fun i wr => ∃ k : Nat, i = .int .i64 k ∧ k ≤ 4 ∧ RC w wr p q c d (sealF x p) (sealF y q) ∧ Blk wr m (row 256 (mixF kp (sealF x p) (sealF y q) k)) 26 ∧ m ≠ c ∧ m ≠ d) (fun i _ => 4 - (intOf i).toNat)
    case atStart => exact ⟨0, rfl, by omega, HR.out, by rw [mix_zero]; exact HM.out, hmn1, hmn2⟩
    case round =>
      clear HR HM
      obtain ⟨k, rfl, hk, hR, hm, hmc', hmd'⟩ := hrel
      by_cases hlt : (k : Int) < 4
      · have hbit := HB.out k (by omega)
        cases hb : kp.getLsbD k with
        | false =>
          rw [hb] at hbit
          simp only [Bool.false_eq_true, if_false] at hbit
          have hmx := hid (mix_no (f := sealF x p) (g := sealF y q) hb)
          clear hb
          go_wp2_with fail
          go_roundw
          case rel => exact ⟨k + 1, by go_num, by omega, hR, by rw [hmx.out]; exact hm, hmc', hmd'⟩
          case measure => simp [intOf]; omega
        | true =>
          rw [hb] at hbit
          simp only [if_true] at hbit
          have hmx := hid (mix_yes (f := sealF x p) (g := sealF y q) (by omega) hb)
          clear hb
          go_wp2_with fail
          refine wp_region_K (k := 6) (S := (fun w' => RC w w' p q c d (sealF x p) (sealF y q) ∧ Blk w' m (row 256 (mixF kp (sealF x p) (sealF y q) k)) 26)) (by kernel_rfl) ?_
          change wpAnyK _ _ _ _ _ _ _ _ _ wr.drew
          (try simp only [Act.put])
          have hS : RC w wr.drew p q c d (sealF x p) (sealF y q) ∧ Blk wr.drew m (row 256 (mixF kp (sealF x p) (sealF y q) k)) 26 := ⟨⟨⟨hR.ra.below.drew, hR.ra.p, hR.ra.q, hR.ra.size⟩, hR.bc, hR.bd, hR.hc, hR.hd⟩, hm⟩
          refine anyK_load_blk 0 _ 26 _ m 256 (mixF kp (sealF x p) (sealF y q) k) 26 5 hS (fun w' h => h.2) Try.underlying26 (zero_row info26).2 rfl rfl rfl (by kernel_rfl) (by kernel_rfl) (by kernel_rfl) (fun _ _ _ h => h) (by decide) (by kernel_rfl) (by kernel_rfl) rfl ?_
          (try simp only [Act.put, List.getElem_toArray, List.getElem_cons_zero, List.getElem_cons_succ, List.setIfInBounds_toArray, List.set_cons_zero, List.set_cons_succ])
          refine anyK_pure 1 _ ?_ rfl (by kernel_rfl) (by kernel_rfl) (by kernel_rfl) (fun _ _ _ h => h) (by decide) rfl ?_ hS ?_
          rotate_left
          · (intro w'; go_simp; (try with_reducible rfl))
          (try simp only [Act.put, List.getElem_toArray, List.getElem_cons_zero, List.getElem_cons_succ, List.setIfInBounds_toArray, List.set_cons_zero, List.set_cons_succ])
          refine anyK_load_blk 2 _ 26 _ d 256 (sealF y q) 26 5 hS (fun w' h => h.1.bd) Try.underlying26 (zero_row info26).2 rfl rfl rfl (by kernel_rfl) (by kernel_rfl) (by kernel_rfl) (fun _ _ _ h => h) (by decide) (by kernel_rfl) (by kernel_rfl) rfl ?_
          (try simp only [Act.put, List.getElem_toArray, List.getElem_cons_zero, List.getElem_cons_succ, List.setIfInBounds_toArray, List.set_cons_zero, List.set_cons_succ])
          refine anyK_pure 3 _ ?_ rfl (by kernel_rfl) (by kernel_rfl) (by kernel_rfl) (fun _ _ _ h => h) (by decide) rfl ?_ hS ?_
          rotate_left
          · (intro w'; go_simp; (try with_reducible rfl))
          (try simp only [Act.put, List.getElem_toArray, List.getElem_cons_zero, List.getElem_cons_succ, List.setIfInBounds_toArray, List.set_cons_zero, List.set_cons_succ])
          refine anyK_call 4 _ _ _ _ (by kernel_rfl) rfl rfl (by go_simp) (_) (cut_any (sealF y q) k _) ?_
          rintro w2 hb2
          have hS := (⟨hS.1.go hb2, hS.2.below hb2⟩ : RC w w2 p q c d (sealF x p) (sealF y q) ∧ Blk w2 m (row 256 (mixF kp (sealF x p) (sealF y q) k)) 26)
          refine ⟨hS, ?_⟩
          (try simp only [Act.put, List.getElem_toArray, List.getElem_cons_zero, List.getElem_cons_succ, List.setIfInBounds_toArray, List.set_cons_zero, List.set_cons_succ])
          have cL := lay_any (mixF kp (sealF x p) (sealF y q) k) k (cutF (sealF y q) k) w2
          rw [hmx.out] at cL
          refine anyK_call 5 _ _ _ _ (by kernel_rfl) rfl rfl (by go_simp) (_) (cL) ?_
          rintro w3 hb3
          have hS := (⟨hS.1.go hb3, hS.2.below hb3⟩ : RC w w3 p q c d (sealF x p) (sealF y q) ∧ Blk w3 m (row 256 (mixF kp (sealF x p) (sealF y q) k)) 26)
          refine ⟨hS, ?_⟩
          (try simp only [Act.put, List.getElem_toArray, List.getElem_cons_zero, List.getElem_cons_succ, List.setIfInBounds_toArray, List.set_cons_zero, List.set_cons_succ])
          have hR3 := hS.1.set m (Ne.symm hmc') (Ne.symm hmd') (by omega) (row 256 (mixF kp (sealF x p) (sealF y q) (k + 1)))
          have hm3 := hS.2.setRow (row 256 (mixF kp (sealF x p) (sealF y q) (k + 1)))
          refine anyK_last _ (by kernel_rfl) rfl (by decide) rfl (wp_store_row 26 _ _ rfl m (row 256 (mixF kp (sealF x p) (sealF y q) (k + 1))) rfl rfl 26 (row 256 (mixF kp (sealF x p) (sealF y q) k)) hS.2 (by rw [row_size]; exact (zero_row info26).2) (by rw [row_size, row_size]) (row_one 256 _) ?_)
          refine anyK_done (by kernel_rfl) ?_ _
          clear hS cL hb2 hb3
          go_wp2_with fail
          go_roundw
          case rel => exact ⟨k + 1, by go_num, by omega, hR3, hm3, hmc', hmd'⟩
          case measure => simp [intOf]; omega
      · obtain rfl : k = 4 := by omega
        have k0 := B_lo kp
        have k1 := B_hi kp
        have hm16 := mod16 kp
        have HM16 := hid hm16
        clear hm16
        cases hn : (kp.getLsbD 0 || kp.getLsbD 1 || kp.getLsbD 2 || kp.getLsbD 3) with
        | false =>
          rw [mix_none hn] at hm
          have t0 : (B kp % 16 == 0) = true := by rw [HM16.out.1, hn]; rfl
          have HO := hid (openV_seal x p)
          clear hn
          have he := eq24 p
          have he2 := eq26 (sealF x p)
          have hg := guard24
          have hg2 := guard26
          go_wp2_with (refine wpList_load_g 26 _ m 256 (sealF x p) 26 5 hm Try.underlying26 (zero_row info26).2 rfl rfl rfl ?_)
          refine (open_any (sealF x p) _).mono ?_
          rintro e w4 ⟨rfl, hb4⟩
          rw [HO.out]
          have hR4 := (hR.go hb4).go ((Below.refl _ _).alloc (Nat.le_refl _) (.cells (row 224 fun _ => 0#8) 24))
          have hm4 := (hm.below hb4).alloc (.cells (row 224 fun _ => 0#8) 24)
          have hl4 := hm.below hb4
          have hR5 := hR4.set w4.heap.size (by have := (hR.go hb4).bc.lt; omega) (by have := (hR.go hb4).bd.lt; omega) (by have := (hR.go hb4).ra.size; omega) (row 224 p)
          have hm5 := hm4.setRow_other (b' := w4.heap.size) (by have := hl4.lt; omega) (row 224 p)
          have hn5 := (Blk.alloc_new w4 (row 224 fun _ => 0#8) 24).setRow (row 224 p)
          have hfin := hR5.ra.below
          clear hR4 hm4 hl4 hR hm hb4
          go_wp2_with (first
            | (refine wpList_store_blk rfl 24 _ _ rfl w4.heap.size 224 (fun _ => 0#8) p 24 (Blk.alloc_new w4 _ _) rfl rfl (zero_row info24).2 ?_)
            | (refine wpList_load_g 24 _ w4.heap.size 224 p 24 5 hn5 Try.underlying24 (zero_row info24).2 rfl rfl rfl ?_)
            | (refine wpList_load_g 24 _ w.heap.size 224 p 24 5 hR5.ra.p Try.underlying24 (zero_row info24).2 rfl rfl rfl ?_)
            | (refine wpList_load_g 24 _ (w.heap.size + 1) 224 q 24 5 hR5.ra.q Try.underlying24 (zero_row info24).2 rfl rfl rfl ?_)
            | (refine wpList_load_g 26 _ m 256 (sealF x p) 26 5 hm5 Try.underlying26 (zero_row info26).2 rfl rfl rfl ?_)
            | (refine wpList_load_g 26 _ c 256 (sealF x p) 26 5 hR5.bc Try.underlying26 (zero_row info26).2 rfl rfl rfl ?_)
            | (refine wpList_load_g 26 _ d 256 (sealF y q) 26 5 hR5.bd Try.underlying26 (zero_row info26).2 rfl rfl rfl ?_)
            | (refine wpList_build_g 24 rfl _ built24 rfl ?_))
          go_ret
          exact ⟨rfl, hfin⟩
        | true =>
          cases ha : (kp.getLsbD 0 && kp.getLsbD 1 && kp.getLsbD 2 && kp.getLsbD 3) with
          | true =>
            rw [mix_all ha] at hm
            have t0 : (B kp % 16 == 0) = false := by rw [HM16.out.1, hn]; rfl
            have t1 : (B kp % 16 == 15) = true := by rw [HM16.out.2, ha]
            have HO := hid (openV_seal y q)
            clear hn ha
            have he := eq24 q
            have he2 := eq26 (sealF y q)
            have hg := guard24
            have hg2 := guard26
            go_wp2_with (refine wpList_load_g 26 _ m 256 (sealF y q) 26 5 hm Try.underlying26 (zero_row info26).2 rfl rfl rfl ?_)
            refine (open_any (sealF y q) _).mono ?_
            rintro e w4 ⟨rfl, hb4⟩
            rw [HO.out]
            have hR4 := (hR.go hb4).go ((Below.refl _ _).alloc (Nat.le_refl _) (.cells (row 224 fun _ => 0#8) 24))
            have hm4 := (hm.below hb4).alloc (.cells (row 224 fun _ => 0#8) 24)
            have hl4 := hm.below hb4
            have hR5 := hR4.set w4.heap.size (by have := (hR.go hb4).bc.lt; omega) (by have := (hR.go hb4).bd.lt; omega) (by have := (hR.go hb4).ra.size; omega) (row 224 q)
            have hm5 := hm4.setRow_other (b' := w4.heap.size) (by have := hl4.lt; omega) (row 224 q)
            have hn5 := (Blk.alloc_new w4 (row 224 fun _ => 0#8) 24).setRow (row 224 q)
            have hfin := hR5.ra.below
            clear hR4 hm4 hl4 hR hm hb4
            go_wp2_with (first
              | (refine wpList_store_blk rfl 24 _ _ rfl w4.heap.size 224 (fun _ => 0#8) q 24 (Blk.alloc_new w4 _ _) rfl rfl (zero_row info24).2 ?_)
              | (refine wpList_load_g 24 _ w4.heap.size 224 q 24 5 hn5 Try.underlying24 (zero_row info24).2 rfl rfl rfl ?_)
              | (refine wpList_load_g 24 _ w.heap.size 224 p 24 5 hR5.ra.p Try.underlying24 (zero_row info24).2 rfl rfl rfl ?_)
              | (refine wpList_load_g 24 _ (w.heap.size + 1) 224 q 24 5 hR5.ra.q Try.underlying24 (zero_row info24).2 rfl rfl rfl ?_)
              | (refine wpList_load_g 26 _ m 256 (sealF y q) 26 5 hm5 Try.underlying26 (zero_row info26).2 rfl rfl rfl ?_)
              | (refine wpList_load_g 26 _ c 256 (sealF x p) 26 5 hR5.bc Try.underlying26 (zero_row info26).2 rfl rfl rfl ?_)
              | (refine wpList_load_g 26 _ d 256 (sealF y q) 26 5 hR5.bd Try.underlying26 (zero_row info26).2 rfl rfl rfl ?_)
              | (refine wpList_build_g 24 rfl _ built24 rfl ?_))
            go_ret
            exact ⟨rfl, hfin⟩
          | false =>
            have t0 : (B kp % 16 == 0) = false := by rw [HM16.out.1, hn]; rfl
            have t1 : (B kp % 16 == 15) = false := by rw [HM16.out.2, ha]
            by_cases hxy : x = y
            · have ho := openV_yes ((torn_whole (p := p) (q := q) hn ha).2 hxy)
              generalize stampOf (mixF kp (sealF x p) (sealF y q) 4) 0 = st at *
              generalize openP (mixF kp (sealF x p) (sealF y q) 4) = pp at *
              have HO := hid ho
              have hx : (X x == X y) = true := by rw [hxy]; simp
              clear hn ha ho hxy
              have he : True := trivial
              have hg := guard24
              have hg2 := guard26
              go_wp2_with (refine wpList_load_g 26 _ m 256 (mixF kp (sealF x p) (sealF y q) 4) 26 5 hm Try.underlying26 (zero_row info26).2 rfl rfl rfl ?_)
              refine (open_any (mixF kp (sealF x p) (sealF y q) 4) _).mono ?_
              rintro e w4 ⟨rfl, hb4⟩
              rw [HO.out]
              have hR4 := (hR.go hb4).go ((Below.refl _ _).alloc (Nat.le_refl _) (.cells (row 224 fun _ => 0#8) 24))
              have hm4 := (hm.below hb4).alloc (.cells (row 224 fun _ => 0#8) 24)
              have hl4 := hm.below hb4
              have hR5 := hR4.set w4.heap.size (by have := (hR.go hb4).bc.lt; omega) (by have := (hR.go hb4).bd.lt; omega) (by have := (hR.go hb4).ra.size; omega) (row 224 pp)
              have hm5 := hm4.setRow_other (b' := w4.heap.size) (by have := hl4.lt; omega) (row 224 pp)
              have hn5 := (Blk.alloc_new w4 (row 224 fun _ => 0#8) 24).setRow (row 224 pp)
              have hfin := hR5.ra.below
              clear hR4 hm4 hl4 hR hm hb4
              go_wp2_with (first
                | (refine wpList_store_blk rfl 24 _ _ rfl w4.heap.size 224 (fun _ => 0#8) pp 24 (Blk.alloc_new w4 _ _) rfl rfl (zero_row info24).2 ?_)
                | (refine wpList_load_g 24 _ w4.heap.size 224 pp 24 5 hn5 Try.underlying24 (zero_row info24).2 rfl rfl rfl ?_)
                | (refine wpList_load_g 24 _ w.heap.size 224 p 24 5 hR5.ra.p Try.underlying24 (zero_row info24).2 rfl rfl rfl ?_)
                | (refine wpList_load_g 24 _ (w.heap.size + 1) 224 q 24 5 hR5.ra.q Try.underlying24 (zero_row info24).2 rfl rfl rfl ?_)
                | (refine wpList_load_g 26 _ m 256 (mixF kp (sealF x p) (sealF y q) 4) 26 5 hm5 Try.underlying26 (zero_row info26).2 rfl rfl rfl ?_)
                | (refine wpList_load_g 26 _ c 256 (sealF x p) 26 5 hR5.bc Try.underlying26 (zero_row info26).2 rfl rfl rfl ?_)
                | (refine wpList_load_g 26 _ d 256 (sealF y q) 26 5 hR5.bd Try.underlying26 (zero_row info26).2 rfl rfl rfl ?_)
                | (refine wpList_build_g 24 rfl _ built24 rfl ?_))
              go_ret
              exact ⟨rfl, hfin⟩
            · have ho := openV_no (fun h => hxy ((torn_whole (p := p) (q := q) hn ha).1 h))
              have HO := hid ho
              have hx : (X x == X y) = false := by rw [beq_eq_false_iff_ne]; exact fun h => hxy (X_inj h)
              clear hn ha ho hxy
              have he := eq24 (fun _ => 0#8)
              have hg := guard24
              have hg2 := guard26
              go_wp2_with (refine wpList_load_g 26 _ m 256 (mixF kp (sealF x p) (sealF y q) 4) 26 5 hm Try.underlying26 (zero_row info26).2 rfl rfl rfl ?_)
              refine (open_any (mixF kp (sealF x p) (sealF y q) 4) _).mono ?_
              rintro e w4 ⟨rfl, hb4⟩
              rw [HO.out]
              have hR4 := (hR.go hb4).go ((Below.refl _ _).alloc (Nat.le_refl _) (.cells (row 224 fun _ => 0#8) 24))
              have hm4 := (hm.below hb4).alloc (.cells (row 224 fun _ => 0#8) 24)
              have hl4 := hm.below hb4
              have hR5 := hR4.set w4.heap.size (by have := (hR.go hb4).bc.lt; omega) (by have := (hR.go hb4).bd.lt; omega) (by have := (hR.go hb4).ra.size; omega) (row 224 (fun _ => 0#8))
              have hm5 := hm4.setRow_other (b' := w4.heap.size) (by have := hl4.lt; omega) (row 224 (fun _ => 0#8))
              have hn5 := (Blk.alloc_new w4 (row 224 fun _ => 0#8) 24).setRow (row 224 (fun _ => 0#8))
              have hfin := hR5.ra.below
              clear hR4 hm4 hl4 hR hm hb4
              go_wp2_with (first
                | (refine wpList_store_blk rfl 24 _ _ rfl w4.heap.size 224 (fun _ => 0#8) (fun _ => 0#8) 24 (Blk.alloc_new w4 _ _) rfl rfl (zero_row info24).2 ?_)
                | (refine wpList_load_g 24 _ w4.heap.size 224 (fun _ => 0#8) 24 5 hn5 Try.underlying24 (zero_row info24).2 rfl rfl rfl ?_)
                | (refine wpList_load_g 24 _ w.heap.size 224 p 24 5 hR5.ra.p Try.underlying24 (zero_row info24).2 rfl rfl rfl ?_)
                | (refine wpList_load_g 24 _ (w.heap.size + 1) 224 q 24 5 hR5.ra.q Try.underlying24 (zero_row info24).2 rfl rfl rfl ?_)
                | (refine wpList_load_g 26 _ m 256 (mixF kp (sealF x p) (sealF y q) 4) 26 5 hm5 Try.underlying26 (zero_row info26).2 rfl rfl rfl ?_)
                | (refine wpList_load_g 26 _ c 256 (sealF x p) 26 5 hR5.bc Try.underlying26 (zero_row info26).2 rfl rfl rfl ?_)
                | (refine wpList_load_g 26 _ d 256 (sealF y q) 26 5 hR5.bd Try.underlying26 (zero_row info26).2 rfl rfl rfl ?_)
                | (refine wpList_build_g 24 rfl _ built24 rfl ?_))
              go_ret
              exact ⟨rfl, hfin⟩
end Go.Proofs.Ytkalbhddjpnnmaa
