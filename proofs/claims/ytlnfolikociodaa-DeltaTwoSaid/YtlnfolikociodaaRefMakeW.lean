/- The walk of the document's Make. -/
import Derived.Test.YtlnfolikociodaaPiecesW
import Derived.StillTailTactics
namespace Go.Proofs.Ytlnfolikociodaa
open Go.RowKit
theorem info43 : (Try.prog.info? 43).map (fun i => (i.zero, i.size)) = some (some (.agg (Array.replicate 64 (.bool false))), 64) := by kernel_rfl
structure RmSt (w wr : World) (f g : Nat → BitVec 8) (D T : Nat → Bool) : Prop where
  below : Below w.heap.size w wr
  a : Blk wr w.heap.size (row 64 f) 22
  b : Blk wr (w.heap.size + 1) (row 64 g) 22
  d : Blk wr (w.heap.size + 1 + 1) (rowT 64 D) 43
  t : Blk wr (w.heap.size + 1 + 1 + 1) (rowT 64 T) 43
theorem RmSt.start (w : World) (f g : Nat → BitVec 8) : RmSt w ((((w.alloc (.cells (row 64 f) 22)).alloc (.cells (row 64 g) 22)).alloc (.cells (rowT 64 fun _ => false) 43)).alloc (.cells (rowT 64 fun _ => false) 43)) f g (fun _ => false) (fun _ => false) where
  below := ((((Below.refl _ _).alloc (Nat.le_refl _) _).alloc (by simp) _).alloc (by simp; omega) _).alloc (by simp; omega) _
  a := (((Blk.alloc_new w _ _).alloc _).alloc _).alloc _
  b := by
    have h := Blk.alloc_new (w.alloc (.cells (row 64 f) 22)) (row 64 g) 22
    rw [show (w.alloc (.cells (row 64 f) 22)).heap.size = w.heap.size + 1 by simp] at h
    exact (h.alloc _).alloc _
  d := by
    have h := Blk.alloc_new ((w.alloc (.cells (row 64 f) 22)).alloc (.cells (row 64 g) 22)) (rowT 64 fun _ => false) 43
    rw [show ((w.alloc (.cells (row 64 f) 22)).alloc (.cells (row 64 g) 22)).heap.size = w.heap.size + 1 + 1 by simp] at h
    exact h.alloc _
  t := by
    have h := Blk.alloc_new (((w.alloc (.cells (row 64 f) 22)).alloc (.cells (row 64 g) 22)).alloc (.cells (rowT 64 fun _ => false) 43)) (rowT 64 fun _ => false) 43
    rwa [show (((w.alloc (.cells (row 64 f) 22)).alloc (.cells (row 64 g) 22)).alloc (.cells (rowT 64 fun _ => false) 43)).heap.size = w.heap.size + 1 + 1 + 1 by simp] at h
section
variable {w wr : World} {f g : Nat → BitVec 8} {D T : Nat → Bool}
theorem RmSt.drew (h : RmSt w wr f g D T) : RmSt w wr.drew f g D T := ⟨⟨h.below.os, h.below.tape, h.below.output, h.below.size, h.below.block⟩, h.a, h.b, h.d, h.t⟩
theorem RmSt.setD (h : RmSt w wr f g D T) (i : Nat) (c : Bool) : RmSt w (wr.setCell ⟨w.heap.size + 1 + 1, i, none⟩ (.bool c)) f g (updT D i c) T := by
  rw [h.d.setCell]
  exact ⟨below_setRow h.below (by omega) _, h.a.setRow_other (by omega) _, h.b.setRow_other (by omega) _, by rw [rowT_set]; exact h.d.setRow _, h.t.setRow_other (by omega) _⟩
theorem RmSt.setT (h : RmSt w wr f g D T) (i : Nat) (c : Bool) : RmSt w (wr.setCell ⟨w.heap.size + 1 + 1 + 1, i, none⟩ (.bool c)) f g D (updT T i c) := by
  rw [h.t.setCell]
  exact ⟨below_setRow h.below (by omega) _, h.a.setRow_other (by omega) _, h.b.setRow_other (by omega) _, h.d.setRow_other (by omega) _, by rw [rowT_set]; exact h.t.setRow _⟩
end
/-- What is marked at (i, k), j from i up to m besides. -/
def TP (D : Nat → Bool) (i k m : Nat) (T : Nat → Bool) : Prop := ∀ j, j < 64 → (T j = true ↔ D j = true ∨ (∃ a b, b < 64 ∧ a + 2 ≤ b ∧ b ≤ a + 3 ∧ D a = true ∧ D b = true ∧ a ≤ j ∧ j < b ∧ (a < i ∨ (a = i ∧ b < k))) ∨ (i ≤ j ∧ j < m))
theorem TP.start {D T : Nat → Bool} (h : ∀ j, j < 64 → T j = D j) : TP D 0 2 0 T := fun j hj => by
  rw [h j hj]
  constructor
  · exact .inl
  · rintro (h | ⟨a, b, _, h1, h2, _, _, _, _, h3⟩ | h)
    · exact h
    · omega
    · omega
theorem TP.no {D T : Nat → Bool} {i k : Nat} (h : TP D i k i T) (hn : ¬ (D i = true ∧ D k = true)) : TP D i (k + 1) i T := fun j hj => by
  rw [h j hj]
  constructor
  · rintro (h | ⟨a, b, p1, p2, p3, p4, p5, p6, p7, p8⟩ | h)
    · exact .inl h
    · exact .inr (.inl ⟨a, b, p1, p2, p3, p4, p5, p6, p7, by omega⟩)
    · omega
  · rintro (h | ⟨a, b, p1, p2, p3, p4, p5, p6, p7, p8⟩ | h)
    · exact .inl h
    · refine .inr (.inl ⟨a, b, p1, p2, p3, p4, p5, p6, p7, ?_⟩)
      by_cases e : a = i ∧ b = k
      · obtain ⟨rfl, rfl⟩ := e; exact absurd ⟨p4, p5⟩ hn
      · omega
    · omega
theorem TP.mark {D T : Nat → Bool} {i k m : Nat} (h : TP D i k m T) (hm : i ≤ m) : TP D i k (m + 1) (updT T m true) := fun j hj => by
  unfold updT
  by_cases e : j = m
  · subst e; rw [if_pos rfl]; exact ⟨fun _ => .inr (.inr ⟨hm, by omega⟩), fun _ => rfl⟩
  · rw [if_neg e, h j hj]
    constructor
    · rintro (h | h | h)
      · exact .inl h
      · exact .inr (.inl h)
      · exact .inr (.inr (by omega))
    · rintro (h | h | h)
      · exact .inl h
      · exact .inr (.inl h)
      · exact .inr (.inr (by omega))
theorem TP.pair {D T : Nat → Bool} {i k : Nat} (h : TP D i k k T) (h1 : D i = true) (h2 : D k = true) (hk : i + 2 ≤ k) (hk' : k ≤ i + 3) (h64 : k < 64) : TP D i (k + 1) i T := fun j hj => by
  rw [h j hj]
  constructor
  · rintro (h | ⟨a, b, p1, p2, p3, p4, p5, p6, p7, p8⟩ | h)
    · exact .inl h
    · exact .inr (.inl ⟨a, b, p1, p2, p3, p4, p5, p6, p7, by omega⟩)
    · exact .inr (.inl ⟨i, k, h64, hk, hk', h1, h2, h.1, h.2, by omega⟩)
  · rintro (h | ⟨a, b, p1, p2, p3, p4, p5, p6, p7, p8⟩ | h)
    · exact .inl h
    · by_cases e : a = i ∧ b = k
      · obtain ⟨rfl, rfl⟩ := e; exact .inr (.inr ⟨p6, p7⟩)
      · exact .inr (.inl ⟨a, b, p1, p2, p3, p4, p5, p6, p7, by omega⟩)
    · omega
theorem TP.next {D T : Nat → Bool} {i k : Nat} (h : TP D i k i T) (hk : 64 ≤ k ∨ i + 4 ≤ k) : TP D (i + 1) (i + 3) (i + 1) T := fun j hj => by
  rw [h j hj]
  constructor
  · rintro (h | ⟨a, b, p1, p2, p3, p4, p5, p6, p7, p8⟩ | h)
    · exact .inl h
    · exact .inr (.inl ⟨a, b, p1, p2, p3, p4, p5, p6, p7, by omega⟩)
    · omega
  · rintro (h | ⟨a, b, p1, p2, p3, p4, p5, p6, p7, p8⟩ | h)
    · exact .inl h
    · exact .inr (.inl ⟨a, b, p1, p2, p3, p4, p5, p6, p7, by omega⟩)
    · omega
theorem TP.done {D T : Nat → Bool} {k : Nat} (h : TP D 64 k 64 T) : ∀ j, j < 64 → T j = tch D j := fun j hj => by
  rw [Bool.eq_iff_iff, h j hj, tch_iff]
  constructor
  · rintro (h | ⟨a, b, p1, p2, p3, p4, p5, p6, p7, p8⟩ | h)
    · exact .inl h
    · exact .inr ⟨a, b, p1, p2, p3, p4, p5, p6, p7⟩
    · omega
  · rintro (h | ⟨a, b, p1, p2, p3, p4, p5, p6, p7⟩)
    · exact .inl h
    · exact .inr (.inl ⟨a, b, p1, p2, p3, p4, p5, p6, p7, by omega⟩)
structure RmRel1 (w wr : World) (f g : Nat → BitVec 8) (i : Nat) : Prop where
  i64 : i ≤ 64
  st : ∃ D T, RmSt w wr f g D T ∧ ∀ j, j < i → D j = Eq1 f g j ∧ T j = Eq1 f g j
structure RmRel (w wr : World) (f g : Nat → BitVec 8) (i k m : Nat) : Prop where
  i64 : i ≤ 64
  st : ∃ T, RmSt w wr f g (Eq1 f g) T ∧ TP (Eq1 f g) i k m T
set_option maxRecDepth 100000 in
set_option maxHeartbeats 4000000 in
theorem refmake_any (f g : Nat → BitVec 8) (w : World) :
    Calls Try.prog 11 #[.agg (row 64 f), .agg (row 64 g)] w fun e w' => e = .returned (.string (str (pc (tch (Eq1 f g)) g 0))) ∧ Below w.heap.size w w' := by
  have hst := hid (RmSt.start w f g)
  have hz43 := (zero_rowT info43).1
  go_enter Try.func11, Try.ntmps11
  go_wp2
  clear hz43
  go_loopw [7] (fun i wr => ∃ k : Nat, i = .int .i64 k ∧ RmRel1 w wr f g k) (fun i _ => 64 - (intOf i).toNat)
  case atStart => exact ⟨0, rfl, by omega, _, _, hst.out, fun j hj => by omega⟩
  case round =>
    obtain ⟨i, rfl, hi, D, T, hs, hall⟩ := hrel
    replace hall := hid hall
    by_cases hlt : (i : Int) < 64
    · have hlt' : i < 64 := by omega
      have c1 := hs.a.byte hlt'
      have c2 := hs.b.byte hlt'
      have c3 := hs.d.bit hlt'
      have c4 := hs.t.bit hlt'
      have f3 := hs.d.free i
      have f4 := hs.t.free i
      have he : (B (f i) != B (g i)) = Eq1 f g i := by
        unfold Eq1
        by_cases hd : f i = g i
        · rw [hd]; simp
        · rw [(bne_iff_ne (a := f i)).2 hd, bne_iff_ne]; exact fun h => hd (B_inj h)
      go_wp2
      go_still_tail 9, (by kernel_rfl)
      go_wp2
      go_roundw
      case rel => exact ⟨i + 1, by go_num, by omega, _, _, (hs.drew.setD i _).setT i _, fun j hj => by
        unfold updT
        by_cases e : j = i
        · rw [if_pos e, if_pos e, e]; exact ⟨rfl, rfl⟩
        · rw [if_neg e, if_neg e]; exact hall.out j (by omega)⟩
      case measure => simp [intOf]; omega
    · have hi' : i = 64 := by omega
      subst hi'
      replace hs : RmSt w wr f g (Eq1 f g) T := ⟨hs.below, hs.a, hs.b, by have h := hs.d; rwa [rowT_congr (U := Eq1 f g) fun j hj => (hall.out j hj).1] at h, hs.t⟩
      have hT := hid (TP.start (D := Eq1 f g) fun j hj => (hall.out j hj).2)
      clear hall hst
      go_wp2
      generalize wr = w0 at *
      go_loopw [8] (fun i wr => ∃ k : Nat, i = .int .i64 k ∧ RmRel w wr f g k (k + 2) k) (fun i _ => 64 - (intOf i).toNat)
      case atStart => exact ⟨0, rfl, by omega, T, hs, hT.out⟩
      case round =>
        clear hs hT
        obtain ⟨i, rfl, hi, T, hs, hT⟩ := hrel
        replace hT := hid hT
        by_cases hlt : (i : Int) < 64
        · have hlt' : i < 64 := by omega
          go_wp2
          generalize wr = w1 at *
          go_loopw [9] (fun k wr => ∃ K : Nat, k = .int .i64 K ∧ i + 2 ≤ K ∧ K ≤ i + 4 ∧ RmRel w wr f g i K i) (fun k _ => 68 - (intOf k).toNat)
          case atStart => exact ⟨i + 2, by go_num, by omega, by omega, hi, T, hs, hT.out⟩
          case round =>
            clear hs hT
            obtain ⟨K, rfl, hk1, hk2, _, T, hs, hT⟩ := hrel
            replace hT := hid hT
            by_cases hK : (K : Int) ≤ (i : Int) + 3 ∧ (K : Int) < 64
            · obtain ⟨hK1, hK2⟩ := hK
              have hK' : K < 64 := by omega
              have c1 := hs.d.bit hlt'
              have c2 := hs.d.bit hK'
              cases h1 : Eq1 f g i with
              | false =>
                rw [h1] at c1
                replace h1 := hid h1
                go_wp2
                go_roundw
                case rel => exact ⟨K + 1, by go_num, by omega, by omega, hi, T, hs, hT.out.no (by rw [h1.out]; simp)⟩
                case measure => simp [intOf]; omega
              | true =>
                rw [h1] at c1
                replace h1 := hid h1
                cases h2 : Eq1 f g K with
                | false =>
                  rw [h2] at c2
                  replace h2 := hid h2
                  go_wp2
                  go_roundw
                  case rel => exact ⟨K + 1, by go_num, by omega, by omega, hi, T, hs, hT.out.no (by rw [h2.out]; simp)⟩
                  case measure => simp [intOf]; omega
                | true =>
                  rw [h2] at c2
                  replace h2 := hid h2
                  go_wp2
                  generalize wr = w2 at *
                  go_loopw [10] (fun m wr => ∃ M : Nat, m = .int .i64 M ∧ i ≤ M ∧ M ≤ K ∧ RmRel w wr f g i K M) (fun m _ => 64 - (intOf m).toNat)
                  case atStart => exact ⟨i, rfl, Nat.le_refl _, by omega, hi, T, hs, hT.out⟩
                  case round =>
                    clear hs hT c1 c2
                    obtain ⟨M, rfl, hm1, hm2, _, T, hs, hT⟩ := hrel
                    replace hT := hid hT
                    by_cases hM : (M : Int) < (K : Int)
                    · have hM' : M < 64 := by omega
                      have c1 := hs.t.bit hM'
                      have f1 := hs.t.free M
                      go_wp2
                      go_roundw
                      case rel => exact ⟨M + 1, by go_num, by omega, by omega, hi, _, hs.setT M _, hT.out.mark hm1⟩
                      case measure => simp [intOf]; omega
                    · have hM' : K = M := by omega
                      subst hM'
                      go_wp2
                      go_roundw
                      case rel => exact ⟨K + 1, by go_num, by omega, by omega, hi, T, hs, hT.out.pair h1.out h2.out hk1 (by omega) hK'⟩
                      case measure => simp [intOf]; omega
            · have hor : (i : Int) + 3 < K ∨ ((K : Int) ≤ (i : Int) + 3 ∧ (64 : Int) ≤ K) := by omega
              have hnx := hid (hT.out.next (by omega))
              clear hK
              rcases hor with h1 | ⟨h1, h2⟩
              all_goals
                go_wp2
                go_roundw
                case rel => exact ⟨i + 1, by go_num, by omega, T, hs, hnx.out⟩
                case measure => simp [intOf]; omega
        · have hi' : i = 64 := by omega
          subst hi'
          replace hs : RmSt w wr f g (Eq1 f g) (tch (Eq1 f g)) := ⟨hs.below, hs.a, hs.b, hs.d, by have h := hs.t; rwa [rowT_congr (U := tch (Eq1 f g)) hT.out.done] at h⟩
          clear hT
          go_wp2_with (first
            | (refine wpList_load_g 22 _ (w.heap.size + 1) 64 g 22 5 hs.b Try.underlying22 (zero_row info22).2 rfl rfl rfl ?_)
            | (refine wpList_load_rowT rfl 43 _ rfl (w.heap.size + 1 + 1 + 1) 64 (tch (Eq1 f g)) 43 hs.t rfl 4 Try.underlying43 (zero_rowT info43).2 ?_)
            | (go_at_call 18; refine (pieces_any _ _ _).mono ?_; rintro e w' ⟨rfl, hb⟩))
          go_ret
          exact ⟨rfl, hs.below.trans (hb.mono hs.below.size)⟩
end Go.Proofs.Ytlnfolikociodaa
