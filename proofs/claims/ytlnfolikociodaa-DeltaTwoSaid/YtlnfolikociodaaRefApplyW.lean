/- The walk of the document's Apply. -/
import Derived.Test.YtlnfolikociodaaReadW
namespace Go.Proofs.Ytlnfolikociodaa
open Go.RowKit
set_option linter.unusedSimpArgs false
/-- What the document's Apply hands back. -/
def raV (b : Nat → BitVec 8) (d : ByteArray) : Value := .tuple #[.agg (row 64 (if (read 0 (bl d)).2 = true then puts b (read 0 (bl d)).1 else fun _ => 0#8)), .bool (read 0 (bl d)).2]
structure RaSt (w W : World) (c : Nat) (b x : Nat → BitVec 8) (T : Nat → Bool) : Prop where
  below : Below w.heap.size w W
  hc : w.heap.size + 2 ≤ c
  b : Blk W w.heap.size (row 64 b) 22
  res : Blk W (w.heap.size + 1) (row 64 fun _ => 0#8) 22
  x : Blk W c (row 64 x) 22
  t : Blk W (c + 1) (rowT 64 T) 43
theorem RaSt.start {w w1 : World} (b x : Nat → BitVec 8) (T : Nat → Bool) (hb : Below ((w.alloc (.cells (row 64 b) 22)).alloc (.cells (row 64 fun _ => 0#8) 22)).heap.size ((w.alloc (.cells (row 64 b) 22)).alloc (.cells (row 64 fun _ => 0#8) 22)) w1) :
    RaSt w ((((w1.alloc (.cells (row 64 fun _ => 0#8) 22)).alloc (.cells (rowT 64 fun _ => false) 43)).setRow w1.heap.size (row 64 x)).setRow (w1.heap.size + 1) (rowT 64 T)) w1.heap.size b x T := by
  have hsz : w.heap.size + 2 ≤ w1.heap.size := by have := hb.size; simpa using this
  have h0 : Blk ((w.alloc (.cells (row 64 b) 22)).alloc (.cells (row 64 fun _ => 0#8) 22)) w.heap.size (row 64 b) 22 := (Blk.alloc_new w _ _).alloc _
  have h1 : Blk ((w.alloc (.cells (row 64 b) 22)).alloc (.cells (row 64 fun _ => 0#8) 22)) (w.heap.size + 1) (row 64 fun _ => 0#8) 22 := by
    have h := Blk.alloc_new (w.alloc (.cells (row 64 b) 22)) (row 64 fun _ => 0#8) 22
    rwa [show (w.alloc (.cells (row 64 b) 22)).heap.size = w.heap.size + 1 by simp] at h
  have hw : Below w.heap.size w w1 := (((Below.refl _ _).alloc (Nat.le_refl _) _).alloc (by simp) _).trans (hb.mono (by simp; omega))
  have h2 : Blk ((w1.alloc (.cells (row 64 fun _ => 0#8) 22)).alloc (.cells (rowT 64 fun _ => false) 43)) (w1.heap.size + 1) (rowT 64 fun _ => false) 43 := by
    have h := Blk.alloc_new (w1.alloc (.cells (row 64 fun _ => 0#8) 22)) (rowT 64 fun _ => false) 43
    rwa [show (w1.alloc (.cells (row 64 fun _ => 0#8) 22)).heap.size = w1.heap.size + 1 by simp] at h
  exact ⟨below_setRow (below_setRow ((hw.alloc (by omega) _).alloc (by simp; omega) _) (by omega) _) (by omega) _, hsz,
    (((((h0.below hb).alloc _).alloc _).setRow_other (by omega) _).setRow_other (by omega) _), (((((h1.below hb).alloc _).alloc _).setRow_other (by omega) _).setRow_other (by omega) _),
    (((Blk.alloc_new w1 _ _).alloc _).setRow _).setRow_other (by omega) _, (h2.setRow_other (by omega) _).setRow _⟩
section
variable {w W : World} {c : Nat} {b x : Nat → BitVec 8} {T : Nat → Bool}
theorem RaSt.setB (h : RaSt w W c b x T) (i : Nat) (v : BitVec 8) : RaSt w (W.setCell ⟨w.heap.size, i, none⟩ (.int .u8 (B v))) c (upd b i v) x T := by
  have := h.hc
  rw [h.b.setCell, show (row 64 b).setIfInBounds i (.int .u8 (B v)) = row 64 (upd b i v) from row_set v]
  exact ⟨below_setRow h.below (by omega) _, h.hc, h.b.setRow _, h.res.setRow_other (by omega) _, h.x.setRow_other (by omega) _, h.t.setRow_other (by omega) _⟩
end
/-- b with x where T marks, up to i. -/
def mix (b x : Nat → BitVec 8) (T : Nat → Bool) (i : Nat) : Nat → BitVec 8 := fun j => if j < i ∧ T j = true then x j else b j
theorem mix_zero (b x : Nat → BitVec 8) (T : Nat → Bool) : mix b x T 0 = b := by funext j; simp [mix]
theorem mix_yes {b x : Nat → BitVec 8} {T : Nat → Bool} {i : Nat} (h : T i = true) : upd (mix b x T i) i (x i) = mix b x T (i + 1) := by
  funext j
  unfold upd mix
  by_cases e : j = i
  · subst e; rw [if_pos rfl, if_pos ⟨by omega, h⟩]
  · rw [if_neg e]
    by_cases h1 : j < i ∧ T j = true
    · rw [if_pos h1, if_pos ⟨by omega, h1.2⟩]
    · rw [if_neg h1, if_neg (fun h2 => h1 ⟨by omega, h2.2⟩)]
theorem mix_no {b x : Nat → BitVec 8} {T : Nat → Bool} {i : Nat} (h : T i = false) : mix b x T i = mix b x T (i + 1) := by
  funext j
  unfold mix
  by_cases e : j = i
  · subst e; simp [h]
  · by_cases h1 : j < i ∧ T j = true
    · rw [if_pos h1, if_pos ⟨by omega, h1.2⟩]
    · rw [if_neg h1, if_neg (fun h2 => h1 ⟨by omega, h2.2⟩)]
theorem mix_done (b : Nat → BitVec 8) (ps : List Piece) : row 64 (mix b (puts (fun _ => 0#8) ps) (marks (fun _ => false) ps) 64) = row 64 (puts b ps) :=
  row_congr fun j hj => by
    unfold mix
    rw [puts_eq j ps b (fun _ => 0#8)]
    by_cases h : marks (fun _ => false) ps j = true
    · rw [if_pos ⟨hj, h⟩, if_pos h]
    · rw [if_neg (fun h2 => h h2.2), if_neg h]
set_option maxRecDepth 100000 in
set_option maxHeartbeats 4000000 in
theorem refapply_any (b : Nat → BitVec 8) (d : ByteArray) (hd : d.size ≤ 140737488351232) (w : World) :
    Calls Try.prog 14 #[.agg (row 64 b), .string d] w fun e w' => e = .returned (raV b d) ∧ Below w.heap.size w w' := by
  have hz22 := (zero_row info22).1
  have hz43 := (zero_rowT info43).1
  cases hv : (read 0 (bl d)).2 with
  | true =>
    have hR := hid (rdV_yes hv)
    have hV : raV b d = .tuple #[.agg (row 64 (puts b (read 0 (bl d)).1)), .bool true] := by simp [raV, hv]
    replace hV := hid hV
    clear hv
    have hmd := hid (mix_done b (read 0 (bl d)).1)
    generalize hxe : puts (fun _ => 0#8) (read 0 (bl d)).1 = x at *
    generalize hte : marks (fun _ => false) (read 0 (bl d)).1 = T at *
    clear hxe hte
    go_enter Try.func14, Try.ntmps14
    go_wp2_with (first
      | (go_at_call 21; refine (read_any d hd _).mono ?_; rintro e w1 ⟨rfl, hb1⟩; rw [hR.out])
      | (refine wpList_store_blk rfl 22 _ _ rfl w1.heap.size 64 (fun _ => 0#8) x 22 ((Blk.alloc_new w1 _ _).alloc _) rfl rfl (zero_row info22).2 ?_)
      | (refine wpList_store_rowT rfl 43 _ _ rfl (w1.heap.size + 1) 64 (fun _ => false) T 43 ((by have h := Blk.alloc_new (w1.alloc (.cells (row 64 fun _ => 0#8) 22)) (rowT 64 fun _ => false) 43; rw [show (w1.alloc (.cells (row 64 fun _ => 0#8) 22)).heap.size = w1.heap.size + 1 by simp] at h; exact h.setRow_other (by omega) _)) rfl rfl (zero_rowT info43).2 ?_))
    have hs := RaSt.start b x T hb1
    clear hb1 hz22 hz43
    generalize (((w1.alloc (Obj.cells (row 64 fun _ => 0#8) 22)).alloc (Obj.cells (rowT 64 fun _ => false) 43)).setRow w1.heap.size (row 64 x)).setRow (w1.heap.size + 1) (rowT 64 T) = w2 at *
    generalize w1.heap.size = c at *
    go_loopw [9] (fun i wr => ∃ k : Nat, i = .int .i64 k ∧ k ≤ 64 ∧ RaSt w wr c (mix b x T k) x T) (fun i _ => 64 - (intOf i).toNat)
    case atStart => exact ⟨0, rfl, by omega, by rw [mix_zero]; exact hs⟩
    case round =>
      clear hs
      obtain ⟨k, rfl, hk, hs⟩ := hrel
      by_cases hlt : (k : Int) < 64
      · have hlt' : k < 64 := by omega
        have c1 := hs.t.bit hlt'
        cases hT : T k with
        | true =>
          rw [hT] at c1
          have c2 := hs.x.byte hlt'
          have c3 := hs.b.byte hlt'
          have g3 := hs.b.free k
          have hn := hs.setB k (x k)
          rw [mix_yes hT] at hn
          replace hn := hid hn
          clear hT
          go_wp2
          go_roundw
          case rel => exact ⟨k + 1, by go_num, by omega, hn.out⟩
          case measure => simp [intOf]; omega
        | false =>
          rw [hT] at c1
          rw [mix_no hT] at hs
          clear hT
          go_wp2
          go_roundw
          case rel => exact ⟨k + 1, by go_num, by omega, hs⟩
          case measure => simp [intOf]; omega
      · obtain rfl : k = 64 := by omega
        have hbel : Below w.heap.size w (wr.setRow (w.heap.size + 1) (row 64 (mix b x T 64))) := below_setRow hs.below (by omega) _
        go_wp2_with (first
          | (refine wpList_load_g 22 _ w.heap.size 64 (mix b x T 64) 22 5 hs.b Try.underlying22 (zero_row info22).2 rfl rfl rfl ?_)
          | (refine wpList_store_blk rfl 22 _ _ rfl _ 64 (fun _ => 0#8) (mix b x T 64) 22 hs.res rfl rfl (zero_row info22).2 ?_))
        refine bodyPost_ret (v := raV b d) ?_ rfl ⟨rfl, hbel⟩
        rw [hV.out, ← hmd.out]
        refine results_c2 (p := 4) (q := 5) (ty := 22) rfl _ _ (w.heap.size + 1) 22 (row 64 (mix b x T 64)) (0, 0) _ ?_ (hs.res.setRow _) Try.underlying22 rfl (by rw [row_size]; exact (zero_row info22).2)
        rfl
  | false =>
    have hR := hid (rdV_no hv)
    have hV : raV b d = .tuple #[.agg (row 64 fun _ => 0#8), .bool false] := by simp [raV, hv]
    replace hV := hid hV
    clear hv
    go_enter Try.func14, Try.ntmps14
    go_wp2_with (first
      | (go_at_call 21; refine (read_any d hd _).mono ?_; rintro e w1 ⟨rfl, hb1⟩; rw [hR.out])
      | (refine wpList_store_blk rfl 22 _ _ rfl w1.heap.size 64 (fun _ => 0#8) (fun _ => 0#8) 22 ((Blk.alloc_new w1 _ _).alloc _) rfl rfl (zero_row info22).2 ?_)
      | (refine wpList_store_rowT rfl 43 _ _ rfl (w1.heap.size + 1) 64 (fun _ => false) (fun _ => false) 43 ((by have h := Blk.alloc_new (w1.alloc (.cells (row 64 fun _ => 0#8) 22)) (rowT 64 fun _ => false) 43; rw [show (w1.alloc (.cells (row 64 fun _ => 0#8) 22)).heap.size = w1.heap.size + 1 by simp] at h; exact h.setRow_other (by omega) _)) rfl rfl (zero_rowT info43).2 ?_)
      | (refine wpList_build0 rfl 22 rfl _ built22 ?_)
      | (refine wpList_store_blk rfl 22 _ _ rfl _ 64 (fun _ => 0#8) (fun _ => 0#8) 22 (RaSt.start (w := w) b (fun _ => 0#8) (fun _ => false) hb1).res rfl rfl (zero_row info22).2 ?_))
    have hs := RaSt.start b (fun _ => 0#8) (fun _ => false) hb1
    refine bodyPost_ret (v := raV b d) ?_ rfl ⟨rfl, below_setRow hs.below (by omega) _⟩
    rw [hV.out]
    refine results_c2 (p := 4) (q := 5) (ty := 22) rfl _ _ (w.heap.size + 1) 22 (row 64 fun _ => 0#8) (0, 0) _ ?_ (hs.res.setRow _) Try.underlying22 rfl (by rw [row_size]; exact (zero_row info22).2)
    rfl
end Go.Proofs.Ytlnfolikociodaa
