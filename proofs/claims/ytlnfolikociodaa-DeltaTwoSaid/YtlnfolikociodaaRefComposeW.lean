/- The walks of delta.Compose where it fails, and of the document's Compose. -/
import Derived.Test.YtlnfolikociodaaComposeW
import Derived.Test.YtlnfolikociodaaRefApplyW
import Derived.Test.YtlnfolikociodaaAppliesW
namespace Go.Proofs.Ytlnfolikociodaa
open Go.RowKit
set_option linter.unusedSimpArgs false
set_option maxRecDepth 100000 in
set_option maxHeartbeats 4000000 in
theorem compose_no (d e : ByteArray) (hd : d.size ≤ 140737488351232) (he : e.size ≤ 140737488351232) (v : ¬ ((read 0 (bl d)).2 = true ∧ (read 0 (bl e)).2 = true)) (w : World) :
    Calls Try.prog 16 #[.string d, .string e] w fun r w' => r = .returned (.tuple #[.string ByteArray.empty, .int .i64 2]) ∧ Below w.heap.size w w' := by
  have hz23 := (zero_row info23).1
  have hmf : ∀ (fn : Fn) (first cap : Array Value) (w : World), (Instr.makeFunc fn first cap).run Try.prog w = .ok (.func fn first cap) w := fun _ _ _ _ => rfl
  have HE1 := (each_23 ⟨w.heap.size, 0, none⟩ ⟨w.heap.size + 1, 0, none⟩ (fun ps W => CoSt w W (puts (fun _ => 0#8) ps) (marks (fun _ => false) ps)) (fun _ W n h => h.drewN n)
    (fun ps a s W h h1 h2 => (co_clos h a s h1 h2).mono fun e w' ⟨he, hw⟩ => ⟨he, by rw [puts_snoc, marks_snoc]; exact hw⟩) d hd [] _ (CoSt.start w))
  have HE2 : ∀ W b T, CoSt w W b T → Calls Try.prog 19 #[.string e, .func (.func 23) #[] #[.pointer (some ⟨w.heap.size, 0, none⟩), .pointer (some ⟨w.heap.size + 1, 0, none⟩)]] W
      fun r w' => EachPost (fun ps W => CoSt w W (puts b ps) (marks T ps)) [] e r w' := fun W b T hW =>
    (each_23 ⟨w.heap.size, 0, none⟩ ⟨w.heap.size + 1, 0, none⟩ (fun ps W => CoSt w W (puts b ps) (marks T ps)) (fun _ W n h => h.drewN n)
    (fun ps a s W h h1 h2 => (co_clos h a s h1 h2).mono fun e w' ⟨he, hw⟩ => ⟨he, by rw [puts_snoc, marks_snoc]; exact hw⟩) e he [] W hW)
  cases v1 : (read 0 (bl d)).2 with
  | false =>
    have HE1' := hid (HE1.mono (R' := fun r w' => r = .returned (.bool false) ∧ Below w.heap.size w w') fun r w' ⟨hr, ps, hs, hps⟩ => ⟨by rw [hr, v1], hs.below⟩)
    clear HE1 HE2 v v1
    have t1 : True := trivial
    go_enter Try.func16, Try.ntmps16
    go_wp2_with (first
      | (go_at_call 19; have tok := hid t1; clear t1; refine HE1'.out.mono ?_; rintro r w1 ⟨rfl, hs1⟩))
    go_ret2
    exact ⟨rfl, hs1⟩
  | true =>
    have v2 : (read 0 (bl e)).2 = false := by
      cases h : (read 0 (bl e)).2 with
      | false => rfl
      | true => exact absurd ⟨v1, h⟩ v
    have HE1' := hid (HE1.mono (R' := fun r w' => r = .returned (.bool true) ∧ ∃ b T, CoSt w w' b T) fun r w' ⟨hr, ps, hs, hps⟩ => ⟨by rw [hr, v1], _, _, hs⟩)
    have HE2' : Hid (∀ W b T, CoSt w W b T → Calls Try.prog 19 #[.string e, .func (.func 23) #[] #[.pointer (some ⟨w.heap.size, 0, none⟩), .pointer (some ⟨w.heap.size + 1, 0, none⟩)]] W fun r w' => r = .returned (.bool false) ∧ Below w.heap.size w w') :=
      hid fun W b T hW => (HE2 W b T hW).mono fun r w' ⟨hr, ps, hs, hps⟩ => ⟨by rw [hr, v2], hs.below⟩
    clear HE1 HE2 v v1 v2
    have t1 : True := trivial
    go_enter Try.func16, Try.ntmps16
    go_wp2_with (first
      | (go_at_call 19; have tok := hid t1; clear t1; refine HE1'.out.mono ?_; rintro r w1 ⟨rfl, b, T, hs1⟩)
      | (go_at_call 19; refine (HE2'.out _ b T hs1).mono ?_; rintro r w2 ⟨rfl, hs2⟩))
    go_ret2
    exact ⟨rfl, hs2⟩
/-- What Compose hands back. -/
def coV (d e : ByteArray) : Value := if (read 0 (bl d)).2 = true ∧ (read 0 (bl e)).2 = true then .tuple #[.string (str (pc (coT d e) (coB d e) 0)), .int .i64 0] else .tuple #[.string ByteArray.empty, .int .i64 2]
theorem compose_any (d e : ByteArray) (hd : d.size ≤ 140737488351232) (he : e.size ≤ 140737488351232) (w : World) :
    Calls Try.prog 16 #[.string d, .string e] w fun r w' => r = .returned (coV d e) ∧ Below w.heap.size w w' := by
  by_cases h : (read 0 (bl d)).2 = true ∧ (read 0 (bl e)).2 = true
  · exact (compose_yes d e hd he h.1 h.2 w).mono fun r w' ⟨hr, hb⟩ => ⟨by rw [hr, coV, if_pos h], hb⟩
  · exact (compose_no d e hd he h w).mono fun r w' ⟨hr, hb⟩ => ⟨by rw [hr, coV, if_neg h], hb⟩
/-! ### The document's -/
structure RcSt (w W : World) (c1 c2 : Nat) (x y : Nat → BitVec 8) (a b : Nat → Bool) : Prop where
  below : Below w.heap.size w W
  h1 : w.heap.size ≤ c1
  h2 : c1 + 2 ≤ c2
  x : Blk W c1 (row 64 x) 22
  a : Blk W (c1 + 1) (rowT 64 a) 43
  y : Blk W c2 (row 64 y) 22
  b : Blk W (c2 + 1) (rowT 64 b) 43
section
variable {w W : World} {c1 c2 : Nat} {x y : Nat → BitVec 8} {a b : Nat → Bool}
theorem RcSt.setX (h : RcSt w W c1 c2 x y a b) (i : Nat) (v : BitVec 8) : RcSt w (W.setCell ⟨c1, i, none⟩ (.int .u8 (B v))) c1 c2 (upd x i v) y a b := by
  have := h.h1
  have := h.h2
  rw [h.x.setCell, show (row 64 x).setIfInBounds i (.int .u8 (B v)) = row 64 (upd x i v) from row_set v]
  exact ⟨below_setRow h.below (by omega) _, h.h1, h.h2, h.x.setRow _, h.a.setRow_other (by omega) _, h.y.setRow_other (by omega) _, h.b.setRow_other (by omega) _⟩
theorem RcSt.setA (h : RcSt w W c1 c2 x y a b) (i : Nat) (v : Bool) : RcSt w (W.setCell ⟨c1 + 1, i, none⟩ (.bool v)) c1 c2 x y (updT a i v) b := by
  have := h.h1
  have := h.h2
  rw [h.a.setCell]
  exact ⟨below_setRow h.below (by omega) _, h.h1, h.h2, h.x.setRow_other (by omega) _, by rw [rowT_set]; exact h.a.setRow _, h.y.setRow_other (by omega) _, h.b.setRow_other (by omega) _⟩
end
theorem made_two {w w1 : World} (hb : Below w.heap.size w w1) (x : Nat → BitVec 8) (T : Nat → Bool) :
    Below w.heap.size w ((((w1.alloc (.cells (row 64 fun _ => 0#8) 22)).alloc (.cells (rowT 64 fun _ => false) 43)).setRow w1.heap.size (row 64 x)).setRow (w1.heap.size + 1) (rowT 64 T)) ∧
    Blk ((((w1.alloc (.cells (row 64 fun _ => 0#8) 22)).alloc (.cells (rowT 64 fun _ => false) 43)).setRow w1.heap.size (row 64 x)).setRow (w1.heap.size + 1) (rowT 64 T)) w1.heap.size (row 64 x) 22 ∧
    Blk ((((w1.alloc (.cells (row 64 fun _ => 0#8) 22)).alloc (.cells (rowT 64 fun _ => false) 43)).setRow w1.heap.size (row 64 x)).setRow (w1.heap.size + 1) (rowT 64 T)) (w1.heap.size + 1) (rowT 64 T) 43 ∧
    ∀ g cs t, Blk w1 g cs t → Blk ((((w1.alloc (.cells (row 64 fun _ => 0#8) 22)).alloc (.cells (rowT 64 fun _ => false) 43)).setRow w1.heap.size (row 64 x)).setRow (w1.heap.size + 1) (rowT 64 T)) g cs t := by
  have hsz := hb.size
  have h2 : Blk ((w1.alloc (.cells (row 64 fun _ => 0#8) 22)).alloc (.cells (rowT 64 fun _ => false) 43)) (w1.heap.size + 1) (rowT 64 fun _ => false) 43 := by
    have h := Blk.alloc_new (w1.alloc (.cells (row 64 fun _ => 0#8) 22)) (rowT 64 fun _ => false) 43
    rwa [show (w1.alloc (.cells (row 64 fun _ => 0#8) 22)).heap.size = w1.heap.size + 1 by simp] at h
  exact ⟨below_setRow (below_setRow ((hb.alloc hsz _).alloc (by simp; omega) _) (by omega) _) (by omega) _,
    (((Blk.alloc_new w1 _ _).alloc _).setRow _).setRow_other (by omega) _, (h2.setRow_other (by omega) _).setRow _,
    fun g cs t h => (((h.alloc _).alloc _).setRow_other (by have := h.lt; omega) _).setRow_other (by have := h.lt; omega) _⟩
def mixT (a b : Nat → Bool) (i : Nat) : Nat → Bool := fun j => if j < i ∧ b j = true then true else a j
theorem mixT_zero (a b : Nat → Bool) : mixT a b 0 = a := by funext j; simp [mixT]
theorem mixT_yes {a b : Nat → Bool} {i : Nat} (h : b i = true) : updT (mixT a b i) i true = mixT a b (i + 1) := by
  funext j
  unfold updT mixT
  by_cases e : j = i
  · subst e; rw [if_pos rfl, if_pos ⟨by omega, h⟩]
  · rw [if_neg e]
    by_cases h1 : j < i ∧ b j = true
    · rw [if_pos h1, if_pos ⟨by omega, h1.2⟩]
    · rw [if_neg h1, if_neg (fun h2 => h1 ⟨by omega, h2.2⟩)]
theorem mixT_no {a b : Nat → Bool} {i : Nat} (h : b i = false) : mixT a b i = mixT a b (i + 1) := by
  funext j
  unfold mixT
  by_cases e : j = i
  · subst e; simp [h]
  · by_cases h1 : j < i ∧ b j = true
    · rw [if_pos h1, if_pos ⟨by omega, h1.2⟩]
    · rw [if_neg h1, if_neg (fun h2 => h1 ⟨by omega, h2.2⟩)]
theorem pc_mix (p1 p2 : List Piece) : pc (mixT (marks (fun _ => false) p1) (marks (fun _ => false) p2) 64) (mix (puts (fun _ => 0#8) p1) (puts (fun _ => 0#8) p2) (marks (fun _ => false) p2) 64) 0 = pc (marks (marks (fun _ => false) p1) p2) (puts (puts (fun _ => 0#8) p1) p2) 0 :=
  pc_congr (fun j hj => by
    rw [marks_or j p2]
    unfold mixT
    by_cases h : marks (fun _ => false) p2 j = true
    · rw [if_pos ⟨hj, h⟩, h, Bool.or_true]
    · rw [if_neg (fun h' => h h'.2), show marks (fun _ => false) p2 j = false by simpa using h, Bool.or_false])
    (fun j hj _ => by
      rw [puts_eq j p2 (puts (fun _ => 0#8) p1) (fun _ => 0#8)]
      unfold mix
      by_cases h : marks (fun _ => false) p2 j = true
      · rw [if_pos ⟨hj, h⟩, if_pos h]
      · rw [if_neg (fun h' => h h'.2), if_neg h]) 64 0 (by omega)
/-- What the document's Compose hands back. -/
def rcV (d e : ByteArray) : Value := if (read 0 (bl d)).2 = true ∧ (read 0 (bl e)).2 = true then .tuple #[.string (str (pc (coT d e) (coB d e) 0)), .bool true] else .tuple #[.string ByteArray.empty, .bool false]
set_option maxRecDepth 100000 in
set_option maxHeartbeats 4000000 in
theorem refcompose_yes (d e : ByteArray) (hd : d.size ≤ 140737488351232) (he : e.size ≤ 140737488351232) (v1 : (read 0 (bl d)).2 = true) (v2 : (read 0 (bl e)).2 = true) (w : World) :
    Calls Try.prog 17 #[.string d, .string e] w fun r w' => r = .returned (.tuple #[.string (str (pc (coT d e) (coB d e) 0)), .bool true]) ∧ Below w.heap.size w w' := by
  have hz22 := (zero_row info22).1
  have hz43 := (zero_rowT info43).1
  have hR1 := hid (rdV_yes v1)
  have hR2 := hid (rdV_yes v2)
  have hpm := hid (pc_mix (read 0 (bl d)).1 (read 0 (bl e)).1)
  change Hid (_ = pc (coT d e) (coB d e) 0) at hpm
  generalize puts (fun _ => 0#8) (read 0 (bl d)).1 = x at hR1 hpm
  generalize marks (fun _ => false) (read 0 (bl d)).1 = T at hR1 hpm
  generalize puts (fun _ => 0#8) (read 0 (bl e)).1 = y at hR2 hpm
  generalize marks (fun _ => false) (read 0 (bl e)).1 = U at hR2 hpm
  generalize pc (coT d e) (coB d e) 0 = L at *
  clear v1 v2
  have t1 : True := trivial
  go_enter Try.func17, Try.ntmps17
  go_wp2_with (first
    | (go_at_call 21; have tok := hid t1; clear t1; refine (read_any d hd _).mono ?_; rintro r w1 ⟨rfl, hb1⟩; rw [hR1.out])
    | (go_at_call 21; refine (read_any e he _).mono ?_; rintro r w2 ⟨rfl, hb2⟩; rw [hR2.out])
    | (refine wpList_store_blk rfl 22 _ _ rfl w1.heap.size 64 (fun _ => 0#8) x 22 ((Blk.alloc_new w1 _ _).alloc _) rfl rfl (zero_row info22).2 ?_)
    | (refine wpList_store_rowT rfl 43 _ _ rfl (w1.heap.size + 1) 64 (fun _ => false) T 43 ((by have h := Blk.alloc_new (w1.alloc (.cells (row 64 fun _ => 0#8) 22)) (rowT 64 fun _ => false) 43; rw [show (w1.alloc (.cells (row 64 fun _ => 0#8) 22)).heap.size = w1.heap.size + 1 by simp] at h; exact h.setRow_other (by omega) _)) rfl rfl (zero_rowT info43).2 ?_)
    | (refine wpList_store_blk rfl 22 _ _ rfl w2.heap.size 64 (fun _ => 0#8) y 22 ((Blk.alloc_new w2 _ _).alloc _) rfl rfl (zero_row info22).2 ?_)
    | (refine wpList_store_rowT rfl 43 _ _ rfl (w2.heap.size + 1) 64 (fun _ => false) U 43 ((by have h := Blk.alloc_new (w2.alloc (.cells (row 64 fun _ => 0#8) 22)) (rowT 64 fun _ => false) 43; rw [show (w2.alloc (.cells (row 64 fun _ => 0#8) 22)).heap.size = w2.heap.size + 1 by simp] at h; exact h.setRow_other (by omega) _)) rfl rfl (zero_rowT info43).2 ?_))
  obtain ⟨M1, M2, M3, M4⟩ := made_two hb1 x T
  have N2 := M2.below hb2
  have N3 := M3.below hb2
  obtain ⟨K1, K2, K3, K4⟩ := made_two (below_go M1 hb2) y U
  have hs : RcSt w _ w1.heap.size w2.heap.size x y T U := ⟨K1, hb1.size, by have := hb2.size; simp at this; omega, K4 _ _ _ N2, K4 _ _ _ N3, K2, K3⟩
  clear M1 M2 M3 M4 N2 N3 K1 K2 K3 K4 hb1 hb2 hz22 hz43
  generalize (((w2.alloc (Obj.cells (row 64 fun _ => 0#8) 22)).alloc (Obj.cells (rowT 64 fun _ => false) 43)).setRow w2.heap.size (row 64 y)).setRow (w2.heap.size + 1) (rowT 64 U) = w3 at *
  generalize w1.heap.size = c1 at *
  generalize w2.heap.size = c2 at *
  go_loopw [12] (fun i wr => ∃ k : Nat, i = .int .i64 k ∧ k ≤ 64 ∧ RcSt w wr c1 c2 (mix x y U k) y (mixT T U k) U) (fun i _ => 64 - (intOf i).toNat)
  case atStart => exact ⟨0, rfl, by omega, by rw [mix_zero, mixT_zero]; exact hs⟩
  case round =>
    clear hs
    obtain ⟨k, rfl, hk, hs⟩ := hrel
    by_cases hlt : (k : Int) < 64
    · have hlt' : k < 64 := by omega
      have q1 := hs.b.bit hlt'
      cases hT : U k with
      | true =>
        rw [hT] at q1
        have q2 := hs.y.byte hlt'
        have q3 := hs.x.byte hlt'
        have g3 := hs.x.free k
        have q4 := hs.a.bit hlt'
        have g4 := hs.a.free k
        have hn := (hs.setX k (y k)).setA k true
        rw [mix_yes hT, mixT_yes hT] at hn
        replace hn := hid hn
        have z1 := hs.h1
        have z2 := hs.h2
        clear hT
        go_wp2
        go_roundw
        case rel => exact ⟨k + 1, by go_num, by omega, hn.out⟩
        case measure => simp [intOf]; omega
      | false =>
        rw [hT] at q1
        rw [mix_no hT, mixT_no hT] at hs
        clear hT
        go_wp2
        go_roundw
        case rel => exact ⟨k + 1, by go_num, by omega, hs⟩
        case measure => simp [intOf]; omega
    · obtain rfl : k = 64 := by omega
      go_wp2_with (first
        | (refine wpList_load_g 22 _ c1 64 (mix x y U 64) 22 5 hs.x Try.underlying22 (zero_row info22).2 rfl rfl rfl ?_)
        | (refine wpList_load_rowT rfl 43 _ rfl (c1 + 1) 64 (mixT T U 64) 43 hs.a rfl 4 Try.underlying43 (zero_rowT info43).2 ?_)
        | (go_at_call 18; refine (pieces_any _ _ _).mono ?_; rintro r w' ⟨rfl, hb⟩; rw [hpm.out]))
      go_ret2
      exact ⟨rfl, below_go hs.below hb⟩
set_option maxRecDepth 100000 in
set_option maxHeartbeats 4000000 in
theorem refcompose_no (d e : ByteArray) (hd : d.size ≤ 140737488351232) (he : e.size ≤ 140737488351232) (v : ¬ ((read 0 (bl d)).2 = true ∧ (read 0 (bl e)).2 = true)) (w : World) :
    Calls Try.prog 17 #[.string d, .string e] w fun r w' => r = .returned (.tuple #[.string ByteArray.empty, .bool false]) ∧ Below w.heap.size w w' := by
  have hz22 := (zero_row info22).1
  have hz43 := (zero_rowT info43).1
  have hR1 : ∃ x T, rdV d = .tuple #[.agg (row 64 x), .agg (rowT 64 T), .bool (read 0 (bl d)).2] := ⟨_, _, rfl⟩
  have hR2 : ∃ x T, rdV e = .tuple #[.agg (row 64 x), .agg (rowT 64 T), .bool (read 0 (bl e)).2] := ⟨_, _, rfl⟩
  obtain ⟨x, T, hR1⟩ := hR1
  obtain ⟨y, U, hR2⟩ := hR2
  have t1 : True := trivial
  have hor : (read 0 (bl d)).2 = false ∨ ((read 0 (bl d)).2 = true ∧ (read 0 (bl e)).2 = false) := by
    cases h1 : (read 0 (bl d)).2
    · exact .inl rfl
    · cases h2 : (read 0 (bl e)).2
      · exact .inr ⟨rfl, rfl⟩
      · exact absurd ⟨h1, h2⟩ v
  clear v
  rcases hor with h1 | ⟨h1, h2⟩
  · rw [h1] at hR1
    generalize (read 0 (bl e)).2 = v2 at *
    replace hR1 := hid hR1
    replace hR2 := hid hR2
    clear h1
    go_enter Try.func17, Try.ntmps17
    go_wp2_with (first
      | (go_at_call 21; have tok := hid t1; clear t1; refine (read_any d hd _).mono ?_; rintro r w1 ⟨rfl, hb1⟩; rw [hR1.out])
      | (go_at_call 21; refine (read_any e he _).mono ?_; rintro r w2 ⟨rfl, hb2⟩; rw [hR2.out])
      | (refine wpList_store_blk rfl 22 _ _ rfl w1.heap.size 64 (fun _ => 0#8) x 22 ((Blk.alloc_new w1 _ _).alloc _) rfl rfl (zero_row info22).2 ?_)
      | (refine wpList_store_rowT rfl 43 _ _ rfl (w1.heap.size + 1) 64 (fun _ => false) T 43 ((by have h := Blk.alloc_new (w1.alloc (.cells (row 64 fun _ => 0#8) 22)) (rowT 64 fun _ => false) 43; rw [show (w1.alloc (.cells (row 64 fun _ => 0#8) 22)).heap.size = w1.heap.size + 1 by simp] at h; exact h.setRow_other (by omega) _)) rfl rfl (zero_rowT info43).2 ?_)
      | (refine wpList_store_blk rfl 22 _ _ rfl w2.heap.size 64 (fun _ => 0#8) y 22 ((Blk.alloc_new w2 _ _).alloc _) rfl rfl (zero_row info22).2 ?_)
      | (refine wpList_store_rowT rfl 43 _ _ rfl (w2.heap.size + 1) 64 (fun _ => false) U 43 ((by have h := Blk.alloc_new (w2.alloc (.cells (row 64 fun _ => 0#8) 22)) (rowT 64 fun _ => false) 43; rw [show (w2.alloc (.cells (row 64 fun _ => 0#8) 22)).heap.size = w2.heap.size + 1 by simp] at h; exact h.setRow_other (by omega) _)) rfl rfl (zero_rowT info43).2 ?_))
    go_ret2
    have M1 := (made_two hb1 x T).1
    exact ⟨rfl, (made_two (below_go M1 hb2) y U).1⟩
  · rw [h1] at hR1
    rw [h2] at hR2
    replace hR1 := hid hR1
    replace hR2 := hid hR2
    clear h1 h2
    go_enter Try.func17, Try.ntmps17
    go_wp2_with (first
      | (go_at_call 21; have tok := hid t1; clear t1; refine (read_any d hd _).mono ?_; rintro r w1 ⟨rfl, hb1⟩; rw [hR1.out])
      | (go_at_call 21; refine (read_any e he _).mono ?_; rintro r w2 ⟨rfl, hb2⟩; rw [hR2.out])
      | (refine wpList_store_blk rfl 22 _ _ rfl w1.heap.size 64 (fun _ => 0#8) x 22 ((Blk.alloc_new w1 _ _).alloc _) rfl rfl (zero_row info22).2 ?_)
      | (refine wpList_store_rowT rfl 43 _ _ rfl (w1.heap.size + 1) 64 (fun _ => false) T 43 ((by have h := Blk.alloc_new (w1.alloc (.cells (row 64 fun _ => 0#8) 22)) (rowT 64 fun _ => false) 43; rw [show (w1.alloc (.cells (row 64 fun _ => 0#8) 22)).heap.size = w1.heap.size + 1 by simp] at h; exact h.setRow_other (by omega) _)) rfl rfl (zero_rowT info43).2 ?_)
      | (refine wpList_store_blk rfl 22 _ _ rfl w2.heap.size 64 (fun _ => 0#8) y 22 ((Blk.alloc_new w2 _ _).alloc _) rfl rfl (zero_row info22).2 ?_)
      | (refine wpList_store_rowT rfl 43 _ _ rfl (w2.heap.size + 1) 64 (fun _ => false) U 43 ((by have h := Blk.alloc_new (w2.alloc (.cells (row 64 fun _ => 0#8) 22)) (rowT 64 fun _ => false) 43; rw [show (w2.alloc (.cells (row 64 fun _ => 0#8) 22)).heap.size = w2.heap.size + 1 by simp] at h; exact h.setRow_other (by omega) _)) rfl rfl (zero_rowT info43).2 ?_))
    go_ret2
    have M1 := (made_two hb1 x T).1
    exact ⟨rfl, (made_two (below_go M1 hb2) y U).1⟩
theorem refcompose_any (d e : ByteArray) (hd : d.size ≤ 140737488351232) (he : e.size ≤ 140737488351232) (w : World) :
    Calls Try.prog 17 #[.string d, .string e] w fun r w' => r = .returned (rcV d e) ∧ Below w.heap.size w w' := by
  by_cases h : (read 0 (bl d)).2 = true ∧ (read 0 (bl e)).2 = true
  · exact (refcompose_yes d e hd he h.1 h.2 w).mono fun r w' ⟨hr, hb⟩ => ⟨by rw [hr, rcV, if_pos h], hb⟩
  · exact (refcompose_no d e hd he h w).mono fun r w' ⟨hr, hb⟩ => ⟨by rw [hr, rcV, if_neg h], hb⟩
end Go.Proofs.Ytlnfolikociodaa
