/- The walks of clock. -/
import Derived.Test.YtbibfoahlieccaaProg
import Derived.Test.YtbibfoahlieccaaRowV
import Derived.Test.YtbibfoahlieccaaRegK
import Derived.Test.YtbibfoahlieccaaP
import Derived.WalkKit
import Derived.Outline
import Derived.IntWalk
import Derived.WalkLawsBesides
import Derived.LoopTactic
import Derived.Laws.MakeOwn
namespace Go.Proofs.Ytbibfoahlieccaa
open Go.RowKit
set_option linter.unusedSimpArgs false
set_option linter.unusedVariables false
theorem ret_int {k : IntKind} {a b : Int} (h : a = b) : Ending.returned (.int k a) = .returned (.int k b) := by rw [h]
theorem ret_bool {a b : Bool} (h : a = b) : Ending.returned (.bool a) = .returned (.bool b) := by rw [h]
def bV (f : Nat → Bool) : Nat → Value := fun j => .bool (f j)
def iV (f : Nat → Int) : Nat → Value := fun j => .int .i64 (f j)
def slv (b n : Nat) : Value := .slice (some ⟨b, 0, none⟩) n n
/-- A clock's blocks. -/
structure Bl where
  c : Nat
  s : Nat
  k : Nat
  p : Nat
def Bl.foot (b : Bl) : Nat → Prop := fun i => i = b.c ∨ i = b.s ∨ i = b.k ∨ i = b.p
/-- The blocks b are a clock over n frames. -/
structure CS (w : World) (b : Bl) (n : Nat) (C : P.Ck) : Prop where
  c : Blk w b.c #[.int .i64 C.h, .slice (some ⟨b.s, 0, none⟩) n n, .slice (some ⟨b.k, 0, none⟩) n n, .slice (some ⟨b.p, 0, none⟩) n n] 45
  s : Blk w b.s (rowV n (bV C.seen)) 4
  k : Blk w b.k (rowV n (bV C.cold)) 4
  p : Blk w b.p (rowV n (iV C.pins)) 3
  ne : b.c ≠ b.s ∧ b.c ≠ b.k ∧ b.c ≠ b.p ∧ b.s ≠ b.k ∧ b.s ≠ b.p ∧ b.k ≠ b.p
  h : C.h < n
  n64 : n ≤ 64
section
variable {w w' : World} {b : Bl} {n : Nat} {C : P.Ck}
theorem CS.fr (h : CS w b n C) {S : Nat → Prop} (k : Fr S w w') (hn : ∀ i, b.foot i → ¬ S i) : CS w' b n C :=
  ⟨h.c.fr k (hn _ (.inl rfl)), h.s.fr k (hn _ (.inr (.inl rfl))), h.k.fr k (hn _ (.inr (.inr (.inl rfl)))), h.p.fr k (hn _ (.inr (.inr (.inr rfl)))), h.ne, h.h, h.n64⟩
theorem CS.go (h : CS w b n C) (k : Below w.heap.size w w') : CS w' b n C := h.fr (Fr.of_below k fun _ => False) fun _ _ h => h
theorem CS.drew (h : CS w b n C) : CS w.drew b n C := ⟨h.c, h.s, h.k, h.p, h.ne, h.h, h.n64⟩
theorem CS.drewN (h : CS w b n C) (m : Nat) : CS (w.drewN m) b n C := ⟨h.c, h.s, h.k, h.p, h.ne, h.h, h.n64⟩
theorem CS.lt (h : CS w b n C) : ∀ i, b.foot i → i < w.heap.size := by
  rintro i (rfl | rfl | rfl | rfl)
  · exact h.c.lt
  · exact h.s.lt
  · exact h.k.lt
  · exact h.p.lt
theorem CS.c0 (h : CS w b n C) : w.cell? ⟨b.c, 0, none⟩ = some (.int .i64 C.h) := by rw [h.c.cell]; rfl
theorem CS.c1 (h : CS w b n C) : w.cell? ⟨b.c, 1, none⟩ = some (.slice (some ⟨b.s, 0, none⟩) n n) := by rw [h.c.cell]; rfl
theorem CS.c2 (h : CS w b n C) : w.cell? ⟨b.c, 2, none⟩ = some (.slice (some ⟨b.k, 0, none⟩) n n) := by rw [h.c.cell]; rfl
theorem CS.c3 (h : CS w b n C) : w.cell? ⟨b.c, 3, none⟩ = some (.slice (some ⟨b.p, 0, none⟩) n n) := by rw [h.c.cell]; rfl
theorem CS.vs (h : CS w b n C) {i : Nat} (hi : i < n) : w.cell? ⟨b.s, i, none⟩ = some (.bool (C.seen i)) := h.s.val hi
theorem CS.vk (h : CS w b n C) {i : Nat} (hi : i < n) : w.cell? ⟨b.k, i, none⟩ = some (.bool (C.cold i)) := h.k.val hi
theorem CS.vp (h : CS w b n C) {i : Nat} (hi : i < n) : w.cell? ⟨b.p, i, none⟩ = some (.int .i64 (C.pins i)) := h.p.val hi
theorem CS.setSeen (h : CS w b n C) (i : Nat) (v : Bool) : CS (w.setCell ⟨b.s, i, none⟩ (.bool v)) b n { C with seen := P.upd C.seen i v } := by
  obtain ⟨n1, n2, n3, n4, n5, n6⟩ := h.ne
  rw [h.s.setCell]
  refine ⟨h.c.setRow_other n1 _, ?_, h.k.setRow_other (Ne.symm n4) _, h.p.setRow_other (Ne.symm n5) _, h.ne, h.h, h.n64⟩
  have := h.s.setRow ((rowV n (bV C.seen)).setIfInBounds i (.bool v))
  rw [rowV_set] at this ⊢
  rw [rowV_congr (g := bV (P.upd C.seen i v)) (fun j _ => by unfold bV P.upd; split <;> simp_all)] at this ⊢
  exact this
theorem CS.setCold (h : CS w b n C) (i : Nat) (v : Bool) : CS (w.setCell ⟨b.k, i, none⟩ (.bool v)) b n { C with cold := P.upd C.cold i v } := by
  obtain ⟨n1, n2, n3, n4, n5, n6⟩ := h.ne
  rw [h.k.setCell]
  refine ⟨h.c.setRow_other n2 _, h.s.setRow_other n4 _, ?_, h.p.setRow_other (Ne.symm n6) _, h.ne, h.h, h.n64⟩
  have := h.k.setRow ((rowV n (bV C.cold)).setIfInBounds i (.bool v))
  rw [rowV_set] at this ⊢
  rw [rowV_congr (g := bV (P.upd C.cold i v)) (fun j _ => by unfold bV P.upd; split <;> simp_all)] at this ⊢
  exact this
theorem CS.setPins (h : CS w b n C) (i : Nat) (v : Int) : CS (w.setCell ⟨b.p, i, none⟩ (.int .i64 v)) b n { C with pins := P.upd C.pins i v } := by
  obtain ⟨n1, n2, n3, n4, n5, n6⟩ := h.ne
  rw [h.p.setCell]
  refine ⟨h.c.setRow_other n3 _, h.s.setRow_other n5 _, h.k.setRow_other n6 _, ?_, h.ne, h.h, h.n64⟩
  have := h.p.setRow ((rowV n (iV C.pins)).setIfInBounds i (.int .i64 v))
  rw [rowV_set] at this ⊢
  rw [rowV_congr (g := iV (P.upd C.pins i v)) (fun j _ => by unfold iV P.upd; split <;> simp_all)] at this ⊢
  exact this
theorem CS.setHand (h : CS w b n C) (v : Nat) (hv : v < n) : CS (w.setCell ⟨b.c, 0, none⟩ (.int .i64 v)) b n { C with h := v } := by
  obtain ⟨n1, n2, n3, n4, n5, n6⟩ := h.ne
  rw [h.c.setCell]
  exact ⟨h.c.setRow _, h.s.setRow_other (Ne.symm n1) _, h.k.setRow_other (Ne.symm n2) _, h.p.setRow_other (Ne.symm n3) _, h.ne, hv, h.n64⟩
theorem CS.frS (h : CS w b n C) (i : Nat) (v : Value) : Fr b.foot w (w.setCell ⟨b.s, i, none⟩ v) := (Fr.refl _ _).setCell _ _ fun _ => .inr (.inl rfl)
theorem CS.frK (h : CS w b n C) (i : Nat) (v : Value) : Fr b.foot w (w.setCell ⟨b.k, i, none⟩ v) := (Fr.refl _ _).setCell _ _ fun _ => .inr (.inr (.inl rfl))
theorem CS.frP (h : CS w b n C) (i : Nat) (v : Value) : Fr b.foot w (w.setCell ⟨b.p, i, none⟩ v) := (Fr.refl _ _).setCell _ _ fun _ => .inr (.inr (.inr rfl))
theorem CS.frC (h : CS w b n C) (i : Nat) (v : Value) : Fr b.foot w (w.setCell ⟨b.c, i, none⟩ v) := (Fr.refl _ _).setCell _ _ fun _ => .inl rfl
end
def hasB (n : Nat) (i : Int) : Bool := decide (0 ≤ i ∧ i < n)
set_option maxRecDepth 100000 in
set_option maxHeartbeats 1000000 in
theorem has_any {w : World} {b : Bl} {n : Nat} {C : P.Ck} (h : CS w b n C) (i : Int) :
    Calls Try.prog 22 #[.pointer (some ⟨b.c, 0, none⟩), .int .i64 i] w fun e w' => e = .returned (.bool (hasB n i)) ∧ w = w' := by
  have c3 := h.c3
  have hor : i < 0 ∨ (0 ≤ i ∧ i < n) ∨ (0 ≤ i ∧ (n : Int) ≤ i) := by omega
  rcases hor with h1 | ⟨h1, h2⟩ | ⟨h1, h2⟩
  all_goals
    go_enter Try.func22, Try.ntmps22
    go_wp2
    go_ret
  · exact ⟨ret_bool (by unfold hasB; simp; try omega), rfl⟩
  · exact ⟨ret_bool (by unfold hasB; simp; try omega), rfl⟩
  · exact ⟨ret_bool (by unfold hasB; simp; try omega), rfl⟩
theorem has_nil (w : World) (i : Int) : Calls Try.prog 22 #[.pointer none, .int .i64 i] w fun e w' => e = .returned (.bool false) ∧ w = w' := by
  go_enter Try.func22, Try.ntmps22
  go_wp2
  go_ret
  exact ⟨rfl, rfl⟩
theorem hasB_yes {n : Nat} {i : Int} (h : 0 ≤ i ∧ i < n) : hasB n i = true := by unfold hasB; simp [h]
theorem hasB_no {n : Nat} {i : Int} (h : ¬ (0 ≤ i ∧ i < n)) : hasB n i = false := by unfold hasB; rw [decide_eq_false_iff_not]; exact h
set_option maxRecDepth 100000 in
set_option maxHeartbeats 1000000 in
theorem pins_any {w : World} {b : Bl} {n : Nat} {C : P.Ck} (h : CS w b n C) (i : Int) :
    Calls Try.prog 14 #[.pointer (some ⟨b.c, 0, none⟩), .int .i64 i] w fun e w' => e = .returned (.int .i64 (if 0 ≤ i ∧ i < n then C.pins i.toNat else 0)) ∧ w = w' := by
  have c3 := h.c3
  by_cases hi : 0 ≤ i ∧ i < n
  · obtain ⟨k, rfl⟩ : ∃ k : Nat, i = k := ⟨i.toNat, by omega⟩
    have hk : k < n := by omega
    rw [if_pos hi]
    have cp := h.vp hk
    have hb := Lib.hid (hasB_yes hi)
    clear hi
    go_enter Try.func14, Try.ntmps14
    go_wp2_with fail
    refine (has_any h k).mono ?_
    rintro e w' ⟨rfl, rfl⟩
    rw [hb.out]
    go_wp2_with fail
    go_ret
    exact ⟨rfl, rfl⟩
  · rw [if_neg hi]
    have hb := Lib.hid (hasB_no hi)
    clear hi
    go_enter Try.func14, Try.ntmps14
    go_wp2_with fail
    refine (has_any h i).mono ?_
    rintro e w' ⟨rfl, rfl⟩
    rw [hb.out]
    go_wp2_with fail
    go_ret
    exact ⟨rfl, rfl⟩
theorem pins_nil (w : World) (i : Int) : Calls Try.prog 14 #[.pointer none, .int .i64 i] w fun e w' => e = .returned (.int .i64 0) ∧ w = w' := by
  go_enter Try.func14, Try.ntmps14
  go_wp2_with fail
  refine (has_nil w i).mono ?_
  rintro e w' ⟨rfl, rfl⟩
  go_wp2_with fail
  go_ret
  exact ⟨rfl, rfl⟩
theorem touch_nil (w : World) (i : Int) (is : Bool) : Calls Try.prog 17 #[.pointer none, .int .i64 i] w fun e w' => e = .returned (.tuple #[]) ∧ w = w' := by
  go_enter Try.func17, Try.ntmps17
  go_wp2_with fail
  refine (has_nil w i).mono ?_
  rintro e w' ⟨rfl, rfl⟩
  go_wp2_with fail
  go_end0
  exact ⟨rfl, rfl⟩
theorem pin_nil (w : World) (i : Int) (is : Bool) : Calls Try.prog 18 #[.pointer none, .int .i64 i] w fun e w' => e = .returned (.tuple #[]) ∧ w = w' := by
  go_enter Try.func18, Try.ntmps18
  go_wp2_with fail
  refine (has_nil w i).mono ?_
  rintro e w' ⟨rfl, rfl⟩
  go_wp2_with fail
  go_end0
  exact ⟨rfl, rfl⟩
theorem clear_nil (w : World) (i : Int) (is : Bool) : Calls Try.prog 20 #[.pointer none, .int .i64 i] w fun e w' => e = .returned (.tuple #[]) ∧ w = w' := by
  go_enter Try.func20, Try.ntmps20
  go_wp2_with fail
  refine (has_nil w i).mono ?_
  rintro e w' ⟨rfl, rfl⟩
  go_wp2_with fail
  go_end0
  exact ⟨rfl, rfl⟩
theorem cold_nil (w : World) (i : Int) (is : Bool) : Calls Try.prog 15 #[.pointer none, .int .i64 i, .bool is] w fun e w' => e = .returned (.tuple #[]) ∧ w = w' := by
  go_enter Try.func15, Try.ntmps15
  go_wp2_with fail
  refine (has_nil w i).mono ?_
  rintro e w' ⟨rfl, rfl⟩
  go_wp2_with fail
  go_end0
  exact ⟨rfl, rfl⟩
theorem unpin_nil (w : World) (i : Int) : Calls Try.prog 19 #[.pointer none, .int .i64 i] w fun e w' => e = .returned (.bool false) ∧ w = w' := by
  go_enter Try.func19, Try.ntmps19
  go_wp2_with fail
  refine (has_nil w i).mono ?_
  rintro e w' ⟨rfl, rfl⟩
  go_wp2_with fail
  go_ret
  exact ⟨rfl, rfl⟩
theorem victim_nil (w : World) : Calls Try.prog 16 #[.pointer none] w fun e w' => e = .returned (.tuple #[.int .i64 0, .bool false]) ∧ w = w' := by
  go_enter Try.func16, Try.ntmps16
  go_wp2_with fail
  go_ret2
  exact ⟨rfl, rfl⟩
/-- What each call leaves. -/
def Turned (b : Bl) (n : Nat) (w : World) (C : P.Ck) (w' : World) : Prop := CS w' b n C ∧ Fr b.foot w w'
set_option maxRecDepth 100000 in
set_option maxHeartbeats 1000000 in
theorem touch_in {w : World} {b : Bl} {n : Nat} {C : P.Ck} (h : CS w b n C) (k : Nat) (hk : k < n) :
    Calls Try.prog 17 #[.pointer (some ⟨b.c, 0, none⟩), .int .i64 k] w fun e w' => e = .returned (.tuple #[]) ∧ Turned b n w { C with seen := P.upd C.seen k true } w' := by
  have c1 := h.c1
  have c2 := h.c2
  have c3 := h.c3
  have cs := h.vs hk; have fs := h.s.free k
  have hb := Lib.hid (hasB_yes (n := n) (i := (k : Int)) (by omega))
  go_enter Try.func17, Try.ntmps17
  go_wp2_with fail
  refine (has_any h k).mono ?_
  rintro e w' ⟨rfl, rfl⟩
  rw [hb.out]
  go_wp2_with fail
  skip
  go_end0
  exact ⟨rfl, h.setSeen k true, h.frS k _⟩
set_option maxRecDepth 100000 in
set_option maxHeartbeats 1000000 in
theorem cold_in {w : World} {b : Bl} {n : Nat} {C : P.Ck} (h : CS w b n C) (k : Nat) (hk : k < n)(is : Bool) :
    Calls Try.prog 15 #[.pointer (some ⟨b.c, 0, none⟩), .int .i64 k, .bool is] w fun e w' => e = .returned (.tuple #[]) ∧ Turned b n w { C with cold := P.upd C.cold k is } w' := by
  have c1 := h.c1
  have c2 := h.c2
  have c3 := h.c3
  have ck := h.vk hk; have fk := h.k.free k
  have hb := Lib.hid (hasB_yes (n := n) (i := (k : Int)) (by omega))
  go_enter Try.func15, Try.ntmps15
  go_wp2_with fail
  refine (has_any h k).mono ?_
  rintro e w' ⟨rfl, rfl⟩
  rw [hb.out]
  go_wp2_with fail
  skip
  go_end0
  exact ⟨rfl, h.setCold k is, h.frK k _⟩
set_option maxRecDepth 100000 in
set_option maxHeartbeats 1000000 in
theorem pin_in {w : World} {b : Bl} {n : Nat} {C : P.Ck} (h : CS w b n C) (k : Nat) (hk : k < n)(hp : 0 ≤ C.pins k ∧ C.pins k ≤ 1000) :
    Calls Try.prog 18 #[.pointer (some ⟨b.c, 0, none⟩), .int .i64 k] w fun e w' => e = .returned (.tuple #[]) ∧ Turned b n w { C with pins := P.upd C.pins k (C.pins k + 1) } w' := by
  have c1 := h.c1
  have c2 := h.c2
  have c3 := h.c3
  have cp := h.vp hk; have fp := h.p.free k; obtain ⟨p0, p1⟩ := hp
  have hb := Lib.hid (hasB_yes (n := n) (i := (k : Int)) (by omega))
  go_enter Try.func18, Try.ntmps18
  go_wp2_with fail
  refine (has_any h k).mono ?_
  rintro e w' ⟨rfl, rfl⟩
  rw [hb.out]
  go_wp2_with fail
  skip
  go_end0
  exact ⟨rfl, h.setPins k _, h.frP k _⟩
end Go.Proofs.Ytbibfoahlieccaa
