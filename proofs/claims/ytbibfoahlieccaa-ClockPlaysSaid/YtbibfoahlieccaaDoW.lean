/- The walks of the laws' do, and of awake. -/
import Derived.Test.YtbibfoahlieccaaVictimW
namespace Go.Proofs.Ytbibfoahlieccaa
open Go.RowKit
set_option linter.unusedSimpArgs false
set_option linter.unusedVariables false
theorem touch_out {w : World} {b : Bl} {n : Nat} {C : P.Ck} (h : CS w b n C) (i : Int) (hi : ¬ (0 ≤ i ∧ i < n)) : Calls Try.prog 17 #[.pointer (some ⟨b.c, 0, none⟩), .int .i64 i] w fun e w' => e = .returned (.tuple #[]) ∧ Turned b n w C w' := by
  have hb := Lib.hid (hasB_no hi)
  clear hi
  go_enter Try.func17, Try.ntmps17
  go_wp2_with fail
  refine (has_any h i).mono ?_
  rintro e w' ⟨rfl, rfl⟩
  rw [hb.out]
  go_wp2_with fail
  go_end0
  exact ⟨rfl, h, Fr.refl _ _⟩
theorem pin_out {w : World} {b : Bl} {n : Nat} {C : P.Ck} (h : CS w b n C) (i : Int) (hi : ¬ (0 ≤ i ∧ i < n)) : Calls Try.prog 18 #[.pointer (some ⟨b.c, 0, none⟩), .int .i64 i] w fun e w' => e = .returned (.tuple #[]) ∧ Turned b n w C w' := by
  have hb := Lib.hid (hasB_no hi)
  clear hi
  go_enter Try.func18, Try.ntmps18
  go_wp2_with fail
  refine (has_any h i).mono ?_
  rintro e w' ⟨rfl, rfl⟩
  rw [hb.out]
  go_wp2_with fail
  go_end0
  exact ⟨rfl, h, Fr.refl _ _⟩
theorem clear_out {w : World} {b : Bl} {n : Nat} {C : P.Ck} (h : CS w b n C) (i : Int) (hi : ¬ (0 ≤ i ∧ i < n)) : Calls Try.prog 20 #[.pointer (some ⟨b.c, 0, none⟩), .int .i64 i] w fun e w' => e = .returned (.tuple #[]) ∧ Turned b n w C w' := by
  have hb := Lib.hid (hasB_no hi)
  clear hi
  go_enter Try.func20, Try.ntmps20
  go_wp2_with fail
  refine (has_any h i).mono ?_
  rintro e w' ⟨rfl, rfl⟩
  rw [hb.out]
  go_wp2_with fail
  go_end0
  exact ⟨rfl, h, Fr.refl _ _⟩
theorem cold_out {w : World} {b : Bl} {n : Nat} {C : P.Ck} (h : CS w b n C) (i : Int)(is : Bool) (hi : ¬ (0 ≤ i ∧ i < n)) : Calls Try.prog 15 #[.pointer (some ⟨b.c, 0, none⟩), .int .i64 i, .bool is] w fun e w' => e = .returned (.tuple #[]) ∧ Turned b n w C w' := by
  have hb := Lib.hid (hasB_no hi)
  clear hi
  go_enter Try.func15, Try.ntmps15
  go_wp2_with fail
  refine (has_any h i).mono ?_
  rintro e w' ⟨rfl, rfl⟩
  rw [hb.out]
  go_wp2_with fail
  go_end0
  exact ⟨rfl, h, Fr.refl _ _⟩
theorem unpin_out {w : World} {b : Bl} {n : Nat} {C : P.Ck} (h : CS w b n C) (i : Int) (hi : ¬ (0 ≤ i ∧ i < n)) : Calls Try.prog 19 #[.pointer (some ⟨b.c, 0, none⟩), .int .i64 i] w fun e w' => e = .returned (.bool false) ∧ Turned b n w C w' := by
  have hb := Lib.hid (hasB_no hi)
  clear hi
  go_enter Try.func19, Try.ntmps19
  go_wp2_with fail
  refine (has_any h i).mono ?_
  rintro e w' ⟨rfl, rfl⟩
  rw [hb.out]
  go_wp2_with fail
  go_ret
  exact ⟨rfl, h, Fr.refl _ _⟩
theorem touch_any {w : World} {b : Bl} {n : Nat} {C : P.Ck} (h : CS w b n C) (i : Int) : Calls Try.prog 17 #[.pointer (some ⟨b.c, 0, none⟩), .int .i64 i] w fun e w' => e = .returned (.tuple #[]) ∧ Turned b n w (P.inn n i { C with seen := P.upd C.seen i.toNat true } C) w' := by
  by_cases hi : 0 ≤ i ∧ i < n
  · rw [P.inn_yes hi]
    obtain ⟨k, rfl⟩ : ∃ k : Nat, i = k := ⟨i.toNat, by omega⟩
    exact touch_in h k (by omega)  
  · rw [P.inn_no hi]
    exact touch_out h i  hi
theorem pin_any {w : World} {b : Bl} {n : Nat} {C : P.Ck} (h : CS w b n C) (i : Int)(hp : ∀ j, 0 ≤ C.pins j ∧ C.pins j ≤ 1000) : Calls Try.prog 18 #[.pointer (some ⟨b.c, 0, none⟩), .int .i64 i] w fun e w' => e = .returned (.tuple #[]) ∧ Turned b n w (P.inn n i { C with pins := P.upd C.pins i.toNat (C.pins i.toNat + 1) } C) w' := by
  by_cases hi : 0 ≤ i ∧ i < n
  · rw [P.inn_yes hi]
    obtain ⟨k, rfl⟩ : ∃ k : Nat, i = k := ⟨i.toNat, by omega⟩
    exact pin_in h k (by omega)  (hp _)
  · rw [P.inn_no hi]
    exact pin_out h i  hi
theorem clear_any {w : World} {b : Bl} {n : Nat} {C : P.Ck} (h : CS w b n C) (i : Int) : Calls Try.prog 20 #[.pointer (some ⟨b.c, 0, none⟩), .int .i64 i] w fun e w' => e = .returned (.tuple #[]) ∧ Turned b n w (P.inn n i { C with seen := P.upd C.seen i.toNat false, cold := P.upd C.cold i.toNat false } C) w' := by
  by_cases hi : 0 ≤ i ∧ i < n
  · rw [P.inn_yes hi]
    obtain ⟨k, rfl⟩ : ∃ k : Nat, i = k := ⟨i.toNat, by omega⟩
    exact clear_in h k (by omega)  
  · rw [P.inn_no hi]
    exact clear_out h i  hi
theorem cold_any {w : World} {b : Bl} {n : Nat} {C : P.Ck} (h : CS w b n C) (i : Int)(is : Bool) : Calls Try.prog 15 #[.pointer (some ⟨b.c, 0, none⟩), .int .i64 i, .bool is] w fun e w' => e = .returned (.tuple #[]) ∧ Turned b n w (P.inn n i { C with cold := P.upd C.cold i.toNat is } C) w' := by
  by_cases hi : 0 ≤ i ∧ i < n
  · rw [P.inn_yes hi]
    obtain ⟨k, rfl⟩ : ∃ k : Nat, i = k := ⟨i.toNat, by omega⟩
    exact cold_in h k (by omega) is 
  · rw [P.inn_no hi]
    exact cold_out h i is hi
theorem unpin_any {w : World} {b : Bl} {n : Nat} {C : P.Ck} (h : CS w b n C) (i : Int) (hp : ∀ j, 0 ≤ C.pins j ∧ C.pins j ≤ 1000) : Calls Try.prog 19 #[.pointer (some ⟨b.c, 0, none⟩), .int .i64 i] w fun e w' => e = .returned (.bool (P.stp n C 2 i false).2.2) ∧ Turned b n w (P.stp n C 2 i false).1 w' := by
  unfold P.stp
  rw [if_neg (by decide)]
  by_cases hi : 0 ≤ i ∧ i < n
  · rw [if_pos hi, if_neg (by decide), if_neg (by decide), if_pos rfl]
    obtain ⟨k, rfl⟩ : ∃ k : Nat, i = k := ⟨i.toNat, by omega⟩
    have := unpin_in h k (by omega) (hp _)
    rw [show ((k : Int)).toNat = k from rfl]
    by_cases hz : C.pins k = 0
    · rw [if_pos hz] at this ⊢
      rw [show (C.pins k == 0) = true by simp [hz]] at this
      exact this
    · rw [if_neg hz] at this ⊢
      rw [show (C.pins k == 0) = false by simp [hz]] at this
      exact this
  · rw [if_neg hi]
    exact unpin_out h i hi
set_option maxRecDepth 100000 in
set_option maxHeartbeats 4000000 in
theorem do_any {w : World} {b : Bl} {n : Nat} {C : P.Ck} (h : CS w b n C) (kk i : Int) (is : Bool) (hp : ∀ j, 0 ≤ C.pins j ∧ C.pins j ≤ 1000) :
    Calls Try.prog 11 #[.pointer (some ⟨b.c, 0, none⟩), .agg #[.int .i64 kk, .int .i64 i, .bool is]] w fun e w' => e = .returned (.tuple #[.int .i64 (P.stp n C kk i is).2.1, .bool (P.stp n C kk i is).2.2]) ∧ Turned b n w (P.stp n C kk i is).1 w' := by
  have h1 := h.go ((Below.refl _ w).alloc (Nat.le_refl _) (.cells #[.int .i64 kk, .int .i64 i, .bool is] 29))
  have f1 : Fr b.foot w (w.alloc (.cells #[.int .i64 kk, .int .i64 i, .bool is] 29)) := (Fr.refl _ w).alloc _
  by_cases e0 : kk = 0
  · subst e0
    have hq : P.stp n C 0 i is = (P.inn n i { C with seen := P.upd C.seen i.toNat true } C, 0, false) := by unfold P.stp P.inn; rw [if_neg (by decide)]; by_cases hi : 0 ≤ i ∧ i < n <;> simp [hi]
    rw [hq]
    go_enter Try.func11, Try.ntmps11
    go_wp2_with fail
    refine (touch_any h1 i).mono ?_
    rintro e w' ⟨rfl, hT, hF⟩
    go_wp2_with fail
    go_ret2
    exact ⟨rfl, hT, f1.trans hF fun _ _ h => h⟩
  by_cases e1 : kk = 1
  · subst e1
    have hq : P.stp n C 1 i is = (P.inn n i { C with pins := P.upd C.pins i.toNat (C.pins i.toNat + 1) } C, 0, false) := by unfold P.stp P.inn; rw [if_neg (by decide)]; by_cases hi : 0 ≤ i ∧ i < n <;> simp [hi]
    rw [hq]
    go_enter Try.func11, Try.ntmps11
    go_wp2_with fail
    refine (pin_any h1 i hp).mono ?_
    rintro e w' ⟨rfl, hT, hF⟩
    go_wp2_with fail
    go_ret2
    exact ⟨rfl, hT, f1.trans hF fun _ _ h => h⟩
  by_cases e2 : kk = 2
  · subst e2
    have hq : P.stp n C 2 i is = ((P.stp n C 2 i false).1, 0, (P.stp n C 2 i false).2.2) := by
      unfold P.stp
      by_cases hi : 0 ≤ i ∧ i < n
      · by_cases hz : C.pins i.toNat = 0
        · simp [hi, hz]
        · simp [hi, hz]
      · simp [hi]
    rw [hq]
    go_enter Try.func11, Try.ntmps11
    go_wp2_with fail
    refine (unpin_any h1 i hp).mono ?_
    rintro e w' ⟨rfl, hT, hF⟩
    go_wp2_with fail
    go_ret2
    exact ⟨rfl, hT, f1.trans hF fun _ _ h => h⟩
  by_cases e3 : kk = 3
  · subst e3
    have hq : P.stp n C 3 i is = (P.inn n i { C with cold := P.upd C.cold i.toNat is } C, 0, false) := by unfold P.stp P.inn; rw [if_neg (by decide)]; by_cases hi : 0 ≤ i ∧ i < n <;> simp [hi]
    rw [hq]
    go_enter Try.func11, Try.ntmps11
    go_wp2_with fail
    refine (cold_any h1 i is).mono ?_
    rintro e w' ⟨rfl, hT, hF⟩
    go_wp2_with fail
    go_ret2
    exact ⟨rfl, hT, f1.trans hF fun _ _ h => h⟩
  by_cases e4 : kk = 4
  · subst e4
    have hq : P.stp n C 4 i is = (P.inn n i { C with seen := P.upd C.seen i.toNat false, cold := P.upd C.cold i.toNat false } C, 0, false) := by unfold P.stp P.inn; rw [if_neg (by decide)]; by_cases hi : 0 ≤ i ∧ i < n <;> simp [hi]
    rw [hq]
    go_enter Try.func11, Try.ntmps11
    go_wp2_with fail
    refine (clear_any h1 i).mono ?_
    rintro e w' ⟨rfl, hT, hF⟩
    go_wp2_with fail
    go_ret2
    exact ⟨rfl, hT, f1.trans hF fun _ _ h => h⟩
  by_cases e5 : kk = 5
  · subst e5
    have hq : P.stp n C 5 i is = P.vic n C := by unfold P.stp; rw [if_pos rfl]
    rw [hq]
    go_enter Try.func11, Try.ntmps11
    go_wp2_with fail
    refine (victim_any h1 fun j => (hp j).1).mono ?_
    rintro e w' ⟨rfl, hT, hF⟩
    go_wp2_with fail
    go_ret2
    exact ⟨rfl, hT, f1.trans hF fun _ _ h => h⟩
  · have hq : P.stp n C kk i is = (C, 0, false) := by unfold P.stp; by_cases hi : 0 ≤ i ∧ i < n <;> simp [hi, e0, e1, e2, e3, e4, e5]
    rw [hq]
    have g0 : (kk == 0) = false := by simp [e0]
    have g1 : (kk == 1) = false := by simp [e1]
    have g2 : (kk == 2) = false := by simp [e2]
    have g3 : (kk == 3) = false := by simp [e3]
    have g4 : (kk == 4) = false := by simp [e4]
    have g5 : (kk == 5) = false := by simp [e5]
    clear e0 e1 e2 e3 e4 e5
    go_enter Try.func11, Try.ntmps11
    go_wp2_with fail
    go_ret2
    exact ⟨rfl, h1, f1⟩
theorem vic_new2 : P.vic 2 P.new = ({ P.new with h := 1, seen := (P.vic 2 P.new).1.seen }, 0, true) ∧ True := ⟨rfl, trivial⟩
set_option maxRecDepth 100000 in
set_option maxHeartbeats 1000000 in
theorem awake_any (w : World) : Calls Try.prog 9 #[] w fun e w' => e = .returned (.bool true) ∧ Below w.heap.size w w' := by
  go_enter Try.func9, Try.ntmps9
  go_wp2_with fail
  refine (new_in 2 w (by omega) (by omega)).mono ?_
  rintro e w1 ⟨b, rfl, hC, hB, hL⟩
  go_wp2_with fail
  refine (victim_any hC fun _ => Int.le_refl _).mono ?_
  rintro e w2 ⟨rfl, hC2, hF2⟩
  rw [show (P.vic 2 P.new).2.1 = 0 from rfl, show (P.vic 2 P.new).2.2 = true from rfl]
  go_wp2_with fail
  refine (victim_any hC2 fun _ => Int.le_refl _).mono ?_
  rintro e w3 ⟨rfl, hC3, hF3⟩
  rw [show (P.vic 2 (P.vic 2 P.new).1).2.1 = 1 from rfl, show (P.vic 2 (P.vic 2 P.new).1).2.2 = true from rfl]
  go_wp2_with fail
  go_ret
  exact ⟨rfl, Fr.below (Fr.below hB hF2 (Nat.le_refl _) hL) hF3 (Nat.le_refl _) hL⟩
set_option maxRecDepth 100000 in
set_option maxHeartbeats 4000000 in
theorem do_nil (w : World) (kk i : Int) (is : Bool) :
    Calls Try.prog 11 #[.pointer none, .agg #[.int .i64 kk, .int .i64 i, .bool is]] w fun e w' => e = .returned (.tuple #[.int .i64 0, .bool false]) ∧ Below w.heap.size w w' := by
  have f1 : Below w.heap.size w (w.alloc (.cells #[.int .i64 kk, .int .i64 i, .bool is] 29)) := (Below.refl _ w).alloc (Nat.le_refl _) _
  by_cases e0 : kk = 0
  · subst e0
    go_enter Try.func11, Try.ntmps11
    go_wp2_with fail
    refine ((touch_nil _ i is)).mono ?_
    rintro e w' ⟨rfl, rfl⟩
    go_wp2_with fail
    go_ret2
    exact ⟨rfl, f1⟩
  by_cases e1 : kk = 1
  · subst e1
    go_enter Try.func11, Try.ntmps11
    go_wp2_with fail
    refine ((pin_nil _ i is)).mono ?_
    rintro e w' ⟨rfl, rfl⟩
    go_wp2_with fail
    go_ret2
    exact ⟨rfl, f1⟩
  by_cases e2 : kk = 2
  · subst e2
    go_enter Try.func11, Try.ntmps11
    go_wp2_with fail
    refine ((unpin_nil _ i)).mono ?_
    rintro e w' ⟨rfl, rfl⟩
    go_wp2_with fail
    go_ret2
    exact ⟨rfl, f1⟩
  by_cases e3 : kk = 3
  · subst e3
    go_enter Try.func11, Try.ntmps11
    go_wp2_with fail
    refine ((cold_nil _ i is)).mono ?_
    rintro e w' ⟨rfl, rfl⟩
    go_wp2_with fail
    go_ret2
    exact ⟨rfl, f1⟩
  by_cases e4 : kk = 4
  · subst e4
    go_enter Try.func11, Try.ntmps11
    go_wp2_with fail
    refine ((clear_nil _ i is)).mono ?_
    rintro e w' ⟨rfl, rfl⟩
    go_wp2_with fail
    go_ret2
    exact ⟨rfl, f1⟩
  by_cases e5 : kk = 5
  · subst e5
    go_enter Try.func11, Try.ntmps11
    go_wp2_with fail
    refine ((victim_nil _)).mono ?_
    rintro e w' ⟨rfl, rfl⟩
    go_wp2_with fail
    go_ret2
    exact ⟨rfl, f1⟩
  · have g0 : (kk == 0) = false := by simp [e0]
    have g1 : (kk == 1) = false := by simp [e1]
    have g2 : (kk == 2) = false := by simp [e2]
    have g3 : (kk == 3) = false := by simp [e3]
    have g4 : (kk == 4) = false := by simp [e4]
    have g5 : (kk == 5) = false := by simp [e5]
    clear e0 e1 e2 e3 e4 e5
    go_enter Try.func11, Try.ntmps11
    go_wp2_with fail
    go_ret2
    exact ⟨rfl, f1⟩
set_option maxRecDepth 100000 in
set_option maxHeartbeats 1000000 in
theorem none_walk (kk i : Int) (is : Bool) (w : World) : Calls Try.prog 7 #[.agg #[.int .i64 kk, .int .i64 i, .bool is]] w fun e w' => e = .returned (.bool true) ∧ Below w.heap.size w w' := by
  go_enter Try.func7, Try.ntmps7
  go_wp2_with fail
  refine (do_nil _ kk i is).mono ?_
  rintro e w1 ⟨rfl, hb⟩
  have c1 : w1.cell? ⟨w.heap.size, 1, none⟩ = some (.int .i64 i) := by
    rw [hb.cell (by simp), (Blk.alloc_new w _ _).cell]; rfl
  go_wp2_with fail
  refine (pins_nil _ _).mono ?_
  rintro e w2 ⟨rfl, rfl⟩
  go_wp2_with fail
  refine (awake_any _).mono ?_
  rintro e w3 ⟨rfl, hb3⟩
  go_wp2_with fail
  go_ret
  have hb2 : Below w.heap.size w w1 := ((Below.refl _ w).alloc (Nat.le_refl _) _).trans (hb.mono (by simp))
  exact ⟨rfl, hb2.trans (hb3.mono hb2.size)⟩
end Go.Proofs.Ytbibfoahlieccaa
