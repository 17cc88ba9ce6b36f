/- The walks of ClockPins and ClockCold. -/
import Derived.Test.YtbibfoahlieccaaArg
namespace Go.Proofs.Ytbibfoahlieccaa
open Go.RowKit
set_option linter.unusedSimpArgs false
set_option linter.unusedVariables false
/-- A clock in a law. -/
structure LS (w0 w : World) (b : Bl) (n : Nat) (C : P.Ck) (m : Nat) : Prop where
  below : Below w0.heap.size w0 w
  cs : CS w b n C
  ok : P.Ok n C m
  base : ∀ i, b.foot i → w0.heap.size ≤ i
section
variable {w0 w w' : World} {b : Bl} {n : Nat} {C C' : P.Ck} {m : Nat}
theorem LS.step (h : LS w0 w b n C m) {C' : P.Ck} (hT : Turned b n w C' w') (hok : P.Ok n C' (m + 1)) : LS w0 w' b n C' (m + 1) :=
  ⟨Fr.below h.below hT.2 (Nat.le_refl _) h.base, hT.1, hok, h.base⟩
theorem LS.go (h : LS w0 w b n C m) (k : Below w.heap.size w w') : LS w0 w' b n C m := ⟨h.below.trans (k.mono h.below.size), h.cs.go k, h.ok, h.base⟩
theorem LS.pin (h : LS w0 w b n C m) (hm : m ≤ 1000) : ∀ j, 0 ≤ C.pins j ∧ C.pins j ≤ 1000 := fun j => ⟨h.ok.lo j, Int.le_trans (h.ok.hi j) (show (m : Int) ≤ 1000 by omega)⟩
end
/-- How many frames a byte asks for. -/
def kOf (x : Int) : Nat := 1 + (x % 12).toNat
theorem kOf_b (x : Int) (h0 : 0 ≤ x) : 1 ≤ kOf x ∧ kOf x ≤ 12 ∧ (kOf x : Int) = 1 + x % 12 := by unfold kOf; omega
theorem pins_nat {w : World} {b : Bl} {n : Nat} {C : P.Ck} (h : CS w b n C) (k : Nat) (hk : k < n) :
    Calls Try.prog 14 #[.pointer (some ⟨b.c, 0, none⟩), .int .i64 k] w fun e w' => e = .returned (.int .i64 (C.pins k)) ∧ w = w' := by
  have := pins_any h k
  rwa [if_pos (by omega)] at this
set_option maxRecDepth 100000 in
set_option maxHeartbeats 4000000 in
theorem pins_walk (x : Int) (hx : 0 ≤ x ∧ x ≤ 255) (ao : Option Addr) (n cap : Nat) (K I : Nat → Int) (S : Nat → Bool) (w : World) (h : OpsAt w ao n K I S) (hn : n ≤ maxLen) :
    Calls Try.prog 4 #[.int .u8 x, .slice ao n cap] w fun e w' => e = .returned (.bool true) ∧ Below w.heap.size w w' := by
  unfold maxLen at hn
  have HO := Lib.hid h
  clear h
  obtain ⟨x0, x1⟩ := hx
  obtain ⟨q1, q2, q3⟩ := kOf_b x x0
  have hq : IntKind.i64.wrap (1 + x % 12) = (kOf x : Int) := by rw [q3]; exact IntWalk.i64_in _ (by omega)
  have HQ := Lib.hid q3
  generalize kOf x = k at *
  clear q3
  go_enter Try.func4, Try.ntmps4
  go_wp2_with fail
  refine (new_in k w q1 (by omega)).mono ?_
  rintro e w1 ⟨b, rfl, hC, hB, hL⟩
  have HST := Lib.hid (⟨hB, hC, P.ok_new q1, hL⟩ : LS w w1 b k P.new 0)
  clear hC hB hL
  go_wp2_with fail
  go_loopw [7] (fun i wr => ∃ m : Nat, i = .int .i64 m ∧ m ≤ 80 ∧ m ≤ n ∧ ∃ C, LS w wr b k C m) (fun i _ => n - (intOf i).toNat)
  case atStart => exact ⟨0, rfl, by omega, by omega, _, HST.out⟩
  case round =>
    clear HST
    obtain ⟨m, rfl, hm, hmn, C, hC⟩ := hrel
    by_cases hlt : (m : Int) < n ∧ (m : Int) < 80
    · obtain ⟨hl1, hl2⟩ := hlt
      obtain ⟨sb, so, rfl, hsb, c0, c1, c2⟩ := HO.out.at_ m (by omega)
      have D0 := Lib.hid c0
      have D1 := Lib.hid c1
      have D2 := Lib.hid c2
      clear c0 c1 c2
      have HC := Lib.hid hC
      clear hC
      generalize K m = kk at *
      generalize I m = ii at *
      generalize S m = ss at *
      go_wp2_with fail
      go_loop [9, 8] (fun j f => ∃ q : Nat, j = .int .i64 q ∧ q ≤ k ∧ f = .bool (P.anyFree C q)) (fun j _ => k - (intOf j).toNat)
      case atStart => exact ⟨0, rfl, by omega, rfl⟩
      case round =>
        obtain ⟨q, rfl, hq', rfl⟩ := hrel
        by_cases hlq : q < k
        · cases hf : P.anyFree C q with
          | true =>
            have hs : Hid (P.anyFree C (q + 1) = true) := by unfold Hid P.anyFree; rw [hf]; rfl
            clear hf
            go_wp2_with fail
            go_round
            case rel => exact ⟨q + 1, by go_num, by omega, by rw [hs.out]⟩
            case measure => simp [intOf]; omega
          | false =>
            have hs : Hid (P.anyFree C (q + 1) = (C.pins q == 0)) := by unfold Hid P.anyFree; rw [hf]; rfl
            clear hf
            go_wp2_with fail
            refine (pins_nat HC.out.cs q hlq).mono ?_
            rintro e w2 ⟨rfl, rfl⟩
            go_wp2_with fail
            go_round
            case rel => exact ⟨q + 1, by go_num, by omega, by rw [hs.out]⟩
            case measure => simp [intOf]; omega
        · obtain rfl : q = k := by omega
          have hC := HC.out
          have d0 : wr.cell? ⟨sb, so + m * 3, none⟩ = some (.int .i64 kk) := by rw [hC.below.cell hsb]; exact D0.out
          have d1 : wr.cell? ⟨sb, so + m * 3 + 1, none⟩ = some (.int .i64 ii) := by rw [hC.below.cell hsb]; exact D1.out
          have d2 : wr.cell? ⟨sb, so + m * 3 + 2, none⟩ = some (.bool ss) := by rw [hC.below.cell hsb]; exact D2.out
          go_wp2_with fail
          refine (do_any hC.cs kk ii ss (hC.pin (by omega))).mono ?_
          rintro e w2 ⟨rfl, hT⟩
          have hC2 := hC.step hT (P.ok_stp hC.ok kk ii ss)
          have d0 : w2.cell? ⟨sb, so + m * 3, none⟩ = some (.int .i64 kk) := by rw [hC2.below.cell hsb]; exact D0.out
          clear d1 d2 hT
          by_cases h5 : kk = 5
          · subst h5
            rw [show P.stp q C 5 ii ss = P.vic q C by unfold P.stp; rw [if_pos rfl]] at hC2 ⊢
            obtain ⟨v1, v2, v3, v4⟩ := P.vic_pins hC.ok
            rw [v1] at v2 ⊢
            cases hf : P.anyFree C q with
            | true =>
              rw [hf] at v2
              obtain ⟨v, e1, e2, e3⟩ := v2 rfl
              rw [e1]
              have cp := pins_nat hC2.cs v e2
              rw [v3, e3] at cp
              clear v1 v2 v3 v4 e1 e3 hC hf
              go_wp2_with fail
              refine cp.mono ?_
              rintro e w3 ⟨rfl, rfl⟩
              go_wp2_with fail
              go_roundw
              case rel => exact ⟨m + 1, by go_num, by omega, by omega, _, hC2⟩
              case measure => simp [intOf]; omega
            | false =>
              clear v1 v2 v3 v4 hC hf
              go_wp2_with fail
              go_roundw
              case rel => exact ⟨m + 1, by go_num, by omega, by omega, _, hC2⟩
              case measure => simp [intOf]; omega
          · have hb5 : (kk == 5) = false := by simp [h5]
            clear h5 hC
            go_wp2_with fail
            go_roundw
            case rel => exact ⟨m + 1, by go_num, by omega, by omega, _, hC2⟩
            case measure => simp [intOf]; omega
    · have hor : (n : Int) ≤ m ∨ ((m : Int) < n ∧ (80 : Int) ≤ m) := by omega
      clear hlt
      rcases hor with h1 | ⟨h1, h2⟩
      all_goals
        go_wp2_with fail
        refine (awake_any _).mono ?_
        rintro e w2 ⟨rfl, hb2⟩
        go_wp2_with fail
        go_ret
        exact ⟨rfl, hC.below.trans (hb2.mono hC.below.size)⟩
end Go.Proofs.Ytbibfoahlieccaa
