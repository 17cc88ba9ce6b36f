/- The walk of the document's Victim. -/
import Derived.Test.YtbibfoahlieccaaRefTurnW
namespace Go.Proofs.Ytbibfoahlieccaa
open Go.RowKit
set_option linter.unusedSimpArgs false
set_option linter.unusedVariables false
namespace P
theorem pos_full {n h : Nat} (hh : h < n) : pos n h n = h := by have := pos_n (n := n) (h := h) 0; rw [Nat.add_zero] at this; rw [this, pos_zero hh]
theorem vic_hit {n : Nat} {C : Ck} (hh : C.h < n) {k : Nat} (hk : k < n) (hit1 : hit C (pos n C.h k) = true) (hno : ∀ q, q < k → hit C (pos n C.h q) = false) : vic n C = ({ C with h := pos n C.h (k + 1) }, (pos n C.h k : Int), true) := by
  rcases vic1_spec C n C.h hh with ⟨k', hk', h1, h2, h3⟩ | ⟨h1, h2⟩
  · have : k' = k := by
      rcases Nat.lt_trichotomy k' k with h | h | h
      · rw [hno _ h] at h1; cases h1
      · exact h
      · rw [h2 _ h] at hit1; cases hit1
    subst this
    unfold vic; rw [h3]
  · rw [h1 k hk] at hit1; cases hit1
theorem vic_two {n : Nat} {C : Ck} (hh : C.h < n) (hno : ∀ q, q < n → hit C (pos n C.h q) = false) : vic n C = match vic2 n C.pins (2 * n) C.h C.seen with
    | (some v, h', s) => ({ C with h := h', seen := s }, (v : Int), true)
    | (none, h', s) => ({ C with h := h', seen := s }, 0, false) := by
  rcases vic1_spec C n C.h hh with ⟨k', hk', h1, h2, h3⟩ | ⟨h1, h2⟩
  · rw [hno k' hk'] at h1; cases h1
  · unfold vic; rw [h2]; simp only []; rw [pos_full hh]
    rfl
theorem vic2_some {n : Nat} {pins : Nat → Int} {h : Nat} {s : Nat → Bool} (hh : h < n) (hp : ∀ j, 0 ≤ pins j) (hf : ∃ j, j < n ∧ pins j = 0) : ∃ v h' s', vic2 n pins (2 * n) h s = (some v, h', s') := by
  rcases vic2_spec pins (2 * n) h s hh with ⟨k, s', _, _, _, _, _, _, _, h7⟩ | ⟨s', _, _, _, h6, h7⟩
  · exact ⟨_, _, _, h7⟩
  · obtain ⟨j, hj, hz⟩ := hf
    obtain ⟨k, hk, rfl⟩ := pos_all hh hj
    have hfr : free pins (pos n h (n + k)) := by rw [pos_n]; unfold free; omega
    have := (h6 (n + k) (by omega) hfr).2 k (by omega)
    rw [pos_n] at this
    exact absurd rfl this
theorem vic_none {n : Nat} {C : Ck} (hh : C.h < n) (hp : ∀ j, 0 ≤ C.pins j) (hf : ∀ j, j < n → C.pins j ≠ 0) : ∃ s, vic n C = ({ C with seen := s }, 0, false) ∧ ∀ j, j < n → s j = C.seen j := by
  have hno : ∀ q, q < n → hit C (pos n C.h q) = false := fun q _ => by
    have := hf _ (pos_lt hh q)
    simp [hit, this]
  have hnf : ∀ j, j < n → ¬ free C.pins j := fun j hj => by
    have := hf j hj; have := hp j; unfold free; omega
  rcases vic2_spec C.pins (2 * n) C.h C.seen hh with ⟨k, s', _, h1, _⟩ | ⟨s', _, _, h5, _, h7⟩
  · exact absurd h1 (hnf _ (pos_lt hh k))
  · refine ⟨s', ?_, fun j hj => h5 j (hnf j hj)⟩
    rw [vic_two hh hno, h7]
    simp only []
    rw [show 2 * n = n + (n + 0) by omega, pos_n, pos_n, pos_zero hh]
/-- Is there a frame that nobody holds, among the first k from the hand on? -/
def anyf (n : Nat) (C : Ck) : Nat → Bool
  | 0 => false
  | k + 1 => anyf n C k || (C.pins (pos n C.h k) == 0)
theorem anyf_iff (n : Nat) (C : Ck) (k : Nat) : anyf n C k = true ↔ ∃ j, j < k ∧ C.pins (pos n C.h j) = 0 := by
  induction k with
  | zero => simp [anyf]
  | succ k ih =>
    rw [anyf, Bool.or_eq_true, ih]
    constructor
    · rintro (⟨j, h1, h2⟩ | h)
      · exact ⟨j, by omega, h2⟩
      · exact ⟨k, by omega, by simpa using h⟩
    · rintro ⟨j, h1, h2⟩
      by_cases h : j = k
      · subst h; exact .inr (by simpa using h2)
      · exact .inl ⟨j, by omega, h2⟩
theorem anyf_yes {n : Nat} {C : Ck} (hh : C.h < n) (h : anyf n C n = true) : ∃ j, j < n ∧ C.pins j = 0 := by
  obtain ⟨k, hk, h1⟩ := (anyf_iff n C n).1 h
  exact ⟨_, pos_lt hh k, h1⟩
theorem anyf_no {n : Nat} {C : Ck} (hh : C.h < n) (h : anyf n C n = false) : ∀ j, j < n → C.pins j ≠ 0 := fun j hj e => by
  obtain ⟨k, hk, rfl⟩ := pos_all hh hj
  rw [(anyf_iff n C n).2 ⟨k, hk, e⟩] at h; cases h
end P
theorem RC.congr {B : Nat} {w : World} {c g cap n : Nat} {C D : P.Ck} (h : RC B w c g cap n C) (e : C.h = D.h) (hs : ∀ j, j < n → C.seen j = D.seen j) (hc : ∀ j, j < n → C.cold j = D.cold j) (hp : ∀ j, j < n → C.pins j = D.pins j) : RC B w c g cap n D :=
  ⟨h.blk, by rw [← fl_congr h.h e hs hc hp]; exact h.own, h.ne, h.base, e ▸ h.h, h.n64⟩
theorem RC.setS0 {B : Nat} {w : World} {c g cap n : Nat} {C : P.Ck} (h : RC B w c g cap n C) (v : Bool) : RC B (w.setCell ⟨g, 1, none⟩ (.bool v)) c g cap n { C with seen := P.upd C.seen C.h v } ∧ Fr (rfoot c g) w (w.setCell ⟨g, 1, none⟩ (.bool v)) := by
  have := h.setS (p := 0) (by have := h.h; omega) v
  rw [P.pos_zero h.h] at this
  exact this
theorem tn_one {B : Nat} {w : World} {c g cap n : Nat} {C : P.Ck} {x : Nat} {s : Nat → Bool} (h : RC B w c g cap n (tn n { C with h := x, seen := s } 1)) (hx : x < n) : RC B w c g cap n { C with h := P.nx n x, seen := s } := by
  unfold tn at h
  rw [P.pos_one hx] at h
  exact h
set_option maxRecDepth 100000 in
set_option maxHeartbeats 4000000 in
theorem refvic_any {B : Nat} {w : World} {c g cap n : Nat} {C : P.Ck} (h : RC B w c g cap n C) (hp : ∀ j, 0 ≤ C.pins j) :
    Calls Try.prog 13 #[.pointer (some ⟨c, 0, none⟩)] w fun e w' => e = .returned (.tuple #[.int .i64 (P.vic n C).2.1, .bool (P.vic n C).2.2]) ∧ ∃ g' cap', RC B w' c g' cap' n (P.vic n C).1 ∧ Rt c g g' w w' := by
  have c0 := h.c0
  have hh := h.h
  have hn64 := h.n64
  have hn0 : 0 < n := by omega
  have HP := Lib.hid hp
  clear hp
  go_enter Try.func13, Try.ntmps13
  go_wp2_with fail
  go_loop [14] (fun i => ∃ k : Nat, i = .int .i64 k ∧ k ≤ n ∧ Hid (∀ q, q < k → P.hit C (P.pos n C.h q) = false)) (fun i => n - (intOf i).toNat)
  case atStart => exact ⟨0, rfl, by omega, fun q hq => by omega⟩
  case round =>
    obtain ⟨k, rfl, hk, hno⟩ := hrel
    by_cases hlt : k < n
    · have cN := h.cN hlt
      have cC := h.cC hlt
      have cP := h.cP hlt
      have HIT : Hid (P.hit C (P.pos n C.h k) = (C.cold (P.pos n C.h k) && (C.pins (P.pos n C.h k) == 0))) := rfl
      have VIC : Hid (P.hit C (P.pos n C.h k) = true → P.vic n C = ({ C with h := P.pos n C.h (k + 1) }, (P.pos n C.h k : Int), true)) := fun h1 => P.vic_hit hh hlt h1 hno.out
      have NO : Hid (P.hit C (P.pos n C.h k) = false → ∀ q, q < k + 1 → P.hit C (P.pos n C.h q) = false) := fun h1 q hq => by
        by_cases e : q = k
        · subst e; exact h1
        · exact hno.out q (by omega)
      generalize P.pos n C.h k = f at *
      generalize C.cold f = x at *
      generalize C.pins f = y at *
      cases x with
      | false =>
        go_wp2_with fail
        go_round
        case rel => exact ⟨k + 1, by go_num, by omega, NO.out (by rw [HIT.out]; rfl)⟩
        case measure => simp [intOf]; omega
      | true =>
        by_cases hz : y = 0
        · subst hz
          have V := Lib.hid (VIC.out (by rw [HIT.out]; rfl))
          clear HIT VIC NO hno
          go_wp2_with fail
          refine (turn_any h (k + 1) (by omega)).mono ?_
          rintro e w1 ⟨rfl, g', cap', hR, hF⟩
          go_wp2_with fail
          go_ret2
          refine ⟨ret_pair (by rw [V.out]) (by rw [V.out]), g', cap', ?_, hF⟩
          rw [V.out]; exact hR
        · have hb : (y == 0) = false := by simp [hz]
          have HZ := Lib.hid hb
          clear hz
          go_wp2_with fail
          go_round
          case rel => exact ⟨k + 1, by go_num, by omega, NO.out (by rw [HIT.out, HZ.out]; rfl)⟩
          case measure => simp [intOf]; omega
    · obtain rfl : k = n := by omega
      have V2 := Lib.hid (P.vic_two hh hno.out)
      clear hno
      go_wp2_with fail
      go_loop [55, 6] (fun i f => ∃ q : Nat, i = .int .i64 q ∧ q ≤ k ∧ f = .bool (P.anyf k C q)) (fun i _ => k - (intOf i).toNat)
      case atStart => exact ⟨0, rfl, by omega, rfl⟩
      case round =>
        obtain ⟨q, rfl, hq, rfl⟩ := hrel
        by_cases hlt : q < k
        · have cP := h.cP hlt
          have HA : Hid (P.anyf k C (q + 1) = (P.anyf k C q || (C.pins (P.pos k C.h q) == 0))) := rfl
          generalize C.pins (P.pos k C.h q) = y at *
          generalize P.anyf k C q = x at *
          cases x with
          | true =>
            go_wp2_with fail
            go_round
            case rel => exact ⟨q + 1, by go_num, by omega, by rw [HA.out]; rfl⟩
            case measure => simp [intOf]; omega
          | false =>
            go_wp2_with fail
            go_round
            case rel => exact ⟨q + 1, by go_num, by omega, by rw [HA.out]; rfl⟩
            case measure => simp [intOf]; omega
        · obtain rfl : q = k := by omega
          cases hany : P.anyf q C q with
          | false =>
            have HV := Lib.hid (P.vic_none hh HP.out (P.anyf_no hh hany))
            clear hany
            go_wp2_with fail
            refine wp_loop_rounds 1 ?_
            rw [rounds_succ]
            go_wp2_with fail
            go_ret2
            obtain ⟨s, hv, hs⟩ := HV.out
            refine ⟨ret_pair (by rw [hv]) (by rw [hv]), g, cap, ?_, Rt.refl _ _ _⟩
            rw [hv]
            exact h.congr rfl (fun j hj => (hs j hj).symm) (fun _ _ => rfl) fun _ _ => rfl
          | true =>
            have HV := Lib.hid (P.vic2_some (s := C.seen) hh HP.out (P.anyf_yes hh hany))
            clear hany
            have HR := Lib.hid h
            clear h c0
            go_wp2_with fail
            go_loopg [] (2 * q) (fun f wr => ∃ (g' cap' x : Nat) (s : Nat → Bool), RC B wr c g' cap' q { C with h := x, seen := s } ∧ Rt c g g' w wr ∧ Hid (P.vic2 q C.pins f x s = P.vic2 q C.pins (2 * q) C.h C.seen))
            case atStart => exact ⟨g, cap, C.h, C.seen, HR.out, Rt.refl _ _ _, rfl⟩
            case round =>
              obtain ⟨g', cap', x, s, h, hF, hv⟩ := hrel
              cases gk with
              | zero =>
                obtain ⟨v, h', s', e⟩ := HV.out
                have := hv.out
                rw [e] at this
                exact absurd this (by unfold P.vic2; simp)
              | succ f =>
                have c0 := h.c0
                have z0 := h.z0
                have z1 := h.z1
                have z2 := h.z2
                have z3 := h.z3
                simp only [] at z0 z1 z2 z3
                have fz1 := h.fz 1
                have hstep : Hid (P.vic2 q C.pins (f + 1) x s = if 0 < C.pins x then P.vic2 q C.pins f (P.nx q x) s else if s x = true then P.vic2 q C.pins f (P.nx q x) (P.upd s x false) else (some x, P.nx q x, s)) := rfl
                have p0 := HP.out x
                have HB : Blk (wr.alloc (.cells #[.int .i64 x, .bool (s x), .bool (C.cold x), .int .i64 (C.pins x)] 36)) wr.heap.size #[.int .i64 x, .bool (s x), .bool (C.cold x), .int .i64 (C.pins x)] 36 := Blk.alloc_new _ _ _
                have HG : RC B (wr.alloc (.cells #[.int .i64 x, .bool (s x), .bool (C.cold x), .int .i64 (C.pins x)] 36)) c g' cap' q { C with h := x, seen := s } := h.go ((Below.refl _ _).alloc (Nat.le_refl _) _)
                have HF2 : Rt c g g' w (wr.alloc (.cells #[.int .i64 x, .bool (s x), .bool (C.cold x), .int .i64 (C.pins x)] 36)) := hF.trans ⟨(Fr.refl _ _).alloc _, .inl rfl⟩
                have nb : ∀ i, rfoot c g' i → i < wr.heap.size := fun i hi => (h.lt i hi).2
                by_cases hz : 0 < C.pins x
                · have hb : (C.pins x == 0) = false := by simp; omega
                  have hv2 : Hid (P.vic2 q C.pins f (P.nx q x) s = P.vic2 q C.pins (2 * q) C.h C.seen) := by
                    unfold Hid; rw [← hv.out, hstep.out, if_pos hz]
                  generalize C.pins x = y at *
                  generalize C.cold x = y2 at *
                  generalize s x = y3 at *
                  go_wp2_with fail
                  refine (turn_any HG 1 (by omega)).mono ?_
                  rintro e w1 ⟨rfl, g2, cap2, hR, hF3⟩
                  have hB1 := HB.fr hF3.fr fun hi => by have := nb _ hi; omega
                  have d3 : w1.cell? ⟨wr.heap.size, 3, none⟩ = some (.int .i64 y) := by rw [hB1.cell]; rfl
                  clear HB
                  go_wp2_with fail
                  go_roundg f
                  case measure => omega
                  case rel => exact ⟨g2, cap2, P.nx q x, s, tn_one hR h.h, HF2.trans hF3, hv2⟩
                · have hz0 : C.pins x = 0 := by omega
                  cases hs : s x with
                  | true =>
                    have hv2 : Hid (P.vic2 q C.pins f (P.nx q x) (P.upd s x false) = P.vic2 q C.pins (2 * q) C.h C.seen) := by
                      unfold Hid; rw [← hv.out, hstep.out, if_neg hz, if_pos hs]
                    rw [hs] at z1 HB HG HF2
                    rw [hz0] at z3 HB HG HF2
                    obtain ⟨HG2, hF4⟩ := HG.setS0 false
                    have fz := HG.fz 1
                    have c0' := HG.c0
                    have z1' := HG.z1
                    simp only [hs] at z1'
                    have HB2 := HB.fr hF4 fun hi => by have := nb _ hi; omega
                    clear hs hz hz0 p0
                    generalize C.cold x = y2 at *
                    go_wp2_with fail
                    refine (turn_any HG2 1 (by omega)).mono ?_
                    rintro e w1 ⟨rfl, g2, cap2, hR, hF3⟩
                    have hB1 := HB2.fr hF3.fr fun hi => by have := nb _ hi; omega
                    have d3 : w1.cell? ⟨wr.heap.size, 3, none⟩ = some (.int .i64 0) := by rw [hB1.cell]; rfl
                    have d1 : w1.cell? ⟨wr.heap.size, 1, none⟩ = some (.bool true) := by rw [hB1.cell]; rfl
                    clear HB HB2
                    go_wp2_with fail
                    go_roundg f
                    case measure => omega
                    case rel => exact ⟨g2, cap2, P.nx q x, P.upd s x false, tn_one hR h.h, (HF2.trans ⟨hF4, .inl rfl⟩).trans hF3, hv2⟩
                  | false =>
                    have hv3 : Hid (P.vic q C = ({ C with h := P.nx q x, seen := s }, (x : Int), true)) := by
                      unfold Hid; rw [V2.out, ← hv.out, hstep.out, if_neg hz, if_neg (by simp [hs])]
                    rw [hs] at z1 HB HG HF2
                    rw [hz0] at z3 HB HG HF2
                    clear hs hz hz0 p0
                    generalize C.cold x = y2 at *
                    go_wp2_with fail
                    refine (turn_any HG 1 (by omega)).mono ?_
                    rintro e w1 ⟨rfl, g2, cap2, hR, hF3⟩
                    have hB1 := HB.fr hF3.fr fun hi => by have := nb _ hi; omega
                    have d3 : w1.cell? ⟨wr.heap.size, 3, none⟩ = some (.int .i64 0) := by rw [hB1.cell]; rfl
                    have d1 : w1.cell? ⟨wr.heap.size, 1, none⟩ = some (.bool false) := by rw [hB1.cell]; rfl
                    have d0 : w1.cell? ⟨wr.heap.size, 0, none⟩ = some (.int .i64 x) := by rw [hB1.cell]; rfl
                    clear HB
                    go_wp2_with fail
                    go_ret2
                    refine ⟨ret_pair (by rw [hv3.out]) (by rw [hv3.out]), g2, cap2, ?_, HF2.trans hF3⟩
                    rw [hv3.out]; exact tn_one hR h.h
end Go.Proofs.Ytbibfoahlieccaa
