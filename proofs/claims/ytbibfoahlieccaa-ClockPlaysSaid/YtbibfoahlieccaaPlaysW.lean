/- The walk of ClockPlays. -/
import Derived.Test.YtbibfoahlieccaaRefVicW
import Derived.Deep.DeepCutAuto
namespace Go.Proofs.Ytbibfoahlieccaa
open Go.RowKit
set_option linter.unusedSimpArgs false
set_option linter.unusedVariables false
/-- A clock and the document's, side by side. -/
structure LC (w0 w : World) (b : Bl) (n : Nat) (C D : P.Ck) (m c g cap : Nat) : Prop where
  l : LS w0 w b n C m
  r : RC w0.heap.size w c g cap n D
  apart : ∀ i, b.foot i → ¬ rfoot c g i
section
variable {w0 w w' : World} {b : Bl} {n : Nat} {C D C' D' : P.Ck} {m c g cap g' cap' : Nat}
theorem LC.go (h : LC w0 w b n C D m c g cap) (k : Below w.heap.size w w') : LC w0 w' b n C D m c g cap := ⟨h.l.go k, h.r.go k, h.apart⟩
theorem LC.alloc (h : LC w0 w b n C D m c g cap) (o : Obj) : LC w0 (w.alloc o) b n C D m c g cap := h.go ((Below.refl _ _).alloc (Nat.le_refl _) _)
theorem LC.drew (h : LC w0 w b n C D m c g cap) : LC w0 w.drew b n C D m c g cap := h.go (Below.refl _ _).drew
theorem LC.stepL (h : LC w0 w b n C D m c g cap) (hT : Turned b n w C' w') (ok : P.Ok n C' (m + 1)) : LC w0 w' b n C' D (m + 1) c g cap :=
  ⟨h.l.step hT ok, h.r.fr hT.2 fun i hi hf => h.apart i hf hi, h.apart⟩
theorem LC.stepR (h : LC w0 w b n C D m c g cap) (hr : RC w0.heap.size w' c g' cap' n D') (ht : Rt c g g' w w') : LC w0 w' b n C D' m c g' cap' := by
  refine ⟨⟨Fr.below h.l.below ht.fr (Nat.le_refl _) fun i hi => (h.r.lt i hi).1, h.l.cs.fr ht.fr fun i hi hf => h.apart i hi hf, h.l.ok, h.l.base⟩, hr, fun i hi hf => ?_⟩
  rcases hf with rfl | rfl
  · exact h.apart _ hi (.inl rfl)
  · rcases ht.new with e | e
    · exact h.apart _ hi (.inr e)
    · have := h.l.cs.lt _ hi; omega
theorem LC.lt (h : LC w0 w b n C D m c g cap) : (∀ i, b.foot i → i < w.heap.size) ∧ ∀ i, rfoot c g i → i < w.heap.size := ⟨h.l.cs.lt, fun i hi => (h.r.lt i hi).2⟩
end
set_option maxRecDepth 100000 in
set_option maxHeartbeats 16000000 in
theorem plays_walk (x : Int) (ao : Option Addr) (n cap : Nat) (K I : Nat → Int) (S : Nat → Bool) (w : World) (h : OpsAt w ao n K I S) (hn : n ≤ maxLen) :
    Calls Try.prog 3 #[.int .i64 x, .slice ao n cap] w fun e w' => e = .returned (.bool true) ∧ Below w.heap.size w w' := by
  unfold maxLen at hn
  have HO := Lib.hid h
  clear h
  by_cases hx : x < 1 ∨ 64 < x
  · rcases hx with hx | hx
    · go_enter Try.func3, Try.ntmps3
      go_wp2_with fail
      refine (new_out x w (.inl hx)).mono ?_
      rintro e w1 ⟨rfl, rfl⟩
      go_wp2_with fail
      refine (awake_any _).mono ?_
      rintro e w2 ⟨rfl, hb2⟩
      go_wp2_with fail
      go_ret
      exact ⟨rfl, hb2⟩
    · have hx1 : ¬ x < 1 := by omega
      go_enter Try.func3, Try.ntmps3
      go_wp2_with fail
      refine (new_out x w (.inr hx)).mono ?_
      rintro e w1 ⟨rfl, rfl⟩
      go_wp2_with fail
      refine (awake_any _).mono ?_
      rintro e w2 ⟨rfl, hb2⟩
      go_wp2_with fail
      go_ret
      exact ⟨rfl, hb2⟩
  · obtain ⟨k, rfl⟩ : ∃ k : Nat, x = k := ⟨x.toNat, by omega⟩
    have q1 : 1 ≤ k := by omega
    have q2 : k ≤ 64 := by omega
    clear hx
    go_enter Try.func3, Try.ntmps3
    go_wp2_with fail
    refine (new_in k w q1 q2).mono ?_
    rintro e w1 ⟨b, rfl, hC, hB, hL⟩
    have HST := Lib.hid (⟨hB, hC, P.ok_new q1, hL⟩ : LS w w1 b k P.new 0)
    clear hC hB hL
    go_wp2_with fail
    refine (refnew_any k q1 q2).mono ?_
    rintro e w2 ⟨c, g, cp, rfl, hR, hB⟩
    have HLC : Hid (LC w w2 b k P.new P.new 0 c g cp) := ⟨HST.out.go hB, ⟨hR.blk, own_base hR.own HST.out.below.size, hR.ne, Nat.le_trans HST.out.below.size hR.base, hR.h, hR.n64⟩, fun i hi hf => by
      have := HST.out.cs.lt i hi
      have := (hR.lt i hf).1
      omega⟩
    clear HST hR hB
    go_wp2_with fail
    go_loopw [7] (fun i wr => ∃ m : Nat, i = .int .i64 m ∧ m ≤ 80 ∧ m ≤ n ∧ ∃ C g cp, LC w wr b k C C m c g cp) (fun i _ => n - (intOf i).toNat)
    case atStart => exact ⟨0, rfl, by omega, by omega, _, _, _, HLC.out⟩
    case round =>
      clear HLC
      obtain ⟨m, rfl, hm, hmn, C, g, cp, hC⟩ := hrel
      by_cases hlt : (m : Int) < n ∧ (m : Int) < 80
      · obtain ⟨hl1, hl2⟩ := hlt
        obtain ⟨sb, so, rfl, hsb, c0, c1, c2⟩ := HO.out.at_ m (by omega)
        have d0 : wr.cell? ⟨sb, so + m * 3, none⟩ = some (.int .i64 (K m)) := by rw [hC.l.below.cell hsb]; exact c0
        have d1 : wr.cell? ⟨sb, so + m * 3 + 1, none⟩ = some (.int .i64 (I m)) := by rw [hC.l.below.cell hsb]; exact c1
        have d2 : wr.cell? ⟨sb, so + m * 3 + 2, none⟩ = some (.bool (S m)) := by rw [hC.l.below.cell hsb]; exact c2
        clear c0 c1 c2
        generalize K m = kk at *
        generalize I m = ii at *
        generalize S m = ss at *
        have hE : Blk (wr.alloc (.cells #[.int .i64 kk, .int .i64 ii, .bool ss] 29)) wr.heap.size #[.int .i64 kk, .int .i64 ii, .bool ss] 29 := Blk.alloc_new _ _ _
        have hC1 := hC.alloc (.cells #[.int .i64 kk, .int .i64 ii, .bool ss] 29)
        have hfo : ∀ i, b.foot i → i ≠ wr.heap.size := fun i hi => Nat.ne_of_lt (hC.lt.1 i hi)
        have hro : ∀ i, rfoot c g i → i ≠ wr.heap.size := fun i hi => Nat.ne_of_lt (hC.lt.2 i hi)
        have HFO := Lib.hid hfo
        have HRO := Lib.hid hro
        clear hfo hro
        obtain ⟨E, va, vb, hs⟩ : ∃ E va vb, P.stp k C kk ii ss = (E, va, vb) := ⟨_, _, _, rfl⟩
        have hok := P.ok_stp hC1.l.ok kk ii ss
        have hd := do_any hC1.l.cs kk ii ss (hC1.l.pin (by omega))
        rw [hs] at hd hok
        have hlo := Lib.hid (hC.l.pin (by omega))
        go_wp2_with fail
        refine hd.mono ?_
        rintro e w2 ⟨rfl, hT⟩
        have hC2 := hC1.stepL hT hok
        have hE2 := hE.fr hT.2 fun hi => HFO.out _ hi rfl
        clear hE hC1 hC hT hd d0 d1 d2 hok
        generalize wr.heap.size = bx at *
        have e0 : w2.cell? ⟨bx, 0, none⟩ = some (.int .i64 kk) := by rw [hE2.cell]; rfl
        have e1 : w2.cell? ⟨bx, 1, none⟩ = some (.int .i64 ii) := by rw [hE2.cell]; rfl
        have e2 : w2.cell? ⟨bx, 2, none⟩ = some (.bool ss) := by rw [hE2.cell]; rfl
        replace hs := Lib.hid hs
        go_wp2_with fail
        refine (refat_any hC2.r ii).mono ?_
        rintro e w3 ⟨rfl, hf0⟩
        obtain ⟨fo, rfl, hf⟩ : ∃ fo, e = .returned (.pointer fo) ∧ Hid ((∃ p, p < k ∧ (P.pos k C.h p : Int) = ii ∧ fo = some ⟨g, p * 4, none⟩) ∨ (¬ (0 ≤ ii ∧ ii < k) ∧ fo = none)) := by
          rcases hf0 with ⟨p, hp, he, rfl⟩ | ⟨hout, rfl⟩
          · exact ⟨_, rfl, .inl ⟨p, hp, he, rfl⟩⟩
          · exact ⟨_, rfl, .inr ⟨hout, rfl⟩⟩
        clear hf0
        go_upto_if 58 with (fail)
        go_cut [11, 12] (fun s11 s12 wx => ∃ g1 cap1, s11 = .int .i64 va ∧ s12 = .bool vb ∧ LC w wx b k E E (m + 1) c g1 cap1)
        case first =>
          by_cases h5 : kk = 5
          · subst h5
            have hs5 : Hid (P.vic k C = (E, va, vb)) := by rw [← hs.out]; unfold P.stp; rw [if_pos rfl]; rfl
            have hv := refvic_any hC2.r (fun j => (hlo.out j).1)
            rw [hs5.out] at hv
            go_wp2_with fail
            refine hv.mono ?_
            rintro e w4 ⟨rfl, g1, cap1, hR, hF⟩
            have hLC := hC2.stepR hR hF
            go_wp2_with fail
            go_meet
            case rel => exact ⟨g1, cap1, rfl, rfl, hLC⟩
          · have hb5 : (kk == 5) = false := by simp [h5]
            rcases hf.out with ⟨p, hp, he, rfl⟩ | ⟨hout, rfl⟩
            · subst he
              have hin : 0 ≤ (P.pos k C.h p : Int) ∧ (P.pos k C.h p : Int) < k := by have := P.pos_lt hC2.r.h p; omega
              have hs1 := hs.out
              unfold P.stp at hs1
              rw [if_neg h5, if_pos hin, Int.toNat_natCast] at hs1
              have cS := hC2.r.cS hp
              have cC := hC2.r.cC hp
              have cP := hC2.r.cP hp
              have f1 := hC2.r.fz (p * 4 + 1)
              have f2 := hC2.r.fz (p * 4 + 2)
              have f3 := hC2.r.fz (p * 4 + 3)
              obtain ⟨lo, hi⟩ := hlo.out (P.pos k C.h p)
              have hp2 := Lib.hid hp
              clear hin hs hf hp
              by_cases hk : kk = 0
              · subst hk
                rw [if_pos rfl] at hs1
                injection hs1 with x1 x2
                injection x2 with x2 x3
                subst x1; subst x2; subst x3
                obtain ⟨hR, hF⟩ := hC2.r.setS hp2.out true
                have hLC := hC2.stepR hR ⟨hF, .inl rfl⟩
                replace hLC := Lib.hid hLC
                clear hE2 hC2 h5 hR hF
                go_wp2_with fail
                go_meet
                case rel => exact ⟨_, _, rfl, rfl, hLC.out⟩
              rw [if_neg hk] at hs1
              have hk0 := hk
              clear hk
              have hw : IntKind.i64.wrap (C.pins (P.pos k C.h p) + 1) = C.pins (P.pos k C.h p) + 1 := IntWalk.i64_in _ (by omega)
              by_cases hk : kk = 1
              · subst hk
                rw [if_pos rfl] at hs1
                injection hs1 with x1 x2
                injection x2 with x2 x3
                subst x1; subst x2; subst x3
                obtain ⟨hR, hF⟩ := hC2.r.setP hp2.out (C.pins (P.pos k C.h p) + 1)
                have hLC := hC2.stepR hR ⟨hF, .inl rfl⟩
                replace hLC := Lib.hid hLC
                clear hE2 hC2 h5 hR hF
                go_wp2_with fail
                go_meet
                case rel => exact ⟨_, _, rfl, rfl, hLC.out⟩
              rw [if_neg hk] at hs1
              have hk1 := hk
              clear hk hw
              by_cases hk : kk = 2
              · subst hk
                rw [if_pos rfl] at hs1
                by_cases hz : C.pins (P.pos k C.h p) = 0
                · rw [if_pos hz] at hs1
                  rw [hz] at cP
                  injection hs1 with x1 x2
                  injection x2 with x2 x3
                  subst x1; subst x2; subst x3
                  clear hz lo hi h5
                  go_wp2_with fail
                  go_meet
                  case rel => exact ⟨_, _, rfl, rfl, hC2⟩
                · rw [if_neg hz] at hs1
                  have hgt : 0 < C.pins (P.pos k C.h p) := by omega
                  have hw : IntKind.i64.wrap (C.pins (P.pos k C.h p) - 1) = C.pins (P.pos k C.h p) - 1 := IntWalk.i64_in _ (by omega)
                  injection hs1 with x1 x2
                  injection x2 with x2 x3
                  subst x1; subst x2; subst x3
                  obtain ⟨hR, hF⟩ := hC2.r.setP hp2.out (C.pins (P.pos k C.h p) - 1)
                  have hLC := hC2.stepR hR ⟨hF, .inl rfl⟩
                  replace hLC := Lib.hid hLC
                  clear hE2 hC2 h5 hR hF hz
                  go_wp2_with fail
                  go_meet
                  case rel => exact ⟨_, _, rfl, rfl, hLC.out⟩
              rw [if_neg hk] at hs1
              have hk2 := hk
              clear hk lo hi
              by_cases hk : kk = 3
              · subst hk
                rw [if_pos rfl] at hs1
                injection hs1 with x1 x2
                injection x2 with x2 x3
                subst x1; subst x2; subst x3
                obtain ⟨hR, hF⟩ := hC2.r.setC hp2.out ss
                have hLC := hC2.stepR hR ⟨hF, .inl rfl⟩
                replace hLC := Lib.hid hLC
                clear hE2 hC2 h5 hR hF
                go_wp2_with fail
                go_meet
                case rel => exact ⟨_, _, rfl, rfl, hLC.out⟩
              rw [if_neg hk] at hs1
              have hk3 := hk
              clear hk
              by_cases hk : kk = 4
              · subst hk
                rw [if_pos rfl] at hs1
                injection hs1 with x1 x2
                injection x2 with x2 x3
                subst x1; subst x2; subst x3
                obtain ⟨hR, hF⟩ := hC2.r.setS hp2.out false
                obtain ⟨hR2, hF2⟩ := hR.setC hp2.out false
                have cC2 := hR.cC hp2.out
                have f22 := hR.fz (p * 4 + 2)
                have c02 := hR.c0
                have hLC := (hC2.stepR hR ⟨hF, .inl rfl⟩).stepR hR2 ⟨hF2, .inl rfl⟩
                replace hLC := Lib.hid hLC
                clear hE2 hC2 h5 hR hF hR2 hF2
                go_wp2_with fail
                go_meet
                case rel => exact ⟨_, _, rfl, rfl, hLC.out⟩
              rw [if_neg hk] at hs1
              injection hs1 with x1 x2
              injection x2 with x2 x3
              subst x1; subst x2; subst x3
              have g0 : (kk == 0) = false := by simp [hk0]
              have g1 : (kk == 1) = false := by simp [hk1]
              have g2 : (kk == 2) = false := by simp [hk2]
              have g3 : (kk == 3) = false := by simp [hk3]
              have g4 : (kk == 4) = false := by simp [hk]
              clear hk0 hk1 hk2 hk3 hk h5
              go_wp2_with fail
              go_meet
              case rel => exact ⟨_, _, rfl, rfl, hC2⟩
            · have hs0 : P.stp k C kk ii ss = (C, 0, false) := by unfold P.stp; rw [if_neg h5, if_neg hout]
              rw [hs.out] at hs0
              injection hs0 with x1 x2
              injection x2 with x2 x3
              subst x1; subst x2; subst x3
              clear hs hf hout
              go_wp2_with fail
              go_meet
              case rel => exact ⟨_, _, rfl, rfl, hC2⟩
        case rest =>
          clear hC2 hE2 e0 e1 e2
          obtain ⟨g1, cap1, rfl, rfl, hLC⟩ := hcut
          go_wp2_with fail
          have HLC := Lib.hid hLC
          clear hLC
          go_loopw [14] (fun i wq => ∃ q : Nat, i = .int .i64 ((q : Int) - 1) ∧ q ≤ k + 2 ∧ LC w wq b k E E (m + 1) c g1 cap1) (fun i _ => k + 2 - (intOf i + 1).toNat)
          case atStart => exact ⟨0, rfl, by omega, HLC.out⟩
          case round =>
            clear HLC
            obtain ⟨q, rfl, hq, hLC⟩ := hrel
            by_cases hlt : (q : Int) - 1 ≤ k
            · have HW : IntKind.i64.wrap ((q : Int) - 1 + 1) = (q : Int) := by rw [IntWalk.i64_in _ (by omega)]; omega
              go_wp2_with fail
              refine (refat_any hLC.r ((q : Int) - 1)).mono ?_
              rintro e w5 ⟨rfl, hcase⟩
              rcases hcase with ⟨p, hp, he, rfl⟩ | ⟨hout, rfl⟩
              · have cP := fun w' (h : LC w w' b k E E (m + 1) c g1 cap1) => h.r.cP hp
                have hcall := fun w' (h : LC w w' b k E E (m + 1) c g1 cap1) => pins_nat h.l.cs (P.pos k E.h p) (P.pos_lt h.r.h p)
                rw [he] at hcall
                have HE := Lib.hid he
                clear he
                generalize E.pins (P.pos k E.h p) = pv at *
                go_wp2_with fail
                refine wp_region_held (S := (fun w' => LC w w' b k E E (m + 1) c g1 cap1)) (by kernel_rfl) ?_
                change wpAnyH _ _ _ _ _ _ _ _ wr.drew
                (try simp only [Act.put])
                have hS := hLC.drew
                refine anyH_pure 0 _ ?_ rfl (by kernel_rfl) (by kernel_rfl) (by kernel_rfl) (fun _ _ _ h => h) rfl ?_ hS ?_
                rotate_left
                · (intro w'; go_simp; (try with_reducible rfl))
                (try simp only [Act.put, List.getElem_toArray, List.getElem_cons_zero, List.setIfInBounds_toArray, List.set_cons_zero, List.set_cons_succ])
                refine anyH_pure 1 _ ?_ rfl (by kernel_rfl) (by kernel_rfl) (by kernel_rfl) (fun _ _ _ h => h) rfl ?_ hS ?_
                rotate_left
                · (intro w'; go_simp; (try with_reducible rfl))
                (try simp only [Act.put, List.getElem_toArray, List.getElem_cons_zero, List.getElem_cons_succ, List.setIfInBounds_toArray, List.set_cons_zero, List.set_cons_succ])
                refine anyH_pure 2 _ ?_ rfl (by kernel_rfl) (by kernel_rfl) (by kernel_rfl) (fun _ _ _ h => h) rfl ?_ hS ?_
                rotate_left
                · (intro w'; go_simp; (try with_reducible rfl))
                (try simp only [Act.put, List.getElem_toArray, List.getElem_cons_zero, List.getElem_cons_succ, List.setIfInBounds_toArray, List.set_cons_zero, List.set_cons_succ])
                refine anyH_skip 3 _ rfl (by kernel_rfl) (by kernel_rfl) (by kernel_rfl) (fun _ _ _ h => h) rfl hS ?_
                (try simp only [Act.put, List.getElem_toArray, List.getElem_cons_zero, List.getElem_cons_succ, List.setIfInBounds_toArray, List.set_cons_zero, List.set_cons_succ])
                refine anyH_skip 4 _ rfl (by kernel_rfl) (by kernel_rfl) (by kernel_rfl) (fun _ _ _ h => h) rfl hS ?_
                (try simp only [Act.put, List.getElem_toArray, List.getElem_cons_zero, List.getElem_cons_succ, List.setIfInBounds_toArray, List.set_cons_zero, List.set_cons_succ])
                refine anyH_skip 5 _ rfl (by kernel_rfl) (by kernel_rfl) (by kernel_rfl) (fun _ _ _ h => h) rfl hS ?_
                (try simp only [Act.put, List.getElem_toArray, List.getElem_cons_zero, List.getElem_cons_succ, List.setIfInBounds_toArray, List.set_cons_zero, List.set_cons_succ])
                refine anyH_skip 6 _ rfl (by kernel_rfl) (by kernel_rfl) (by kernel_rfl) (fun _ _ _ h => h) rfl hS ?_
                (try simp only [Act.put, List.getElem_toArray, List.getElem_cons_zero, List.getElem_cons_succ, List.setIfInBounds_toArray, List.set_cons_zero, List.set_cons_succ])
                refine anyH_pure 7 _ ?_ rfl (by kernel_rfl) (by kernel_rfl) (by kernel_rfl) (fun _ _ _ h => h) rfl ?_ hS ?_
                rotate_left
                · (intro w'; go_simp; (try with_reducible rfl))
                (try simp only [Act.put, List.getElem_toArray, List.getElem_cons_zero, List.getElem_cons_succ, List.setIfInBounds_toArray, List.set_cons_zero, List.set_cons_succ])
                refine anyH_pure 8 _ ?_ rfl (by kernel_rfl) (by kernel_rfl) (by kernel_rfl) (fun _ _ _ h => h) rfl ?_ hS ?_
                rotate_left
                · (intro w'; go_simp; (try with_reducible rfl))
                (try simp only [Act.put, List.getElem_toArray, List.getElem_cons_zero, List.getElem_cons_succ, List.setIfInBounds_toArray, List.set_cons_zero, List.set_cons_succ])
                refine anyH_pure 9 _ ?_ rfl (by kernel_rfl) (by kernel_rfl) (by kernel_rfl) (fun _ _ _ h => h) rfl ?_ hS ?_
                rotate_left
                · (intro w'; go_simp; (try with_reducible rfl))
                (try simp only [Act.put, List.getElem_toArray, List.getElem_cons_zero, List.getElem_cons_succ, List.setIfInBounds_toArray, List.set_cons_zero, List.set_cons_succ])
                refine anyH_pure 10 _ ?_ rfl (by kernel_rfl) (by kernel_rfl) (by kernel_rfl) (fun _ _ _ h => h) rfl ?_ hS ?_
                rotate_left
                · (intro w'; go_simp; (try with_reducible rfl))
                (try simp only [Act.put, List.getElem_toArray, List.getElem_cons_zero, List.getElem_cons_succ, List.setIfInBounds_toArray, List.set_cons_zero, List.set_cons_succ])
                refine anyH_pure 11 _ ?_ rfl (by kernel_rfl) (by kernel_rfl) (by kernel_rfl) (fun _ _ _ h => h) rfl ?_ hS ?_
                rotate_left
                · (intro w'; go_simp; (try with_reducible rfl))
                (try simp only [Act.put, List.getElem_toArray, List.getElem_cons_zero, List.getElem_cons_succ, List.setIfInBounds_toArray, List.set_cons_zero, List.set_cons_succ])
                refine anyH_pure 12 _ ?_ rfl (by kernel_rfl) (by kernel_rfl) (by kernel_rfl) (fun _ _ _ h => h) rfl ?_ hS ?_
                rotate_left
                · (intro w'; go_simp; (try with_reducible rfl))
                (try simp only [Act.put, List.getElem_toArray, List.getElem_cons_zero, List.getElem_cons_succ, List.setIfInBounds_toArray, List.set_cons_zero, List.set_cons_succ])
                refine anyH_pure 13 _ ?_ rfl (by kernel_rfl) (by kernel_rfl) (by kernel_rfl) (fun _ _ _ h => h) rfl ?_ hS ?_
                rotate_left
                · (intro w'; go_simp; (try with_reducible rfl))
                (try simp only [Act.put, List.getElem_toArray, List.getElem_cons_zero, List.getElem_cons_succ, List.setIfInBounds_toArray, List.set_cons_zero, List.set_cons_succ])
                refine anyH_pure 15 _ ?_ rfl (by kernel_rfl) (by kernel_rfl) (by kernel_rfl) (fun _ _ _ h => h) rfl ?_ hS ?_
                rotate_left
                · (intro w'; go_simp; (try with_reducible rfl))
                (try simp only [Act.put, List.getElem_toArray, List.getElem_cons_zero, List.getElem_cons_succ, List.setIfInBounds_toArray, List.set_cons_zero, List.set_cons_succ])
                refine anyH_pure 16 _ ?_ rfl (by kernel_rfl) (by kernel_rfl) (by kernel_rfl) (fun _ _ _ h => h) rfl ?_ hS ?_
                rotate_left
                · (intro w'; go_simp; (try with_reducible rfl))
                (try simp only [Act.put, List.getElem_toArray, List.getElem_cons_zero, List.getElem_cons_succ, List.setIfInBounds_toArray, List.set_cons_zero, List.set_cons_succ])
                refine anyH_pure 17 _ ?_ rfl (by kernel_rfl) (by kernel_rfl) (by kernel_rfl) (fun _ _ _ h => h) rfl ?_ hS ?_
                rotate_left
                · (intro w'; go_simp; (try with_reducible rfl))
                (try simp only [Act.put, List.getElem_toArray, List.getElem_cons_zero, List.getElem_cons_succ, List.setIfInBounds_toArray, List.set_cons_zero, List.set_cons_succ])
                refine anyH_if 18 _ ?_ rfl (by kernel_rfl) (by kernel_rfl) (by kernel_rfl) (fun _ _ _ h => h) rfl ?_ hS ?_
                rotate_left
                · (intro w' h; have c0 := cP _ h; go_simp; (try with_reducible rfl))
                (try simp only [Act.put, List.getElem_toArray, List.getElem_cons_zero, List.getElem_cons_succ, List.setIfInBounds_toArray, List.set_cons_zero, List.set_cons_succ])
                refine anyH_callR 14 _ _ _ _ (by kernel_rfl) rfl rfl (by go_simp) (_) (hcall _ hS) ?_
                rintro w6 rfl
                refine ⟨hS, ?_⟩
                (try simp only [Act.put, List.getElem_toArray, List.getElem_cons_zero, List.getElem_cons_succ, List.setIfInBounds_toArray, List.set_cons_zero, List.set_cons_succ])
                refine anyH_pure 19 _ ?_ rfl (by kernel_rfl) (by kernel_rfl) (by kernel_rfl) (fun _ _ _ h => h) rfl ?_ hS ?_
                rotate_left
                · (intro w'; go_simp; (try with_reducible rfl))
                (try simp only [Act.put, List.getElem_toArray, List.getElem_cons_zero, List.getElem_cons_succ, List.setIfInBounds_toArray, List.set_cons_zero, List.set_cons_succ])
                refine anyH_pure 20 _ ?_ rfl (by kernel_rfl) (by kernel_rfl) (by kernel_rfl) (fun _ _ _ h => h) rfl ?_ hS ?_
                rotate_left
                · (intro w'; go_simp; (try with_reducible rfl))
                (try simp only [Act.put, List.getElem_toArray, List.getElem_cons_zero, List.getElem_cons_succ, List.setIfInBounds_toArray, List.set_cons_zero, List.set_cons_succ])
                refine anyH_pure 21 _ ?_ rfl (by kernel_rfl) (by kernel_rfl) (by kernel_rfl) (fun _ _ _ h => h) rfl ?_ hS ?_
                rotate_left
                · (intro w'; go_simp; (try with_reducible rfl))
                (try simp only [Act.put, List.getElem_toArray, List.getElem_cons_zero, List.getElem_cons_succ, List.setIfInBounds_toArray, List.set_cons_zero, List.set_cons_succ])
                refine wpAnyH_done (by kernel_rfl) ?_ _
                go_wp2_with fail
                go_roundw
                case rel => exact ⟨q + 1, by go_num, by omega, hS⟩
                case measure => simp [intOf]; omega
              · have hcall := fun w' (h : LC w w' b k E E (m + 1) c g1 cap1) => pins_any h.l.cs ((q : Int) - 1)
                rw [if_neg hout] at hcall
                replace hout := Lib.hid hout
                go_wp2_with fail
                refine wp_region_held (S := (fun w' => LC w w' b k E E (m + 1) c g1 cap1)) (by kernel_rfl) ?_
                change wpAnyH _ _ _ _ _ _ _ _ wr.drew
                (try simp only [Act.put])
                have hS := hLC.drew
                refine anyH_pure 0 _ ?_ rfl (by kernel_rfl) (by kernel_rfl) (by kernel_rfl) (fun _ _ _ h => h) rfl ?_ hS ?_
                rotate_left
                · (intro w'; go_simp; (try with_reducible rfl))
                (try simp only [Act.put, List.getElem_toArray, List.getElem_cons_zero, List.setIfInBounds_toArray, List.set_cons_zero, List.set_cons_succ])
                refine anyH_pure 1 _ ?_ rfl (by kernel_rfl) (by kernel_rfl) (by kernel_rfl) (fun _ _ _ h => h) rfl ?_ hS ?_
                rotate_left
                · (intro w'; go_simp; (try with_reducible rfl))
                (try simp only [Act.put, List.getElem_toArray, List.getElem_cons_zero, List.getElem_cons_succ, List.setIfInBounds_toArray, List.set_cons_zero, List.set_cons_succ])
                refine anyH_pure 2 _ ?_ rfl (by kernel_rfl) (by kernel_rfl) (by kernel_rfl) (fun _ _ _ h => h) rfl ?_ hS ?_
                rotate_left
                · (intro w'; go_simp; (try with_reducible rfl))
                (try simp only [Act.put, List.getElem_toArray, List.getElem_cons_zero, List.getElem_cons_succ, List.setIfInBounds_toArray, List.set_cons_zero, List.set_cons_succ])
                refine anyH_pure 3 _ ?_ rfl (by kernel_rfl) (by kernel_rfl) (by kernel_rfl) (fun _ _ _ h => h) rfl ?_ hS ?_
                rotate_left
                · (intro w'; go_simp; (try with_reducible rfl))
                (try simp only [Act.put, List.getElem_toArray, List.getElem_cons_zero, List.getElem_cons_succ, List.setIfInBounds_toArray, List.set_cons_zero, List.set_cons_succ])
                refine anyH_pure 4 _ ?_ rfl (by kernel_rfl) (by kernel_rfl) (by kernel_rfl) (fun _ _ _ h => h) rfl ?_ hS ?_
                rotate_left
                · (intro w'; go_simp; (try with_reducible rfl))
                (try simp only [Act.put, List.getElem_toArray, List.getElem_cons_zero, List.getElem_cons_succ, List.setIfInBounds_toArray, List.set_cons_zero, List.set_cons_succ])
                refine anyH_callR 5 _ _ _ _ (by kernel_rfl) rfl rfl (by go_simp) (_) (hcall _ hS) ?_
                rintro w6 rfl
                refine ⟨hS, ?_⟩
                (try simp only [Act.put, List.getElem_toArray, List.getElem_cons_zero, List.getElem_cons_succ, List.setIfInBounds_toArray, List.set_cons_zero, List.set_cons_succ])
                refine anyH_pure 6 _ ?_ rfl (by kernel_rfl) (by kernel_rfl) (by kernel_rfl) (fun _ _ _ h => h) rfl ?_ hS ?_
                rotate_left
                · (intro w'; go_simp; (try with_reducible rfl))
                (try simp only [Act.put, List.getElem_toArray, List.getElem_cons_zero, List.getElem_cons_succ, List.setIfInBounds_toArray, List.set_cons_zero, List.set_cons_succ])
                refine anyH_pure 7 _ ?_ rfl (by kernel_rfl) (by kernel_rfl) (by kernel_rfl) (fun _ _ _ h => h) rfl ?_ hS ?_
                rotate_left
                · (intro w'; go_simp; (try with_reducible rfl))
                (try simp only [Act.put, List.getElem_toArray, List.getElem_cons_zero, List.getElem_cons_succ, List.setIfInBounds_toArray, List.set_cons_zero, List.set_cons_succ])
                refine anyH_pure 8 _ ?_ rfl (by kernel_rfl) (by kernel_rfl) (by kernel_rfl) (fun _ _ _ h => h) rfl ?_ hS ?_
                rotate_left
                · (intro w'; go_simp; (try with_reducible rfl))
                (try simp only [Act.put, List.getElem_toArray, List.getElem_cons_zero, List.getElem_cons_succ, List.setIfInBounds_toArray, List.set_cons_zero, List.set_cons_succ])
                refine anyH_pure 9 _ ?_ rfl (by kernel_rfl) (by kernel_rfl) (by kernel_rfl) (fun _ _ _ h => h) rfl ?_ hS ?_
                rotate_left
                · (intro w'; go_simp; (try with_reducible rfl))
                (try simp only [Act.put, List.getElem_toArray, List.getElem_cons_zero, List.getElem_cons_succ, List.setIfInBounds_toArray, List.set_cons_zero, List.set_cons_succ])
                refine anyH_pure 10 _ ?_ rfl (by kernel_rfl) (by kernel_rfl) (by kernel_rfl) (fun _ _ _ h => h) rfl ?_ hS ?_
                rotate_left
                · (intro w'; go_simp; (try with_reducible rfl))
                (try simp only [Act.put, List.getElem_toArray, List.getElem_cons_zero, List.getElem_cons_succ, List.setIfInBounds_toArray, List.set_cons_zero, List.set_cons_succ])
                refine anyH_pure 11 _ ?_ rfl (by kernel_rfl) (by kernel_rfl) (by kernel_rfl) (fun _ _ _ h => h) rfl ?_ hS ?_
                rotate_left
                · (intro w'; go_simp; (try with_reducible rfl))
                (try simp only [Act.put, List.getElem_toArray, List.getElem_cons_zero, List.getElem_cons_succ, List.setIfInBounds_toArray, List.set_cons_zero, List.set_cons_succ])
                refine anyH_skip 12 _ rfl (by kernel_rfl) (by kernel_rfl) (by kernel_rfl) (fun _ _ _ h => h) rfl hS ?_
                (try simp only [Act.put, List.getElem_toArray, List.getElem_cons_zero, List.getElem_cons_succ, List.setIfInBounds_toArray, List.set_cons_zero, List.set_cons_succ])
                refine anyH_skip 13 _ rfl (by kernel_rfl) (by kernel_rfl) (by kernel_rfl) (fun _ _ _ h => h) rfl hS ?_
                (try simp only [Act.put, List.getElem_toArray, List.getElem_cons_zero, List.getElem_cons_succ, List.setIfInBounds_toArray, List.set_cons_zero, List.set_cons_succ])
                refine anyH_skip 14 _ rfl (by kernel_rfl) (by kernel_rfl) (by kernel_rfl) (fun _ _ _ h => h) rfl hS ?_
                (try simp only [Act.put, List.getElem_toArray, List.getElem_cons_zero, List.getElem_cons_succ, List.setIfInBounds_toArray, List.set_cons_zero, List.set_cons_succ])
                refine anyH_skip 15 _ rfl (by kernel_rfl) (by kernel_rfl) (by kernel_rfl) (fun _ _ _ h => h) rfl hS ?_
                (try simp only [Act.put, List.getElem_toArray, List.getElem_cons_zero, List.getElem_cons_succ, List.setIfInBounds_toArray, List.set_cons_zero, List.set_cons_succ])
                refine anyH_skip 16 _ rfl (by kernel_rfl) (by kernel_rfl) (by kernel_rfl) (fun _ _ _ h => h) rfl hS ?_
                (try simp only [Act.put, List.getElem_toArray, List.getElem_cons_zero, List.getElem_cons_succ, List.setIfInBounds_toArray, List.set_cons_zero, List.set_cons_succ])
                refine anyH_skip 17 _ rfl (by kernel_rfl) (by kernel_rfl) (by kernel_rfl) (fun _ _ _ h => h) rfl hS ?_
                (try simp only [Act.put, List.getElem_toArray, List.getElem_cons_zero, List.getElem_cons_succ, List.setIfInBounds_toArray, List.set_cons_zero, List.set_cons_succ])
                refine anyH_skip 18 _ rfl (by kernel_rfl) (by kernel_rfl) (by kernel_rfl) (fun _ _ _ h => h) rfl hS ?_
                (try simp only [Act.put, List.getElem_toArray, List.getElem_cons_zero, List.getElem_cons_succ, List.setIfInBounds_toArray, List.set_cons_zero, List.set_cons_succ])
                refine anyH_skip 19 _ rfl (by kernel_rfl) (by kernel_rfl) (by kernel_rfl) (fun _ _ _ h => h) rfl hS ?_
                (try simp only [Act.put, List.getElem_toArray, List.getElem_cons_zero, List.getElem_cons_succ, List.setIfInBounds_toArray, List.set_cons_zero, List.set_cons_succ])
                refine anyH_pure 20 _ ?_ rfl (by kernel_rfl) (by kernel_rfl) (by kernel_rfl) (fun _ _ _ h => h) rfl ?_ hS ?_
                rotate_left
                · (intro w'; go_simp; (try with_reducible rfl))
                (try simp only [Act.put, List.getElem_toArray, List.getElem_cons_zero, List.getElem_cons_succ, List.setIfInBounds_toArray, List.set_cons_zero, List.set_cons_succ])
                refine anyH_pure 21 _ ?_ rfl (by kernel_rfl) (by kernel_rfl) (by kernel_rfl) (fun _ _ _ h => h) rfl ?_ hS ?_
                rotate_left
                · (intro w'; go_simp; (try with_reducible rfl))
                (try simp only [Act.put, List.getElem_toArray, List.getElem_cons_zero, List.getElem_cons_succ, List.setIfInBounds_toArray, List.set_cons_zero, List.set_cons_succ])
                refine wpAnyH_done (by kernel_rfl) ?_ _
                go_wp2_with fail
                go_roundw
                case rel => exact ⟨q + 1, by go_num, by omega, hS⟩
                case measure => simp [intOf]; omega
            · have hlt2 : (k : Int) < (q : Int) - 1 := by omega
              clear hlt
              go_wp2_with fail
              go_roundw
              case rel => exact ⟨m + 1, by go_num, by omega, by omega, E, g1, cap1, hLC⟩
              case measure => simp [intOf]; omega
      · have hor : (n : Int) ≤ m ∨ ((m : Int) < n ∧ (80 : Int) ≤ m) := by omega
        clear hlt
        rcases hor with h1 | ⟨h1, h2⟩
        all_goals
          go_wp2_with fail
          refine (awake_any _).mono ?_
          rintro e w2 ⟨rfl, hb2⟩
          go_wp2_with fail
          go_ret
          exact ⟨rfl, hC.l.below.trans (hb2.mono hC.l.below.size)⟩
end Go.Proofs.Ytbibfoahlieccaa
