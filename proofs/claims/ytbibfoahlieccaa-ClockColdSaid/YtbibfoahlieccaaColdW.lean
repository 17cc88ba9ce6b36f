/- The walk of ClockCold. -/
import Derived.Test.YtbibfoahlieccaaPinsW
import Derived.Deep.DeepCutAuto
namespace Go.Proofs.Ytbibfoahlieccaa
open Go.RowKit
set_option linter.unusedSimpArgs false
set_option linter.unusedVariables false
theorem hit_eq (C : P.Ck) (q : Nat) : P.hit C q = (C.cold q && (C.pins q == 0)) := rfl
/-- The law's own row of what is cold. -/
structure RowC (w : World) (b : Bl) (g n : Nat) (C : P.Ck) : Prop where
  row : Blk w g (rowV n (bV C.cold)) 4
  ne : ¬ b.foot g
theorem RowC.go {w w' : World} {b : Bl} {g n : Nat} {C : P.Ck} (h : RowC w b g n C) (k : Below w.heap.size w w') : RowC w' b g n C := ⟨h.row.below k, h.ne⟩
theorem rowC_set {w : World} {g n : Nat} {f : Nat → Bool} (h : Blk w g (rowV n (bV f)) 4) (i : Nat) (v : Bool) : Blk (w.setCell ⟨g, i, none⟩ (.bool v)) g (rowV n (bV (P.upd f i v))) 4 := by
  rw [h.setCell]
  have := h.setRow ((rowV n (bV f)).setIfInBounds i (.bool v))
  rw [rowV_set] at this ⊢
  rw [rowV_congr (g := bV (P.upd f i v)) (fun j _ => by unfold bV P.upd; split <;> simp_all)] at this ⊢
  exact this
theorem LS.own {w0 w : World} {b : Bl} {n : Nat} {C : P.Ck} {m : Nat} (h : LS w0 w b n C m) {g : Nat} (hg : ¬ b.foot g) (h0 : w0.heap.size ≤ g) (j : Nat) (v : Value) : LS w0 (w.setCell ⟨g, j, none⟩ v) b n C m :=
  ⟨h.below.setCell h0 v, h.cs.fr ((Fr.refl (fun i => i = g) w).setCell _ _ fun _ => rfl) (fun i hi e => hg (e ▸ hi)), h.ok, h.base⟩
set_option maxRecDepth 100000 in
set_option maxHeartbeats 4000000 in
theorem cold_walk (x : Int) (hx : 0 ≤ x ∧ x ≤ 255) (ao : Option Addr) (n cap : Nat) (K I : Nat → Int) (S : Nat → Bool) (w : World) (h : OpsAt w ao n K I S) (hn : n ≤ maxLen) :
    Calls Try.prog 5 #[.int .u8 x, .slice ao n cap] w fun e w' => e = .returned (.bool true) ∧ Below w.heap.size w w' := by
  unfold maxLen at hn
  have HO := Lib.hid h
  clear h
  obtain ⟨x0, x1⟩ := hx
  obtain ⟨q1, q2, q3⟩ := kOf_b x x0
  have hq : IntKind.i64.wrap (1 + x % 12) = (kOf x : Int) := by rw [q3]; exact IntWalk.i64_in _ (by omega)
  have HQ := Lib.hid q3
  generalize kOf x = k at *
  clear q3
  have hmk := fun w' => run_row (w := w') Try.underlying40 info4 rfl k (by omega) (by omega)
  go_enter Try.func5, Try.ntmps5
  go_wp2_with fail
  refine (new_in k w q1 (by omega)).mono ?_
  rintro e w1 ⟨b, rfl, hC, hB, hL⟩
  have HST := Lib.hid (⟨hB, hC, P.ok_new q1, hL⟩ : LS w w1 b k P.new 0)
  clear hB hL
  go_wp2_with fail
  have HST2 := Lib.hid (HST.out.go ((Below.refl _ w1).alloc (Nat.le_refl _) (.cells (rowV k fun _ => .bool false) 4)))
  have HRC := Lib.hid (⟨Blk.alloc_new w1 _ 4, fun hf => by have := hC.lt _ hf; omega⟩ : RowC (w1.alloc (.cells (rowV k fun _ => .bool false) 4)) b w1.heap.size k P.new)
  have hgb := HST.out.below.size
  clear hC HST
  generalize w1.alloc (.cells (rowV k fun _ => .bool false) 4) = w2 at *
  generalize w1.heap.size = g at *
  go_loopw [8] (fun i wr => ∃ m : Nat, i = .int .i64 m ∧ m ≤ 80 ∧ m ≤ n ∧ ∃ C, LS w wr b k C m ∧ RowC wr b g k C) (fun i _ => n - (intOf i).toNat)
  case atStart => exact ⟨0, rfl, by omega, by omega, _, HST2.out, HRC.out⟩
  case round =>
    clear HST2 HRC
    obtain ⟨m, rfl, hm, hmn, C, hC, hR⟩ := hrel
    by_cases hlt : (m : Int) < n ∧ (m : Int) < 80
    · obtain ⟨hl1, hl2⟩ := hlt
      obtain ⟨sb, so, rfl, hsb, c0, c1, c2⟩ := HO.out.at_ m (by omega)
      have d0 : wr.cell? ⟨sb, so + m * 3, none⟩ = some (.int .i64 (K m)) := by rw [hC.below.cell hsb]; exact c0
      have d1 : wr.cell? ⟨sb, so + m * 3 + 1, none⟩ = some (.int .i64 (I m)) := by rw [hC.below.cell hsb]; exact c1
      have d2 : wr.cell? ⟨sb, so + m * 3 + 2, none⟩ = some (.bool (S m)) := by rw [hC.below.cell hsb]; exact c2
      clear c0 c1 c2
      generalize K m = kk at *
      generalize I m = ii at *
      generalize S m = ss at *
      have hE := Blk.alloc_new wr #[.int .i64 kk, .int .i64 ii, .bool ss] 29
      have hf1 : ∀ i, b.foot i → i ≠ wr.heap.size := fun i hi e => by have := hC.cs.lt i hi; omega
      have hgc : g ≠ wr.heap.size := by have := hR.row.lt; omega
      replace hC := hC.go ((Below.refl _ wr).alloc (Nat.le_refl _) (.cells #[.int .i64 kk, .int .i64 ii, .bool ss] 29))
      replace hR := hR.go ((Below.refl _ wr).alloc (Nat.le_refl _) (.cells #[.int .i64 kk, .int .i64 ii, .bool ss] 29))
      have HC := Lib.hid hC
      have HR := Lib.hid hR
      have HE := Lib.hid hE
      clear hC hR hE
      go_upto_region 10 with (fail)
      clear d0 d1 d2 hsb
      generalize wr.alloc (.cells #[.int .i64 kk, .int .i64 ii, .bool ss] 29) = w1 at *
      generalize wr.heap.size = c at *
      go_wp2_with fail
      go_loop [11, 10] (fun j f => ∃ q : Nat, j = .int .i64 q ∧ q ≤ k ∧ f = .bool (P.anyHit C q)) (fun j _ => k - (intOf j).toNat)
      case atStart => exact ⟨0, rfl, by omega, rfl⟩
      case round =>
        obtain ⟨q, rfl, hq', rfl⟩ := hrel
        by_cases hlq : q < k
        · cases hf : P.anyHit C q with
          | true =>
            have hs : Hid (P.anyHit C (q + 1) = true) := by unfold Hid P.anyHit; rw [hf]; rfl
            clear hf
            go_wp2_with fail
            go_round
            case rel => exact ⟨q + 1, by go_num, by omega, by rw [hs.out]⟩
            case measure => simp [intOf]; omega
          | false =>
            have hs : Hid (P.anyHit C (q + 1) = P.hit C q) := by unfold Hid P.anyHit; rw [hf]; rfl
            have cg : w1.cell? ⟨g, q, none⟩ = some (.bool (C.cold q)) := HR.out.row.val hlq
            clear hf
            cases hcq : C.cold q with
            | true =>
              rw [hcq] at cg
              have hs2 : Hid (P.anyHit C (q + 1) = (C.pins q == 0)) := by unfold Hid; rw [hs.out, hit_eq, hcq]; rfl
              clear hcq hs
              go_wp2_with fail
              refine (pins_nat HC.out.cs q hlq).mono ?_
              rintro e w2 ⟨rfl, rfl⟩
              go_wp2_with fail
              go_round
              case rel => exact ⟨q + 1, by go_num, by omega, by rw [hs2.out]⟩
              case measure => simp [intOf]; omega
            | false =>
              rw [hcq] at cg
              have hs2 : Hid (P.anyHit C (q + 1) = false) := by unfold Hid; rw [hs.out, hit_eq, hcq]; rfl
              clear hcq hs
              go_wp2_with fail
              go_round
              case rel => exact ⟨q + 1, by go_num, by omega, by rw [hs2.out]⟩
              case measure => simp [intOf]; omega
        · obtain rfl : q = k := by omega
          have hC := HC.out
          have e0 : w1.cell? ⟨c, 0, none⟩ = some (.int .i64 kk) := HE.out.cell 0
          have e1 : w1.cell? ⟨c, 1, none⟩ = some (.int .i64 ii) := HE.out.cell 1
          have e2 : w1.cell? ⟨c, 2, none⟩ = some (.bool ss) := HE.out.cell 2
          go_wp2_with fail
          refine (do_any hC.cs kk ii ss (hC.pin (by omega))).mono ?_
          rintro e w2 ⟨rfl, hT⟩
          have hC2 := hC.step hT (P.ok_stp hC.ok kk ii ss)
          have hE2 : Blk w2 c _ _ := HE.out.fr hT.2 fun hf => hf1 _ hf rfl
          have hR2 : Blk w2 g (rowV q (bV C.cold)) 4 := HR.out.row.fr hT.2 HR.out.ne
          have hRn := HR.out.ne
          clear e0 e1 e2 hT HE HR
          have e0 : w2.cell? ⟨c, 0, none⟩ = some (.int .i64 kk) := hE2.cell 0
          have e1 : w2.cell? ⟨c, 1, none⟩ = some (.int .i64 ii) := hE2.cell 1
          have e2 : w2.cell? ⟨c, 2, none⟩ = some (.bool ss) := hE2.cell 2
          have hcold := P.stp_cold hC.ok kk ii ss
          have hrng : ii < 0 ∨ (0 ≤ ii ∧ (q : Int) ≤ ii) ∨ (0 ≤ ii ∧ ii < (q : Int)) := by omega
          by_cases h5 : kk = 5
          · subst h5
            rw [if_neg (by omega)] at hcold
            rcases hrng with h1 | ⟨h1, h2⟩ | ⟨h1, h2⟩
            · have h1' : ¬ 0 ≤ ii := by omega
              cases hf : P.anyHit C q with
              | true =>
                obtain ⟨v1, v, z1, z2, z3⟩ := P.vic_cold hC.ok hf
                have hst : P.stp q C 5 ii ss = P.vic q C := by unfold P.stp; rw [if_pos rfl]
                have hrv : (P.stp q C 5 ii ss).2.1 = (v : Int) := by rw [hst, z1]
                have hrb : (P.stp q C 5 ii ss).2.2 = true := by rw [hst, v1]
                have cw : w2.cell? ⟨g, v, none⟩ = some (.bool true) := by rw [hR2.val z2]; unfold bV; rw [z3]
                rw [hrv, hrb]
                clear hst hrv hrb z1 z3 v1 hf hC HC
                go_wp2_with fail
                go_roundw
                case rel => exact ⟨m + 1, by go_num, by omega, by omega, _, hC2, ⟨by rw [hcold]; exact hR2, hRn⟩⟩
                case measure => simp [intOf]; omega
              | false =>
                clear hf hC HC
                go_wp2_with fail
                go_roundw
                case rel => exact ⟨m + 1, by go_num, by omega, by omega, _, hC2, ⟨by rw [hcold]; exact hR2, hRn⟩⟩
                case measure => simp [intOf]; omega
            · skip
              cases hf : P.anyHit C q with
              | true =>
                obtain ⟨v1, v, z1, z2, z3⟩ := P.vic_cold hC.ok hf
                have hst : P.stp q C 5 ii ss = P.vic q C := by unfold P.stp; rw [if_pos rfl]
                have hrv : (P.stp q C 5 ii ss).2.1 = (v : Int) := by rw [hst, z1]
                have hrb : (P.stp q C 5 ii ss).2.2 = true := by rw [hst, v1]
                have cw : w2.cell? ⟨g, v, none⟩ = some (.bool true) := by rw [hR2.val z2]; unfold bV; rw [z3]
                rw [hrv, hrb]
                clear hst hrv hrb z1 z3 v1 hf hC HC
                go_wp2_with fail
                go_roundw
                case rel => exact ⟨m + 1, by go_num, by omega, by omega, _, hC2, ⟨by rw [hcold]; exact hR2, hRn⟩⟩
                case measure => simp [intOf]; omega
              | false =>
                clear hf hC HC
                go_wp2_with fail
                go_roundw
                case rel => exact ⟨m + 1, by go_num, by omega, by omega, _, hC2, ⟨by rw [hcold]; exact hR2, hRn⟩⟩
                case measure => simp [intOf]; omega
            · skip
              cases hf : P.anyHit C q with
              | true =>
                obtain ⟨v1, v, z1, z2, z3⟩ := P.vic_cold hC.ok hf
                have hst : P.stp q C 5 ii ss = P.vic q C := by unfold P.stp; rw [if_pos rfl]
                have hrv : (P.stp q C 5 ii ss).2.1 = (v : Int) := by rw [hst, z1]
                have hrb : (P.stp q C 5 ii ss).2.2 = true := by rw [hst, v1]
                have cw : w2.cell? ⟨g, v, none⟩ = some (.bool true) := by rw [hR2.val z2]; unfold bV; rw [z3]
                rw [hrv, hrb]
                clear hst hrv hrb z1 z3 v1 hf hC HC
                go_wp2_with fail
                go_roundw
                case rel => exact ⟨m + 1, by go_num, by omega, by omega, _, hC2, ⟨by rw [hcold]; exact hR2, hRn⟩⟩
                case measure => simp [intOf]; omega
              | false =>
                clear hf hC HC
                go_wp2_with fail
                go_roundw
                case rel => exact ⟨m + 1, by go_num, by omega, by omega, _, hC2, ⟨by rw [hcold]; exact hR2, hRn⟩⟩
                case measure => simp [intOf]; omega
          · have hb5 : (kk == 5) = false := by simp [h5]
            clear h5
            rcases hrng with h1 | ⟨h1, h2⟩ | ⟨h1, h2⟩
            · rw [if_neg (by omega)] at hcold
              clear hC HC
              go_wp2_with fail
              go_roundw
              case rel => exact ⟨m + 1, by go_num, by omega, by omega, _, hC2, ⟨by rw [hcold]; exact hR2, hRn⟩⟩
              case measure => simp [intOf]; omega
            · rw [if_neg (by omega)] at hcold
              clear hC HC
              go_wp2_with fail
              go_roundw
              case rel => exact ⟨m + 1, by go_num, by omega, by omega, _, hC2, ⟨by rw [hcold]; exact hR2, hRn⟩⟩
              case measure => simp [intOf]; omega
            · by_cases h3 : kk = 3
              · subst h3
                rw [if_pos ⟨⟨h1, h2⟩, .inl rfl⟩] at hcold
                obtain ⟨j, rfl⟩ : ∃ j : Nat, ii = j := ⟨ii.toNat, by omega⟩
                have hj : j < q := by omega
                have cg := hR2.val hj
                have fg := hR2.free j
                have hR3 := rowC_set hR2 j ss
                have hC3 := hC2.own hRn (by omega) j (.bool ss)
                rw [show (decide ((3 : Int) = 3) && ss) = ss by simp] at hcold
                have hE3 : Blk (w2.setCell ⟨g, j, none⟩ (.bool ss)) c _ _ := hE2.fr ((Fr.refl (fun i => i = g) w2).setCell _ _ fun _ => rfl) (fun e => hgc e.symm)
                have e3 : (w2.setCell ⟨g, j, none⟩ (.bool ss)).cell? ⟨c, 0, none⟩ = some (.int .i64 3) := hE3.cell 0
                have HF := Lib.hid (And.intro hC3 hR3)
                clear hC HC hC2 hC3 hR3 hE2 hE3
                cases ss with
                | true =>
                  go_wp2_with fail
                  go_roundw
                  case rel => exact ⟨m + 1, by go_num, by omega, by omega, _, HF.out.1, ⟨by rw [hcold]; exact HF.out.2, hRn⟩⟩
                  case measure => simp [intOf]; omega
                | false =>
                  go_wp2_with fail
                  go_roundw
                  case rel => exact ⟨m + 1, by go_num, by omega, by omega, _, HF.out.1, ⟨by rw [hcold]; exact HF.out.2, hRn⟩⟩
                  case measure => simp [intOf]; omega
              · by_cases h4 : kk = 4
                · subst h4
                  rw [if_pos ⟨⟨h1, h2⟩, .inr rfl⟩] at hcold
                  obtain ⟨j, rfl⟩ : ∃ j : Nat, ii = j := ⟨ii.toNat, by omega⟩
                  have hj : j < q := by omega
                  have cg := hR2.val hj
                  have fg := hR2.free j
                  have hR3 := rowC_set hR2 j false
                  have hC3 := hC2.own hRn (by omega) j (.bool false)
                  rw [show (decide ((4 : Int) = 3) && ss) = false by simp] at hcold
                  have hE3 : Blk (w2.setCell ⟨g, j, none⟩ (.bool false)) c _ _ := hE2.fr ((Fr.refl (fun i => i = g) w2).setCell _ _ fun _ => rfl) (fun e => hgc e.symm)
                  have e3 : (w2.setCell ⟨g, j, none⟩ (.bool false)).cell? ⟨c, 0, none⟩ = some (.int .i64 4) := hE3.cell 0
                  have HF := Lib.hid (And.intro hC3 hR3)
                  clear hC HC hC2 hC3 hR3 hE2 hE3
                  go_wp2_with fail
                  go_roundw
                  case rel => exact ⟨m + 1, by go_num, by omega, by omega, _, HF.out.1, ⟨by rw [hcold]; exact HF.out.2, hRn⟩⟩
                  case measure => simp [intOf]; omega
                · have hb3 : (kk == 3) = false := by simp [h3]
                  have hb4 : (kk == 4) = false := by simp [h4]
                  rw [if_neg (by omega)] at hcold
                  clear hC HC h3 h4
                  go_wp2_with fail
                  go_roundw
                  case rel => exact ⟨m + 1, by go_num, by omega, by omega, _, hC2, ⟨by rw [hcold]; exact hR2, hRn⟩⟩
                  case measure => simp [intOf]; omega
    · have hor : (n : Int) ≤ m ∨ ((m : Int) < n ∧ (80 : Int) ≤ m) := by omega
      clear hlt
      rcases hor with h1 | ⟨h1, h2⟩
      all_goals
        go_wp2_with fail
        refine (awake_any _).mono ?_
        rintro e w2 ⟨rfl, hb2⟩
        go_wp2_with fail
        go_ret
        exact ⟨rfl, hC.below.trans (hb2.mono hC.below.size)⟩
end Go.Proofs.Ytbibfoahlieccaa
