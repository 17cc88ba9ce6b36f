/- The walks of TurnNone and TurnOne. -/
import Derived.Test.YtphppojckbnaoaaArg
import Derived.WalkSpells
namespace Go.Proofs.Ytphppojckbnaoaa
open Go.RowKit
set_option linter.unusedSimpArgs false
set_option linter.unusedVariables false
set_option maxRecDepth 100000 in
set_option maxHeartbeats 1000000 in
theorem none_walk (x : Int) (w : World) : Calls Try.prog 6 #[.int .i64 x] w fun e w' => e = .returned (.bool true) ∧ Below w.heap.size w w' := by
  go_enter Try.func6, Try.ntmps6
  go_wp2_with fail
  refine (ask_nil _ _).mono ?_
  rintro e w1 ⟨rfl, rfl⟩
  go_wp2_with fail
  refine (has_nil _ _).mono ?_
  rintro e w1 ⟨rfl, rfl⟩
  go_wp2_with fail
  refine (leave_nil _ _).mono ?_
  rintro e w1 ⟨rfl, rfl⟩
  go_wp2_with fail
  refine (line_nil _).mono ?_
  rintro e w1 ⟨rfl, rfl⟩
  go_wp2_with fail
  refine (awake_any _).mono ?_
  rintro e w1 ⟨rfl, hb⟩
  go_wp2_with fail
  go_ret
  exact ⟨rfl, hb⟩
/-- A turn in a law. -/
structure US (w0 w : World) (v : Value) (L : List Int) : Prop where
  below : Below w0.heap.size w0 w
  T : TS w0.heap.size w w0.heap.size v L
  nodup : L.Nodup
theorem US.go {w0 w w' : World} {v : Value} {L : List Int} (h : US w0 w v L) (k : Below w.heap.size w w') : US w0 w' v L :=
  ⟨h.below.trans (k.mono h.below.size), h.T.fr (Fr.of_below k fun _ => False) fun _ _ h => h, h.nodup⟩
theorem US.alloc {w0 w : World} {v : Value} {L : List Int} (h : US w0 w v L) (o : Obj) : US w0 (w.alloc o) v L := h.go ((Below.refl _ _).alloc (Nat.le_refl _) _)
theorem US.step {w0 w w' : World} {v v' : Value} {L L' : List Int} (h : US w0 w v L) (hT : TS w0.heap.size w' w0.heap.size v' L') (hs : Stp w0.heap.size v v' w w') (hn : L'.Nodup) : US w0 w' v' L' :=
  ⟨hs.below h.T h.below (Nat.le_refl _), hT, hn⟩
theorem US.start (w : World) : US w (w.alloc (.cells #[.slice none 0 0] 40)) (.slice none 0 0) [] := ⟨new_below w, new_TS _ w (Nat.le_refl _), .nil⟩
/-- The line, its shape told. -/
theorem line_any2 {B : Nat} {w : World} {t : Nat} {v : Value} {L : List Int} (h : TS B w t v L) (hl : L.length ≤ 1000) :
    Calls Try.prog 15 #[.pointer (some ⟨t, 0, none⟩)] w fun e w' => ∃ ao cap, e = .returned (.slice ao L.length cap) ∧ w'.ownsRow w.heap.size 3 1 (.slice ao L.length cap) L.length (line L) ∧ Below w.heap.size w w' :=
  (line_any h hl).mono fun e w' ⟨u, he, ho, hb⟩ => by
    obtain ⟨ao, cap, rfl⟩ := own_slice ho
    exact ⟨ao, cap, he, ho, hb⟩
theorem ask_ask (L : List Int) (x : Int) : P.ask (P.ask L x) x = P.ask L x := P.ask_mem (P.mem_ask L x)
theorem erase_not {L : List Int} (h : L.Nodup) (x : Int) : x ∉ L.erase x := h.not_mem_erase
theorem has_not {L : List Int} {x : Int} (h : x ∉ L) : P.has L x = false := by
  unfold P.has; rw [decide_eq_false_iff_not]; exact fun e => h (List.mem_of_mem_head? e)
set_option maxRecDepth 100000 in
set_option maxHeartbeats 4000000 in
theorem one_walk (ao : Option Addr) (n cap : Nat) (K X : Nat → Int) (w : World) (h : OpsAt w ao n K X) (hn : n ≤ maxLen) :
    Calls Try.prog 5 #[.slice ao n cap] w fun e w' => e = .returned (.bool true) ∧ Below w.heap.size w w' := by
  unfold maxLen at hn
  have HO := Lib.hid h
  have HST := Lib.hid (US.start w)
  clear h
  go_enter Try.func5, Try.ntmps5
  go_wp2_with (go_at_call 7; refine (new_any _).mono ?_; rintro e w1 ⟨rfl, rfl⟩)
  go_loopw [4] (fun i wr => ∃ k : Nat, i = .int .i64 k ∧ k ≤ 60 ∧ k ≤ n ∧ ∃ v L, US w wr v L ∧ L.length ≤ k) (fun i _ => n - (intOf i).toNat)
  case atStart => exact ⟨0, rfl, by omega, by omega, _, _, HST.out, by simp⟩
  case round =>
    clear HST
    obtain ⟨k, rfl, hk, hkn, v, L, hP, hL⟩ := hrel
    by_cases hlt : (k : Int) < n ∧ (k : Int) < 60
    · obtain ⟨hl1, hl2⟩ := hlt
      obtain ⟨b, o, rfl, hb, c1, c2⟩ := HO.out.at_ k (by omega)
      have d1 : wr.cell? ⟨b, o + k * 2, none⟩ = some (.int .i64 (K k)) := by rw [hP.below.cell hb]; exact c1
      have d2 : wr.cell? ⟨b, o + k * 2 + 1, none⟩ = some (.int .i64 (X k)) := by rw [hP.below.cell hb]; exact c2
      clear c1 c2
      generalize K k = kk at *
      generalize X k = x at *
      have hc1 : ∀ b, foot w.heap.size v b → b < wr.heap.size := fun b hb => (hP.T.lt b hb).2
      have hE := Blk.alloc_new wr #[.int .i64 kk, .int .i64 x] 28
      replace hP := hP.alloc (.cells #[.int .i64 kk, .int .i64 x] 28)
      go_upto_region 8 with (fail)
      generalize wr.alloc (.cells #[.int .i64 kk, .int .i64 x] 28) = w1 at *
      generalize wr.heap.size = c at *
      clear d1 d2 hb
      have e0 : w1.cell? ⟨c, 0, none⟩ = some (.int .i64 kk) := hE.cell 0
      have e1 : w1.cell? ⟨c, 1, none⟩ = some (.int .i64 x) := hE.cell 1
      by_cases hk0 : kk = 0
      · subst hk0
        go_wp2_with fail
        refine (ask_any hP.T (by omega) x).mono ?_
        rintro e w2 ⟨rfl, v2, hT, hs⟩
        have hc2 : ∀ b, foot w.heap.size v2 b → b ≠ c := fun b hb e => by
          rcases hb with rfl | hb
          · have := hc1 _ (.inl rfl); omega
          · rcases hs.new with e' | e'
            · have := hc1 b (.inr (by rw [← e']; exact hb)); omega
            · have := e' b hb; have := hE.lt; omega
        replace hE := hE.fr hs.fr fun hf => by have := hc1 c hf; omega
        replace hP := hP.step hT hs (P.ask_nodup hP.nodup x)
        have hLa := Nat.le_trans (P.ask_length L x) (Nat.succ_le_succ hL)
        have hne : (((P.ask L x).length : Int) == 0) = false := by
          have := List.length_pos_of_mem (P.mem_ask L x)
          simp; intro e; rw [e] at this; simp at this
        clear hc1 hs hT e0 e1
        go_wp2_with fail
        refine (line_any2 hP.T (by omega)).mono ?_
        rintro e w3 ⟨ao3, cp3, rfl, hown, hb3⟩
        replace hP := hP.go hb3
        replace hE := hE.below hb3
        have e1 : w3.cell? ⟨c, 1, none⟩ = some (.int .i64 x) := hE.cell 1
        clear hown hb3
        go_wp2_with fail
        refine (ask_any hP.T (by omega) x).mono ?_
        rw [ask_ask]
        rintro e w4 ⟨rfl, v4, hT, hs⟩
        replace hP := hP.step hT hs hP.nodup
        clear hs hT hE e1
        generalize P.has (P.ask L x) x = a at *
        go_wp2_with fail
        refine (line_any2 hP.T (by omega)).mono ?_
        rintro e w5 ⟨ao5, cp5, rfl, hown, hb5⟩
        replace hP := hP.go hb5
        clear hown hb5
        generalize hLL : P.ask L x = M at *
        clear hLL
        go_wp2_with fail
        refine (line_any2 hP.T (by omega)).mono ?_
        rintro e w6 ⟨ao6, cp6, rfl, hown, hb6⟩
        replace hP := hP.go hb6
        rcases own_cases hown with ⟨he, h0, h1⟩ | ⟨gl, cl, he, hcl, _, hgl, hgl2, hcc, _⟩
        · exact absurd h0 (by intro e; rw [e] at hne; simp at hne)
        · injection he with e1 e2 e3
          subst e1
          subst e3
          have hrow : Row w6 gl (M) := fun j y hy => by rw [hcc j (List.getElem?_eq_some_iff.1 hy).1]; exact line_get hy
          have HR := Lib.hid hrow
          have HP := Lib.hid hP
          clear hown hcc hrow e2
          go_wp2_with fail
          go_loopw [72, 8] (fun j u wq => ∃ m : Nat, j = .int .i64 m ∧ m ≤ (M).length ∧ u = .int .i64 ((min m 1 : Nat) : Int) ∧ Below w6.heap.size w6 wq) (fun j _ _ => (M).length - (intOf j).toNat)
          case atStart => exact ⟨0, rfl, by omega, rfl, Below.refl _ _⟩
          case round =>
            obtain ⟨m, rfl, hm, rfl, hbq⟩ := hrel
            have hPq := HP.out.go hbq
            by_cases hlm : m < (M).length
            · obtain ⟨y, hy⟩ : ∃ y, (M)[m]? = some y := ⟨_, List.getElem?_eq_getElem hlm⟩
              have HY := Lib.hid hy
              have cq := (HR.out.go hgl2 hbq) m y hy
              clear hy
              by_cases hm0 : m = 0
              · have hhas := has_zero (by rw [← hm0]; exact HY.out)
                have hmn : min m 1 = 0 := by omega
                have hmn2 := Lib.hid (show min (m + 1) 1 = 1 by omega)
                rw [hmn]
                replace hm0 := Lib.hid hm0
                clear hmn
                go_wp2_with fail
                refine (has_any hPq.T (by omega) y).mono ?_
                rintro e w7 ⟨rfl, rfl⟩
                rw [hhas]
                go_wp2_with fail
                go_roundw
                case rel => exact ⟨m + 1, by go_num, by omega, by rw [hmn2.out]; rfl, hbq⟩
                case measure => simp [intOf]; omega
              · have hhas := has_pos hPq.nodup HY.out (by omega)
                have hmn : min m 1 = 1 := by omega
                have hmn2 := Lib.hid (show min (m + 1) 1 = 1 by omega)
                rw [hmn]
                replace hm0 := Lib.hid hm0
                clear hmn
                go_wp2_with fail
                refine (has_any hPq.T (by omega) y).mono ?_
                rintro e w7 ⟨rfl, rfl⟩
                rw [hhas]
                go_wp2_with fail
                go_roundw
                case rel => exact ⟨m + 1, by go_num, by omega, by rw [hmn2.out]; rfl, hbq⟩
                case measure => simp [intOf]; omega
            · obtain rfl : m = (M).length := by omega
              by_cases hl0 : (M).length = 0
              · exact absurd hl0 (by intro e; rw [e] at hne; simp at hne)
              · have hmn : min (M).length 1 = 1 := by omega
                have hmi : min (1 : Int) (((M).length : Nat) : Int) = 1 := by omega
                rw [hmn]
                clear hmn
                replace hl0 := Lib.hid hl0
                go_wp2_with fail
                refine (line_any2 hPq.T (by omega)).mono ?_
                rintro e w7 ⟨ao7, cp7, rfl, hown, hb7⟩
                replace hPq := hPq.go hb7
                clear hown
                go_wp2_with fail
                go_roundw
                case rel => exact ⟨k + 1, by go_num, by omega, by omega, _, _, hPq, by omega⟩
                case measure => simp [intOf]; omega
      · have hb0 : (kk == 0) = false := by simp [hk0]
        clear hk0
        go_wp2_with fail
        refine (leave_any hP.T (by omega) x).mono ?_
        rintro e w2 ⟨rfl, v2, hT, hs⟩
        have hc2 : ∀ b, foot w.heap.size v2 b → b ≠ c := fun b hb e => by
          rcases hb with rfl | hb
          · have := hc1 _ (.inl rfl); omega
          · rcases hs.new with e' | e'
            · have := hc1 b (.inr (by rw [← e']; exact hb)); omega
            · have := e' b hb; have := hE.lt; omega
        replace hE := hE.fr hs.fr fun hf => by have := hc1 c hf; omega
        have hnot := erase_not hP.nodup x
        replace hP := hP.step hT hs (hP.nodup.erase x)
        have hLa : (L.erase x).length ≤ k + 1 := by have := P.erase_length L x; omega
        have e1 : w2.cell? ⟨c, 1, none⟩ = some (.int .i64 x) := hE.cell 1
        have hh := has_not hnot
        have hd := Lib.hid (decide_eq_false hnot)
        have her := Lib.hid (List.erase_of_not_mem hnot)
        clear hc1 hs hT e0 hnot
        go_wp2_with fail
        refine (has_any hP.T (by omega) x).mono ?_
        rintro e w3 ⟨rfl, rfl⟩
        rw [hh]
        go_wp2_with fail
        refine (leave_any hP.T (by omega) x).mono ?_
        rw [hd.out, her.out]
        rintro e w4 ⟨rfl, v4, hT, hs⟩
        replace hP := hP.step hT hs hP.nodup
        clear hs hT hE e1 hh her hd
        generalize hLL : L.erase x = M at *
        clear hLL
        go_wp2_with fail
        refine (line_any2 hP.T (by omega)).mono ?_
        rintro e w6 ⟨ao6, cp6, rfl, hown, hb6⟩
        replace hP := hP.go hb6
        rcases own_cases hown with ⟨he, h0, h1⟩ | ⟨gl, cl, he, hcl, _, hgl, hgl2, hcc, _⟩
        · injection he with e1 e2 e3
          subst e1
          subst e3
          have h0' := Lib.hid h0
          rw [h0]
          clear h0 h1 e2 hown
          go_wp2_with fail
          refine wp_loop_rounds 1 ?_
          rw [rounds_succ]
          go_wp2_with fail
          refine (line_any2 hP.T (by omega)).mono ?_
          rintro e w7 ⟨ao7, cp7, rfl, hown, hb7⟩
          rw [h0'.out]
          replace hP := hP.go hb7
          clear hown
          go_wp2_with fail
          go_roundw
          case rel => exact ⟨k + 1, by go_num, by omega, by omega, _, _, hP, by omega⟩
          case measure => simp [intOf]; omega
        · injection he with e1 e2 e3
          subst e1
          subst e3
          have hrow : Row w6 gl (M) := fun j y hy => by rw [hcc j (List.getElem?_eq_some_iff.1 hy).1]; exact line_get hy
          have HR := Lib.hid hrow
          have HP := Lib.hid hP
          clear hown hcc hrow e2
          go_wp2_with fail
          go_loopw [72, 8] (fun j u wq => ∃ m : Nat, j = .int .i64 m ∧ m ≤ (M).length ∧ u = .int .i64 ((min m 1 : Nat) : Int) ∧ Below w6.heap.size w6 wq) (fun j _ _ => (M).length - (intOf j).toNat)
          case atStart => exact ⟨0, rfl, by omega, rfl, Below.refl _ _⟩
          case round =>
            obtain ⟨m, rfl, hm, rfl, hbq⟩ := hrel
            have hPq := HP.out.go hbq
            by_cases hlm : m < (M).length
            · obtain ⟨y, hy⟩ : ∃ y, (M)[m]? = some y := ⟨_, List.getElem?_eq_getElem hlm⟩
              have HY := Lib.hid hy
              have cq := (HR.out.go hgl2 hbq) m y hy
              clear hy
              by_cases hm0 : m = 0
              · have hhas := has_zero (by rw [← hm0]; exact HY.out)
                have hmn : min m 1 = 0 := by omega
                have hmn2 := Lib.hid (show min (m + 1) 1 = 1 by omega)
                rw [hmn]
                replace hm0 := Lib.hid hm0
                clear hmn
                go_wp2_with fail
                refine (has_any hPq.T (by omega) y).mono ?_
                rintro e w7 ⟨rfl, rfl⟩
                rw [hhas]
                go_wp2_with fail
                go_roundw
                case rel => exact ⟨m + 1, by go_num, by omega, by rw [hmn2.out]; rfl, hbq⟩
                case measure => simp [intOf]; omega
              · have hhas := has_pos hPq.nodup HY.out (by omega)
                have hmn : min m 1 = 1 := by omega
                have hmn2 := Lib.hid (show min (m + 1) 1 = 1 by omega)
                rw [hmn]
                replace hm0 := Lib.hid hm0
                clear hmn
                go_wp2_with fail
                refine (has_any hPq.T (by omega) y).mono ?_
                rintro e w7 ⟨rfl, rfl⟩
                rw [hhas]
                go_wp2_with fail
                go_roundw
                case rel => exact ⟨m + 1, by go_num, by omega, by rw [hmn2.out]; rfl, hbq⟩
                case measure => simp [intOf]; omega
            · obtain rfl : m = (M).length := by omega
              by_cases hl0 : (M).length = 0
              · have hmn : min (M).length 1 = 0 := by omega
                have hmi : min (1 : Int) (((M).length : Nat) : Int) = 0 := by omega
                rw [hmn]
                clear hmn
                replace hl0 := Lib.hid hl0
                go_wp2_with fail
                refine (line_any2 hPq.T (by omega)).mono ?_
                rintro e w7 ⟨ao7, cp7, rfl, hown, hb7⟩
                replace hPq := hPq.go hb7
                clear hown
                go_wp2_with fail
                go_roundw
                case rel => exact ⟨k + 1, by go_num, by omega, by omega, _, _, hPq, by omega⟩
                case measure => simp [intOf]; omega
              · have hmn : min (M).length 1 = 1 := by omega
                have hmi : min (1 : Int) (((M).length : Nat) : Int) = 1 := by omega
                rw [hmn]
                clear hmn
                replace hl0 := Lib.hid hl0
                go_wp2_with fail
                refine (line_any2 hPq.T (by omega)).mono ?_
                rintro e w7 ⟨ao7, cp7, rfl, hown, hb7⟩
                replace hPq := hPq.go hb7
                clear hown
                go_wp2_with fail
                go_roundw
                case rel => exact ⟨k + 1, by go_num, by omega, by omega, _, _, hPq, by omega⟩
                case measure => simp [intOf]; omega
    · have hor : (n : Int) ≤ k ∨ ((k : Int) < n ∧ (60 : Int) ≤ k) := by omega
      clear hlt
      rcases hor with h1 | ⟨h1, h2⟩
      all_goals
        go_wp2_with fail
        refine (awake_any _).mono ?_
        rintro e w1 ⟨rfl, hb1⟩
        go_wp2_with fail
        go_ret
        exact ⟨rfl, hP.below.trans (hb1.mono hP.below.size)⟩
end Go.Proofs.Ytphppojckbnaoaa
