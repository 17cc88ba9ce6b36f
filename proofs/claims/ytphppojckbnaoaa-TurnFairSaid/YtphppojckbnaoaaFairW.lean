/- The walk of TurnFair. -/
import Derived.Test.YtphppojckbnaoaaNoneW
namespace Go.Proofs.Ytphppojckbnaoaa
open Go.RowKit
set_option linter.unusedSimpArgs false
set_option linter.unusedVariables false
theorem ask_pre (L : List Int) (x : Int) : ∃ S, P.ask L x = L ++ S := by
  unfold P.ask; split
  · exact ⟨[], by simp⟩
  · exact ⟨[x], rfl⟩
theorem mem_ask2 {L : List Int} {x : Int} (h : x ∈ L) (y : Int) : x ∈ P.ask L y := by
  obtain ⟨S, hS⟩ := ask_pre L y
  rw [hS]; exact List.mem_append_left _ h
theorem has_drop {M : List Int} {j : Nat} {y : Int} (h : M[j]? = some y) (x : Int) : P.has (M.drop j) x = decide (y = x) := by
  unfold P.has
  rw [List.head?_drop, h]
  simp
theorem erase_drop {M : List Int} {j : Nat} {y : Int} (h : M[j]? = some y) : (M.drop j).erase y = M.drop (j + 1) := by
  have hl := (List.getElem?_eq_some_iff.1 h).1
  rw [List.getElem?_eq_getElem hl] at h
  rw [List.drop_eq_getElem_cons hl, Option.some.inj h, List.erase_cons_head]
theorem mem_drop {M : List Int} {j : Nat} {y : Int} (h : M[j]? = some y) : decide (y ∈ M.drop j) = true := by
  have hl := (List.getElem?_eq_some_iff.1 h).1
  rw [List.getElem?_eq_getElem hl] at h
  rw [List.drop_eq_getElem_cons hl, Option.some.inj h]
  simp
set_option maxRecDepth 100000 in
set_option maxHeartbeats 4000000 in
theorem fair_walk (ao : Option Addr) (n cap : Nat) (K X : Nat → Int) (who : Int) (ao2 : Option Addr) (n2 cap2 : Nat) (Y : Nat → Int) (w : World) (h : OpsAt w ao n K X) (hn : n ≤ maxLen) (h2 : NumsAt w ao2 n2 Y) (hn2 : n2 ≤ maxLen) :
    Calls Try.prog 4 #[.slice ao n cap, .int .i64 who, .slice ao2 n2 cap2] w fun e w' => e = .returned (.bool true) ∧ Below w.heap.size w w' := by
  unfold maxLen at hn hn2
  have HO := Lib.hid h
  have HM := Lib.hid h2
  have HST := Lib.hid (US.start w)
  clear h h2
  go_enter Try.func4, Try.ntmps4
  go_wp2_with (go_at_call 7; refine (new_any _).mono ?_; rintro e w1 ⟨rfl, rfl⟩)
  go_loopw [8] (fun i wr => ∃ k : Nat, i = .int .i64 k ∧ k ≤ 60 ∧ k ≤ n ∧ ∃ v L, US w wr v L ∧ L.length ≤ k) (fun i _ => n - (intOf i).toNat)
  case atStart => exact ⟨0, rfl, by omega, by omega, _, _, HST.out, by simp⟩
  case round =>
    clear HST
    obtain ⟨k, rfl, hk, hkn, v, L, hP, hL⟩ := hrel
    by_cases hlt : (k : Int) < n ∧ (k : Int) < 60
    · obtain ⟨hl1, hl2⟩ := hlt
      obtain ⟨b, o, rfl, hb, c1, c2⟩ := HO.out.at_ k (by omega)
      have d1 : wr.cell? ⟨b, o + k * 2, none⟩ = some (.int .i64 (K k)) := by rw [hP.below.cell hb]; exact c1
      have d2 : wr.cell? ⟨b, o + k * 2 + 1, none⟩ = some (.int .i64 (X k)) := by rw [hP.below.cell hb]; exact c2
      clear c1 c2
      generalize K k = kk at *
      generalize X k = x at *
      by_cases hk0 : kk = 0
      · have hb0 : (kk == 0) = true := by simp [hk0]
        clear hk0
        go_wp2_with fail
        refine (ask_any hP.T (by omega) x).mono ?_
        rintro e w2 ⟨rfl, v2, hT, hs⟩
        have hP2 := hP.step hT hs (P.ask_nodup hP.nodup x)
        have hLa := Nat.le_trans (P.ask_length L x) (Nat.succ_le_succ hL)
        go_wp2_with fail
        go_roundw
        case rel => exact ⟨k + 1, by go_num, by omega, by omega, _, _, hP2, by omega⟩
        case measure => simp [intOf]; omega
      · have hb0 : (kk == 0) = false := by simp [hk0]
        clear hk0
        go_wp2_with fail
        refine (leave_any hP.T (by omega) x).mono ?_
        rintro e w2 ⟨rfl, v2, hT, hs⟩
        have hP2 := hP.step hT hs (hP.nodup.erase x)
        have hLa : (L.erase x).length ≤ k + 1 := by have := P.erase_length L x; omega
        go_wp2_with fail
        go_roundw
        case rel => exact ⟨k + 1, by go_num, by omega, by omega, _, _, hP2, by omega⟩
        case measure => simp [intOf]; omega
    · have hor : (n : Int) ≤ k ∨ ((k : Int) < n ∧ (60 : Int) ≤ k) := by omega
      clear hlt
      rcases hor with h1 | ⟨h1, h2⟩
      all_goals
        go_wp2_with fail
        refine (ask_any hP.T (by omega) who).mono ?_
        rintro e w2 ⟨rfl, v2, hT, hs⟩
        replace hP := hP.step hT hs (P.ask_nodup hP.nodup who)
        have hLa := Nat.le_trans (P.ask_length L who) (Nat.succ_le_succ hL)
        have hw := Lib.hid (P.mem_ask L who)
        clear hs hT
        generalize P.ask L who = M at *
        go_wp2_with fail
        have HP := Lib.hid hP
        clear hP
        go_loopw [9] (fun i wq => ∃ k : Nat, i = .int .i64 k ∧ k ≤ 40 ∧ k ≤ n2 ∧ ∃ v L, US w wq v L ∧ L.length ≤ 61 + k ∧ Hid (who ∈ L)) (fun i _ => n2 - (intOf i).toNat)
        case atStart => exact ⟨0, rfl, by omega, by omega, _, _, HP.out, by omega, hw.out⟩
        case round =>
          clear HP hw hLa
          obtain ⟨q, rfl, hq, hqn, v, L, hP, hL, hw⟩ := hrel
          by_cases hlt : (q : Int) < n2 ∧ (q : Int) < 40
          · obtain ⟨hl1, hl2⟩ := hlt
            obtain ⟨b, o, rfl, hb, c1⟩ := HM.out.at_ q (by omega)
            have d1 : wr.cell? ⟨b, o + q, none⟩ = some (.int .i64 (Y q)) := by rw [hP.below.cell hb]; exact c1
            clear c1
            generalize Y q = x at *
            go_wp2_with fail
            refine (ask_any hP.T (by omega) x).mono ?_
            rintro e w2 ⟨rfl, v2, hT, hs⟩
            have hP2 := hP.step hT hs (P.ask_nodup hP.nodup x)
            have hLa := P.ask_length L x
            have hw2 := Lib.hid (mem_ask2 hw.out x)
            go_wp2_with fail
            go_roundw
            case rel => exact ⟨q + 1, by go_num, by omega, by omega, _, _, hP2, by omega, hw2.out⟩
            case measure => simp [intOf]; omega
          · have hor : (n2 : Int) ≤ q ∨ ((q : Int) < n2 ∧ (40 : Int) ≤ q) := by omega
            clear hlt
            rcases hor with h1 | ⟨h1, h2⟩
            all_goals
              go_wp2_with fail
              refine (line_any2 hP.T (by omega)).mono ?_
              rintro e w6 ⟨ao6, cp6, rfl, hown, hb6⟩
              have hfoot : ∀ b, foot w.heap.size v b → b < wr.heap.size := fun b hb => (hP.T.lt b hb).2
              have hf2 := hP.go hb6
              rcases own_cases hown with ⟨he, h0, h1⟩ | ⟨gl, cl, he, hcl, _, hgl, hgl2, hcc, _⟩
              · exact absurd hw.out (by rw [List.eq_nil_of_length_eq_zero h0]; simp)
              · injection he with e1 e2 e3
                subst e1
                subst e3
                have HR := Lib.hid (show Row w6 gl L from fun j y hy => by rw [hcc j (List.getElem?_eq_some_iff.1 hy).1]; exact line_get hy)
                have HP := Lib.hid hf2
                have HF := Lib.hid (show ∀ b, foot w.heap.size v b → b ≠ gl from fun b hb e => by have := hfoot b hb; omega)
                clear hown hcc e2 hf2 hfoot hP hb6
                go_wp2_with fail
                go_loopw [67] (fun j wq => ∃ (m : Nat) (v : Value), j = .int .i64 m ∧ m ≤ L.length ∧ US w wq v (L.drop m) ∧ Hid (Row wq gl L) ∧ gl < wq.heap.size ∧ Hid (∀ b, foot w.heap.size v b → b ≠ gl) ∧ Hid (who ∉ L.take m)) (fun j _ => L.length - (intOf j).toNat)
                case atStart => exact ⟨0, v, rfl, by omega, HP.out, HR.out, hgl2, HF.out, by unfold Hid; simp⟩
                case round =>
                  clear HR HP HF
                  obtain ⟨m, v, rfl, hm, hP, HR, hgl3, HF, HN⟩ := hrel
                  have hdl : (L.drop m).length ≤ 900 := by simp; omega
                  by_cases hlm : m < L.length
                  · obtain ⟨y, hy⟩ : ∃ y, L[m]? = some y := ⟨_, List.getElem?_eq_getElem hlm⟩
                    have HY := Lib.hid hy
                    have cq := HR.out m y hy
                    clear hy
                    by_cases hyw : y = who
                    · have hbw : (y == who) = true := by simp [hyw]
                      have hhas : P.has (L.drop m) who = true := by rw [has_drop HY.out]; simp [hyw]
                      clear hyw
                      go_wp2_with fail
                      refine (has_any hP.T (by omega) who).mono ?_
                      rintro e w7 ⟨rfl, rfl⟩
                      rw [hhas]
                      go_wp2_with fail
                      refine (awake_any _).mono ?_
                      rintro e w8 ⟨rfl, hb8⟩
                      go_wp2_with fail
                      go_ret
                      exact ⟨rfl, hP.below.trans (hb8.mono hP.below.size)⟩
                    · have hbw : (y == who) = false := by simp [hyw]
                      have hhas : P.has (L.drop m) who = false := by rw [has_drop HY.out]; simp [hyw]
                      have hhas2 : P.has (L.drop m) y = true := by rw [has_drop HY.out]; simp
                      have hmem := Lib.hid (mem_drop HY.out)
                      have hera := Lib.hid (erase_drop HY.out)
                      have HN2 : Hid (who ∉ L.take (m + 1)) := by
                        unfold Hid
                        rw [List.take_add_one, HY.out, List.mem_append]
                        rintro (h | h)
                        · exact HN.out h
                        · simp at h; exact hyw h.symm
                      clear hyw
                      go_wp2_with fail
                      refine (has_any hP.T (by omega) who).mono ?_
                      rintro e w7 ⟨rfl, rfl⟩
                      rw [hhas]
                      go_wp2_with fail
                      refine (has_any hP.T (by omega) y).mono ?_
                      rintro e w7 ⟨rfl, rfl⟩
                      rw [hhas2]
                      go_wp2_with fail
                      refine (leave_any hP.T (by omega) y).mono ?_
                      rw [hmem.out, hera.out]
                      rintro e w7 ⟨rfl, v', hT, hs⟩
                      have hP2 := hP.step hT hs (hP.nodup.sublist (List.drop_sublist_drop_left _ (Nat.le_succ m)))
                      have HR2 : Hid (Row w7 gl L) := fun j z hz => by
                        have := HR.out j z hz
                        rw [World.cell?_of_block (w := wr) (hs.fr.block gl hgl3 fun hf => HF.out gl hf rfl)]
                        exact this
                      have hgl4 : gl < w7.heap.size := Nat.lt_of_lt_of_le hgl3 hs.fr.size
                      have HF2 : Hid (∀ b, foot w.heap.size v' b → b ≠ gl) := fun b hb e => by
                        rcases hb with rfl | hb
                        · exact HF.out _ (.inl rfl) e
                        · rcases hs.new with e' | e'
                          · exact HF.out b (.inr (by rw [← e']; exact hb)) e
                          · have := e' b hb; omega
                      clear hT hs
                      go_wp2_with fail
                      go_roundw
                      case rel => exact ⟨m + 1, v', by go_num, by omega, hP2, HR2, hgl4, HF2, HN2⟩
                      case measure => simp [intOf]; omega
                  · obtain rfl : m = L.length := by omega
                    exact absurd hw.out (by have := HN.out; rwa [List.take_length] at this)
end Go.Proofs.Ytphppojckbnaoaa
