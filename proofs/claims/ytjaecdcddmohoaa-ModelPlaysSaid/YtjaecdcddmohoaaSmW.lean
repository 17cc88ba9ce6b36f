/- The walks of small and has. -/
import Derived.Test.YtjaecdcddmohoaaAwW
namespace Go.Proofs.Ytjaecdcddmohoaa
open Go.RowKit
set_option linter.unusedSimpArgs false
set_option linter.unusedVariables false
theorem run_slice_40 {b o n cap : Nat} (h1 : 40 ≤ cap) (w : World) :
    (Instr.slice 23 (.slice (some ⟨b, o, none⟩) n cap) none (some (.int .i64 40)) none).run Try.prog w = .ok (.slice (some ⟨b, o, none⟩) 40 cap) w := by
  obtain ⟨i', hi', hz⟩ : ∃ i, Try.prog.info? 35 = some i ∧ i.size = 5 := by
    have h : (Try.prog.info? 35).map (·.size) = some 5 := by kernel_rfl
    obtain ⟨i, h1, h2⟩ := Option.map_eq_some_iff.1 h
    exact ⟨i, h1, h2⟩
  have e2 := fun code w => bound_in (P := Try.prog) (k := .i64) (x := 40) (z := 40) (y := cap) (code := code) (w := w) rfl h1
  simp [Instr.slice, Instr.sliceBounds, run_underlying Try.underlying23, e2, sizeOf, typeInfo, hi', hz, Addr.add_lit]
theorem small_any (ao : Option Addr) (n cap : Nat) (w : World) (hcap : n ≤ cap) (hao : 0 < n → ∃ b o, ao = some ⟨b, o, none⟩) :
    Calls Try.prog 11 #[.slice ao n cap] w fun e w' => e = .returned (.slice ao (min n 40) cap) ∧ w = w' := by
  by_cases h : 40 < n
  · obtain ⟨b, o, rfl⟩ := hao (by omega)
    have h1 : (40 : Int) < (n : Int) := by omega
    have hs := run_slice_40 (b := b) (o := o) (n := n) (cap := cap) (by omega)
    have hm : Hid (min n 40 = 40) := by unfold Hid; omega
    clear h hao hcap
    go_enter Try.func11, Try.ntmps11
    go_wp2_with fail
    go_ret
    rw [hm.out]
    exact ⟨rfl, rfl⟩
  · have h1 : (n : Int) ≤ 40 := by omega
    have hm : Hid (min n 40 = n) := by unfold Hid; omega
    clear h hao hcap
    go_enter Try.func11, Try.ntmps11
    go_wp2_with fail
    go_ret
    rw [hm.out]
    exact ⟨rfl, rfl⟩
def NumC (L : List Int) : List Value := L.map (.int .u64)
theorem has_any (base : Nat) (v : Value) (L : List Int) (x : Int) (w : World) (h : w.ownsRow base 32 1 v L.length (NumC L)) :
    Calls Try.prog 18 #[v, .int .u64 x] w fun e w' => e = .returned (.bool (decide (x ∈ L))) ∧ w = w' := by
  rcases own_cases h with ⟨rfl, h0, _⟩ | ⟨g, cap, rfl, hcap, hm, hg, hlt, hc, _⟩
  · obtain rfl : L = [] := List.eq_nil_of_length_eq_zero h0
    clear h h0
    go_enter Try.func18, Try.ntmps18
    go_wp2_with fail
    refine wp_loop_rounds 1 ?_
    rw [rounds_succ]
    go_wp2_with fail
    go_ret
    exact ⟨by simp, rfl⟩
  · replace hc := Lib.hid hc
    clear h
    unfold maxLen at hm
    have HN : Hid (∀ j (hj : j < L.length), (NumC L)[j]? = some (.int .u64 L[j])) := fun j hj => by simp [NumC, hj]
    go_enter Try.func18, Try.ntmps18
    go_wp2_with fail
    go_loop [9] (fun i => ∃ k : Nat, i = .int .i64 k ∧ k ≤ L.length ∧ Hid (x ∉ L.take k)) (fun i => L.length - (intOf i).toNat)
    case atStart => exact ⟨0, rfl, Nat.zero_le _, by simp [Hid]⟩
    case round =>
      obtain ⟨k, rfl, hk, hno⟩ := hrel
      by_cases hlt : k < L.length
      · have c0 := hc.out k hlt
        rw [HN.out k hlt] at c0
        by_cases he : L[k] = x
        · have hr : Hid (decide (x ∈ L) = true) := by unfold Hid; rw [← he]; simp
          rw [he] at c0
          have hxx : (x == x) = true := by simp
          clear he
          go_wp2_with fail
          go_ret
          exact ⟨by rw [hr.out]; rfl, rfl⟩
        · have hne : (L[k] == x) = false := by simp [he]
          have hn : Hid (x ∉ L.take (k + 1)) := by
            unfold Hid
            rw [List.take_add_one, List.getElem?_eq_getElem hlt]
            intro hm
            rcases List.mem_append.1 hm with e | e
            · exact hno.out e
            · exact he (by simpa using e : x = L[k]).symm
          generalize L[k] = y at *
          clear he
          go_wp2_with fail
          go_round
          case rel => exact ⟨k + 1, by go_num, by omega, hn⟩
          case measure => simp [intOf]; omega
      · obtain rfl : k = L.length := by omega
        have hr : Hid (decide (x ∈ L) = false) := by
          have := hno.out
          rw [List.take_length] at this
          simp [Hid, this]
        go_wp2_with fail
        go_ret
        exact ⟨by rw [hr.out]; rfl, rfl⟩
end Go.Proofs.Ytjaecdcddmohoaa
