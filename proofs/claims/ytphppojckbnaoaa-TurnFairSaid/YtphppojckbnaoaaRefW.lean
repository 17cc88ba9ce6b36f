/- The walks of the document's turn. -/
import Derived.Test.YtphppojckbnaoaaTurnW
import Derived.Great.BuildSlice
namespace Go.Proofs.Ytphppojckbnaoaa
open Go.RowKit
set_option linter.unusedSimpArgs false
set_option linter.unusedVariables false
theorem info42 : (Try.prog.info? 42).map (fun i => (i.zero, i.size, i.bytes)) = some (some (.agg #[.int .i64 0, .int .i64 0]), 2, 16) := by kernel_rfl
theorem size42 : (Try.prog.info? 42).map (·.size) = some 2 := by kernel_rfl
theorem size32 : (Try.prog.info? 32).map (·.size) = some 1 := by kernel_rfl
/-- Pairs as cells. -/
def flat (R : List (Int × Int)) : List Value := R.flatMap fun p => [iv p.1, iv p.2]
theorem flat_length (R : List (Int × Int)) : (flat R).length = R.length * 2 := by
  unfold flat; induction R with
  | nil => rfl
  | cons p R ih => simp [List.flatMap_cons] at ih ⊢; omega
theorem flat_get {R : List (Int × Int)} {k : Nat} {p : Int × Int} (h : R[k]? = some p) : (flat R)[k * 2]? = some (.int .i64 p.1) ∧ (flat R)[k * 2 + 1]? = some (.int .i64 p.2) := by
  induction R generalizing k with
  | nil => simp at h
  | cons q R ih =>
    cases k with
    | zero => simp at h; subst h; exact ⟨rfl, rfl⟩
    | succ k =>
      have := ih (k := k) (by simpa using h)
      rw [show (k + 1) * 2 = k * 2 + 2 by omega]
      exact this
theorem flat_append (R S : List (Int × Int)) : flat (R ++ S) = flat R ++ flat S := List.flatMap_append
theorem flat_one (R : List (Int × Int)) : ∀ u ∈ flat R, u.oneCell' = true := by
  intro u hu
  obtain ⟨p, _, hp⟩ := List.mem_flatMap.1 hu
  simp at hp
  rcases hp with rfl | rfl <;> rfl
/-- Block t is the document's turn. -/
structure RS (B : Nat) (w : World) (t : Nat) (v : Value) (R : List (Int × Int)) (N : Int) : Prop where
  blk : Blk w t #[v, .int .i64 N] 34
  own : w.ownsRow B 42 2 v R.length (flat R)
  ne : v.ownBlock ≠ some t
  base : B ≤ t
theorem RS.fr {B : Nat} {w w' : World} {t : Nat} {v : Value} {R : List (Int × Int)} {N : Int} (h : RS B w t v R N) {S : Nat → Prop} (k : Fr S w w') (hn : ∀ b, foot t v b → ¬ S b) : RS B w' t v R N :=
  ⟨h.blk.fr k (hn t (.inl rfl)), own_fr h.own k fun b hb => hn b (.inr hb), h.ne, h.base⟩
theorem RS.lt {B : Nat} {w : World} {t : Nat} {v : Value} {R : List (Int × Int)} {N : Int} (h : RS B w t v R N) : ∀ b, foot t v b → B ≤ b ∧ b < w.heap.size := by
  rintro b (rfl | hb)
  · exact ⟨h.base, h.blk.lt⟩
  · exact h.own.lt b hb
theorem RS.go {B : Nat} {w w' : World} {t : Nat} {v : Value} {R : List (Int × Int)} {N : Int} (h : RS B w t v R N) (k : Below w.heap.size w w') : RS B w' t v R N := h.fr (Fr.of_below k fun _ => False) fun _ _ h => h
theorem at_found {R : List (Int × Int)} {x : Int} {k : Nat} {p : Int × Int} (h : ∀ j q, j < k → R[j]? = some q → q.1 ≠ x) (hk : R[k]? = some p) (hp : p.1 = x) : P.at' R x = p.2 := by
  unfold P.at'
  induction R generalizing k with
  | nil => simp at hk
  | cons q R ih =>
    rw [List.find?_cons]
    cases k with
    | zero => simp at hk; subst hk; simp [hp]
    | succ k =>
      have hq := h 0 q (by omega) rfl
      rw [show (q.1 == x) = false by simp [hq]]
      exact ih (k := k) (fun j q' hj hq' => h (j + 1) q' (by omega) (by simpa using hq')) (by simpa using hk)
theorem at_none {R : List (Int × Int)} {x : Int} (h : ∀ j q, j < R.length → R[j]? = some q → q.1 ≠ x) : P.at' R x = 0 := by
  refine P.at_not fun hm => ?_
  obtain ⟨q, hq, e⟩ := List.mem_map.1 hm
  obtain ⟨j, hj, e'⟩ := List.getElem_of_mem hq
  exact h j q hj (by rw [List.getElem?_eq_getElem hj, e']) e
set_option maxRecDepth 100000 in
set_option maxHeartbeats 1000000 in
theorem refat_any {B : Nat} {w : World} {t : Nat} {v : Value} {R : List (Int × Int)} {N : Int} (h : RS B w t v R N) (hl : R.length ≤ 1000) (x : Int) :
    Calls Try.prog 16 #[.pointer (some ⟨t, 0, none⟩), .int .i64 x] w fun e w' => e = .returned (.int .i64 (P.at' R x)) ∧ Below w.heap.size w w' := by
  have c0 : w.cell? ⟨t, 0, none⟩ = some v := by rw [h.blk.cell]; rfl
  rcases own_cases_n h.own with ⟨rfl, h0, h1⟩ | ⟨g, cap, rfl, hcap, hm, hg, hlt, hc, _⟩
  · obtain rfl : R = [] := List.eq_nil_of_length_eq_zero h0
    go_enter Try.func16, Try.ntmps16
    go_wp2
    refine wp_loop_rounds 1 ?_
    rw [rounds_succ]
    go_wp2
    go_ret
    exact ⟨rfl, Below.refl _ _⟩
  · have HC := Lib.hid hc
    clear hc
    go_enter Try.func16, Try.ntmps16
    go_wp2
    go_loopw [12] (fun i wr => ∃ k : Nat, i = .int .i64 k ∧ k ≤ R.length ∧ Hid (∀ j q, j < k → R[j]? = some q → q.1 ≠ x) ∧ Below w.heap.size w wr) (fun i _ => R.length - (intOf i).toNat)
    case atStart => exact ⟨0, rfl, by omega, fun j q hj => by omega, Below.refl _ _⟩
    case round =>
      obtain ⟨k, rfl, hk, hno, hb⟩ := hrel
      by_cases hlt' : k < R.length
      · obtain ⟨p, hp⟩ : ∃ p, R[k]? = some p := ⟨_, List.getElem?_eq_getElem hlt'⟩
        have c1 : wr.cell? ⟨g, k * 2, none⟩ = some (.int .i64 p.1) := by rw [hb.cell hlt]; exact (HC.out (k * 2) (by omega)).trans (flat_get hp).1
        have c2 : wr.cell? ⟨g, k * 2 + 1, none⟩ = some (.int .i64 p.2) := by rw [hb.cell hlt]; exact (HC.out (k * 2 + 1) (by omega)).trans (flat_get hp).2
        have HP := Lib.hid hp
        clear hp
        by_cases hx : p.1 = x
        · have hbx : (p.1 == x) = true := by simp [hx]
          have HX := Lib.hid hx
          clear hx
          go_wp2
          go_ret
          exact ⟨ret_int (at_found hno.out HP.out HX.out).symm, hb.alloc hb.size _⟩
        · have hbx : (p.1 == x) = false := by simp [hx]
          have HX := Lib.hid hx
          clear hx
          go_wp2
          go_roundw
          case rel => exact ⟨k + 1, by go_num, by omega, fun j q hj hq => by
            rcases Nat.lt_or_ge j k with h | h
            · exact hno.out j q h hq
            · obtain rfl : j = k := by omega
              have := HP.out.symm.trans hq
              obtain rfl := Option.some.inj this
              exact HX.out, hb.alloc hb.size _⟩
          case measure => simp [intOf]; omega
      · obtain rfl : k = R.length := by omega
        go_wp2
        go_ret
        exact ⟨ret_int (at_none hno.out).symm, hb⟩

theorem rhas_found {R : List (Int × Int)} {x : Int} {k : Nat} {p : Int × Int} (hk : R[k]? = some p) (hp : p.2 < P.at' R x) : P.rhas R x = false := by
  unfold P.rhas
  rw [Bool.and_eq_false_iff]
  refine .inl ?_
  rw [Bool.eq_false_iff, ne_eq, List.all_eq_true]
  intro h
  have := h p (List.mem_of_getElem? hk)
  simp at this
  omega
theorem rhas_none {R : List (Int × Int)} {x : Int} (h : ∀ j q, j < R.length → R[j]? = some q → ¬ q.2 < P.at' R x) : P.rhas R x = decide (0 < P.at' R x) := by
  unfold P.rhas
  rw [List.all_eq_true.2, Bool.true_and]
  intro q hq
  obtain ⟨j, hj, e⟩ := List.getElem_of_mem hq
  have := h j q hj (by rw [List.getElem?_eq_getElem hj, e])
  simp [this]
set_option maxRecDepth 100000 in
set_option maxHeartbeats 1000000 in
theorem refhas_any {B : Nat} {w : World} {t : Nat} {v : Value} {R : List (Int × Int)} {N : Int} (h : RS B w t v R N) (hl : R.length ≤ 1000) (x : Int) :
    Calls Try.prog 14 #[.pointer (some ⟨t, 0, none⟩), .int .i64 x] w fun e w' => e = .returned (.bool (P.rhas R x)) ∧ Below w.heap.size w w' := by
  rcases own_cases_n h.own with ⟨rfl, h0, h1⟩ | ⟨g, cap, rfl, hcap, hm, hg, hlt, hc, _⟩
  · obtain rfl : R = [] := List.eq_nil_of_length_eq_zero h0
    go_enter Try.func14, Try.ntmps14
    go_wp2_with fail
    refine (refat_any h hl x).mono ?_
    rintro e w1 ⟨rfl, hb⟩
    have c0 : w1.cell? ⟨t, 0, none⟩ = some (.slice none 0 0) := by rw [hb.cell h.blk.lt, h.blk.cell]; rfl
    rw [show P.at' [] x = 0 from rfl]
    go_wp2
    refine wp_loop_rounds 1 ?_
    rw [rounds_succ]
    go_wp2
    go_ret
    exact ⟨rfl, hb⟩
  · have HC := Lib.hid hc
    clear hc
    go_enter Try.func14, Try.ntmps14
    go_wp2_with fail
    refine (refat_any h hl x).mono ?_
    rintro e w1 ⟨rfl, hb1⟩
    have c0 : w1.cell? ⟨t, 0, none⟩ = some (.slice (some ⟨g, 0, none⟩) R.length cap) := by rw [hb1.cell h.blk.lt, h.blk.cell]; rfl
    obtain ⟨A, hA⟩ : ∃ A, P.at' R x = A := ⟨_, rfl⟩
    have HA := Lib.hid hA
    rw [hA]
    clear hA
    go_wp2
    go_loopw [16] (fun i wr => ∃ k : Nat, i = .int .i64 k ∧ k ≤ R.length ∧ Hid (∀ j q, j < k → R[j]? = some q → ¬ q.2 < A) ∧ Below w.heap.size w wr) (fun i _ => R.length - (intOf i).toNat)
    case atStart => exact ⟨0, rfl, by omega, fun j q hj => by omega, hb1⟩
    case round =>
      clear c0
      obtain ⟨k, rfl, hk, hno, hb⟩ := hrel
      by_cases hlt' : k < R.length
      · obtain ⟨p, hp⟩ : ∃ p, R[k]? = some p := ⟨_, List.getElem?_eq_getElem hlt'⟩
        have c1 : wr.cell? ⟨g, k * 2, none⟩ = some (.int .i64 p.1) := by rw [hb.cell hlt]; exact (HC.out (k * 2) (by omega)).trans (flat_get hp).1
        have c2 : wr.cell? ⟨g, k * 2 + 1, none⟩ = some (.int .i64 p.2) := by rw [hb.cell hlt]; exact (HC.out (k * 2 + 1) (by omega)).trans (flat_get hp).2
        have HP := Lib.hid hp
        clear hp
        by_cases hx : p.2 < A
        · have hbx : decide (p.2 < A) = true := by simp [hx]
          go_wp2
          go_ret
          exact ⟨ret_bool (rhas_found HP.out (by rw [HA.out]; exact hx)).symm, hb.alloc hb.size _⟩
        · have hbx : decide (p.2 < A) = false := by simp [hx]
          have HX := Lib.hid hx
          have hge : A ≤ p.2 := by omega
          clear hx
          go_wp2
          go_roundw
          case rel => exact ⟨k + 1, by go_num, by omega, fun j q hj hq => by
            rcases Nat.lt_or_ge j k with h | h
            · exact hno.out j q h hq
            · obtain rfl : j = k := by omega
              have := HP.out.symm.trans hq
              obtain rfl := Option.some.inj this
              exact HX.out, hb.alloc hb.size _⟩
          case measure => simp [intOf]; omega
      · obtain rfl : k = R.length := by omega
        go_wp2
        go_ret
        exact ⟨ret_bool (by rw [rhas_none (fun j q hj hq => by have := hno.out j q hj hq; rw [HA.out]; omega), HA.out]), hb⟩
theorem refnew_any (w : World) : Calls Try.prog 8 #[] w fun e w' => e = .returned (.pointer (some ⟨w.heap.size, 0, none⟩)) ∧ w.alloc (.cells #[.slice none 0 0, .int .i64 0] 34) = w' := by
  go_enter Try.func8, Try.ntmps8
  go_wp2
  go_ret
  exact ⟨rfl, rfl⟩
theorem refnew_RS (B : Nat) (w : World) (hB : B ≤ w.heap.size) : RS B (w.alloc (.cells #[.slice none 0 0, .int .i64 0] 34)) w.heap.size (.slice none 0 0) [] 0 :=
  ⟨Blk.alloc_new _ _ _, World.ownsRow_nil _ _ _ _, by simp [Value.ownBlock], hB⟩
end Go.Proofs.Ytphppojckbnaoaa
