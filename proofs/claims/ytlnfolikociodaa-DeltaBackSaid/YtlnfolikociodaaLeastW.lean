/- The walk of DeltaLeast. -/
import Derived.Test.YtlnfolikociodaaAwakeW
import Derived.Test.YtlnfolikociodaaReadW
namespace Go.Proofs.Ytlnfolikociodaa
open Go.RowKit
set_option linter.unusedSimpArgs false
theorem pc_next {t : Nat → Bool} {b : Nat → BitVec 8} : ∀ (n p : Nat), 64 - p ≤ n → pc t b p ≠ [] → ∃ q, p ≤ q ∧ q < 64 ∧ t q = true ∧ (∀ j, p ≤ j → j < q → t j = false) ∧
    pc t b p = BitVec.ofNat 8 q :: BitVec.ofNat 8 (stop t q - q) :: (seg b q (stop t q) ++ pc t b (stop t q))
  | 0, p, hn, h => absurd (pc_end t b (by omega)) h
  | n + 1, p, hn, h => by
    by_cases hp : p < 64
    · by_cases ht : t p = true
      · exact ⟨p, Nat.le_refl _, hp, ht, fun j h1 h2 => by omega, pc_yes hp ht⟩
      · have ht' : t p = false := by simpa using ht
        rw [pc_no ht'] at h
        obtain ⟨q, h1, h2, h3, h4, h5⟩ := pc_next n (p + 1) (by omega) h
        refine ⟨q, by omega, h2, h3, fun j hj hj' => ?_, by rw [pc_no ht', h5]⟩
        by_cases e : j = p
        · rw [e]; exact ht'
        · exact h4 j (by omega) hj'
    · exact absurd (pc_end t b (by omega)) h
/-- Where DeltaLeast's loop stands in the body. -/
def LeastAt (D : Nat → Bool) (p : Nat) (E : Int) : Prop := (p = 0 ∧ E = -9) ∨ (E = (p : Int) ∧ 1 ≤ p ∧ D (p - 1) = true ∧ (p < 64 → tch D p = false))
theorem least_piece {D : Nat → Bool} {p q : Nat} {E : Int} (hp : LeastAt D p E) (h1 : p ≤ q) (h2 : q < 64) (h3 : tch D q = true) (h4 : ∀ j, p ≤ j → j < q → tch D j = false) :
    D q = true ∧ D (stop (tch D) q - 1) = true ∧ 3 ≤ (q : Int) - E ∧ LeastAt D (stop (tch D) q) (stop (tch D) q : Nat) := by
  obtain ⟨s1, s2, s3, s4⟩ := stop_spec (tch D) _ q rfl (Nat.le_of_lt h2)
  have sg := stop_gt h2 h3
  have hq : D q = true := by
    rcases (tch_iff D q).1 h3 with h | ⟨a, b, hb, p1, p2, p3, p4, p5, p6⟩
    · exact h
    · by_cases e : a = q
      · rw [← e]; exact p3
      · have hpq : p ≤ q - 1 := by
          rcases hp with ⟨rfl, _⟩ | ⟨_, _, _, hz⟩
          · omega
          · by_cases e2 : p = q
            · subst e2; rw [hz h2] at h3; cases h3
            · omega
        have := h4 (q - 1) hpq (by omega)
        rw [(tch_iff D (q - 1)).2 (.inr ⟨a, b, hb, p1, p2, p3, p4, by omega, by omega⟩)] at this
        cases this
  have he : D (stop (tch D) q - 1) = true := by
    rcases (tch_iff D _).1 (s4 (stop (tch D) q - 1) (by omega) (by omega)) with h | ⟨a, b, hb, p1, p2, p3, p4, p5, p6⟩
    · exact h
    · exfalso
      have hx : stop (tch D) q < 64 := by omega
      have := s3 hx
      by_cases e : stop (tch D) q = b
      · rw [(tch_iff D _).2 (.inl (by rw [e]; exact p4))] at this; cases this
      · rw [(tch_iff D _).2 (.inr ⟨a, b, hb, p1, p2, p3, p4, by omega, by omega⟩)] at this; cases this
  refine ⟨hq, he, ?_, .inr ⟨rfl, by omega, he, s3⟩⟩
  rcases hp with ⟨rfl, rfl⟩ | ⟨rfl, hp1, hl, hz⟩
  · omega
  · have hne : p ≠ q := by
      rintro rfl
      rw [hz h2] at h3; cases h3
    have h0 := hz (by omega)
    rcases Nat.lt_or_ge q (p + 3) with h | h
    · rw [(tch_iff D p).2 (.inr ⟨p - 1, q, h2, by omega, by omega, hl, hq, by omega, by omega⟩)] at h0
      cases h0
    · omega
structure LsRel (w wr : World) (f g : Nat → BitVec 8) (i : Nat) (E : Int) : Prop where
  st : St2 w wr f g
  i_le : i ≤ (pc (tch (Eq1 f g)) g 0).length
  at_ : ∃ p, p ≤ 64 ∧ LeastAt (Eq1 f g) p E ∧ (pc (tch (Eq1 f g)) g 0).drop i = pc (tch (Eq1 f g)) g p
theorem drop_two {α : Type} {l : List α} {i : Nat} {a b : α} {r : List α} (h : l.drop i = a :: b :: r) : l[i]? = some a ∧ l[i + 1]? = some b ∧ l.drop (i + 2) = r := by
  refine ⟨?_, ?_, ?_⟩
  · have := congrArg (fun x => x[0]?) h; simpa [List.getElem?_drop] using this
  · have := congrArg (fun x => x[1]?) h; simpa [List.getElem?_drop] using this
  · have := congrArg (List.drop 2) h; simpa [List.drop_drop] using this
theorem str_get {l : List (BitVec 8)} {i : Nat} {a : BitVec 8} (h : l[i]? = some a) (hi : i < (str l).size) : (str l)[i].toNat = a.toNat := by
  have h1 := bl_get (str l) hi
  rw [bl_str, h, Option.some.injEq] at h1
  rw [h1]; rfl
set_option maxRecDepth 100000 in
set_option maxHeartbeats 4000000 in
theorem least_walk (f g : Nat → BitVec 8) (w : World) :
    Calls Try.prog 4 #[.agg (row 64 f), .agg (row 64 g)] w fun e w' => e = .returned (.bool true) ∧ Below w.heap.size w w' := by
  have hS := St2.start w f g
  have hS0 := hid hS
  have hlen := pc_length (tch (Eq1 f g)) g 64 0 (by omega)
  go_enter Try.func4, Try.ntmps4
  go_wp2_with (first
    | (refine wpList_load_g 23 _ w.heap.size 64 f 23 5 hS.a Try.underlying23 (zero_row info23).2 rfl rfl rfl ?_)
    | (refine wpList_load_g 23 _ (w.heap.size + 1) 64 g 23 5 hS.b Try.underlying23 (zero_row info23).2 rfl rfl rfl ?_)
    | (go_at_call 10; refine (make_any _ _ _).mono ?_; rintro e w1 ⟨rfl, hb1⟩))
  replace hS := hS.go hb1
  clear hS0 hb1
  generalize hL : pc (tch (Eq1 f g)) g 0 = L at *
  replace hL := hid hL
  go_loopw [6, 7] (fun e i wr => ∃ (k : Nat) (E : Int), i = .int .i64 k ∧ e = .int .i64 E ∧ -9 ≤ E ∧ E ≤ 64 ∧ LsRel w wr f g k E) (fun _ i _ => 200 - (intOf i).toNat)
  case atStart => exact ⟨0, -9, rfl, rfl, by omega, by omega, hS, Nat.zero_le _, 0, by omega, .inl ⟨rfl, rfl⟩, rfl⟩
  case round =>
    clear hS
    obtain ⟨i, E, rfl, rfl, hE1, hE2, hs, hi, p, hp, hat, hdr⟩ := hrel
    rw [hL.out] at hi hdr
    have hsz := str_size L
    by_cases hlt : i < (str L).size
    · have hne : pc (tch (Eq1 f g)) g p ≠ [] := by
        rw [← hdr]; intro h
        have := congrArg List.length h
        simp at this
        omega
      obtain ⟨q, h1, h2, h3, h4, h5⟩ := pc_next 64 p (by omega) hne
      obtain ⟨k1, k2, k3, k4⟩ := least_piece hat h1 h2 h3 h4
      have s1 := stop_gt h2 h3
      have s2 := stop_le (tch (Eq1 f g)) (Nat.le_of_lt h2)
      rw [h5] at hdr
      generalize hse : stop (tch (Eq1 f g)) q = e at *
      clear hse
      obtain ⟨n, rfl⟩ : ∃ n, e = q + n := ⟨e - q, by omega⟩
      simp only [show q + n - q = n by omega] at hdr
      obtain ⟨d1, d2, d3⟩ := drop_two hdr
      have hlt1 : i + 1 < (str L).size := by
        have := (List.getElem?_eq_some_iff.1 d2).1; omega
      have hlt3 : i + 3 ≤ (str L).size := by
        have := congrArg List.length d3
        simp [seg_length] at this
        omega
      have v1 : (str L)[i].toNat = q := by rw [str_get d1]; simp; omega
      have v2 : (str L)[i+1].toNat = n := by rw [str_get d2]; simp; omega
      have b1 : (B (f q) == B (g q)) = false := by
        rw [beq_eq_false_iff_ne]; intro h; have := B_inj h; simp [Eq1, this] at k1
      have b2 : (B (f (q + n - 1)) == B (g (q + n - 1))) = false := by
        rw [beq_eq_false_iff_ne]; intro h; have := B_inj h; simp [Eq1, this] at k2
      have hnew : (pc (tch (Eq1 f g)) g 0).drop (i + (2 + n)) = pc (tch (Eq1 f g)) g (q + n) := by
        rw [hL.out, show i + (2 + n) = (i + 2) + n by omega, ← List.drop_drop, d3, List.drop_append, seg_length, show n - (q + n - q) = 0 by omega, List.drop_zero, List.drop_eq_nil_of_le (by rw [seg_length]; omega)]
        rfl
      have hlen3 : i + (2 + n) ≤ L.length := by
        have := congrArg List.length d3
        simp [seg_length] at this
        omega
      replace hnew := hid hnew
      replace k4 := hid k4
      have hlt3' : (3 : Int) ≤ ((str L).size : Int) - i := by omega
      clear hdr d1 d2 d3 h5 hat h4 hne k1 k2 h3
      have c1 := hs.a.byte h2
      have c2 := hs.b.byte h2
      have c3 := hs.a.byte (j := q + n - 1) (by omega)
      have c4 := hs.b.byte (j := q + n - 1) (by omega)
      have hsb : (str L).size ≤ 300 := by omega
      replace hsz := hid hsz
      have q1 := run_ixc (str L) (i := i + 1) (x := (i : Int) + 1) (by omega) hlt1
      have q2 := run_ixc (str L) (i := i) (x := (i : Int)) (by omega) hlt
      go_wp2
      have q3 : IntKind.i64.wrap ((i : Int) + 1) = (i : Int) + 1 := IntWalk.i64_in _ (by omega)
      go_quiet (fail)
      clear q1 q2 q3
      replace hs : St2 w (wr.drewN nq) f g := ⟨⟨hs.below.os, hs.below.tape, hs.below.output, hs.below.size, hs.below.block⟩, hs.a, hs.b⟩
      have t1 : (1 : Int) ≤ n := by omega
      have t2 : (n : Int) ≤ 64 := by omega
      have t3 : (q : Int) ≤ 64 - n := by omega
      go_wp2
      have t5 : (0 : Int) ≤ (q : Int) + n - 1 := by omega
      have t6 : ((q : Int) + n - 1).toNat = q + n - 1 := by omega
      have w1 : IntKind.i64.wrap (64 - (n : Int)) = 64 - (n : Int) := IntWalk.i64_in _ (by omega)
      have w2 : IntKind.i64.wrap ((q : Int) - E) = (q : Int) - E := IntWalk.i64_in _ (by omega)
      have w3 : IntKind.i64.wrap ((q : Int) + n) = (q : Int) + n := IntWalk.i64_in _ (by omega)
      have w4 : IntKind.i64.wrap ((q : Int) + n - 1) = (q : Int) + n - 1 := IntWalk.i64_in _ (by omega)
      have e1 : decide ((n : Int) < 1) = false := by simp; omega
      have e2 : decide ((64 : Int) < n) = false := by simp; omega
      have e3 : decide ((64 : Int) - n < q) = false := by simp; omega
      have e4 : decide ((q : Int) - E < 3) = false := by simp; omega
      have w5 : (q : Int) + n - 1 < 64 := by omega
      go_quiet (fail)
      clear w1 w2 w3 w4 w5 e1 e2 e3 e4 t5 t6 c1 c2 c3 c4
      go_wp2
      go_roundw
      case rel => exact ⟨i + (2 + n), ((q + n : Nat) : Int), by go_num, by go_num, by omega, by omega, ⟨⟨hs.below.os, hs.below.tape, hs.below.output, hs.below.size, hs.below.block⟩, hs.a, hs.b⟩, by rw [hL.out]; exact hlen3, q + n, s2, k4.out, hnew.out⟩
      case measure => simp [intOf]; omega
    · have hlt' : (str L).size ≤ i := by omega
      go_wp2_with (go_at_call 12; refine (awake_any _).mono ?_; rintro e w2 ⟨rfl, hb2⟩)
      go_ret
      exact ⟨rfl, hs.below.trans (hb2.mono hs.below.size)⟩
end Go.Proofs.Ytlnfolikociodaa
