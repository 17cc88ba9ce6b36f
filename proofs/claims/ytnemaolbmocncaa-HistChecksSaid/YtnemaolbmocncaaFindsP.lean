/- Plain laws: each thing that may not be is seen where it is made. -/
import Derived.Test.YtnemaolbmocncaaTurnedW
namespace Go.Proofs.Ytnemaolbmocncaa.P
open Go.Proofs.Ytnemaolbmocncaa
theorem fewP_idem (a : Pst) : fewP (fewP a) = fewP a := by
  unfold fewP
  simp [List.take_take]
theorem fewL_idem (L : List Pst) : fewL (fewL L) = fewL L := by
  have h : (fewL L).length ≤ 9 := by unfold fewL; rw [List.length_map, List.length_take]; omega
  show ((fewL L).take 9).map fewP = fewL L
  rw [List.take_of_length_le h]
  unfold fewL
  rw [List.map_map]
  exact List.map_congr_left fun a _ => fewP_idem a
/-- Behind all that is there. -/
structure Past (L : List Pst) (mo : Int) : Prop where
  ok : ¬ bad L
  le : ∀ a ∈ L, a.start ≤ mo ∧ a.commit ≤ mo
theorem get_two {L X : List Pst} {i : Nat} {a : Pst} (h : (L ++ X)[i]? = some a) : (i < L.length ∧ L[i]? = some a) ∨ (L.length ≤ i ∧ X[i - L.length]? = some a) := by
  by_cases hi : i < L.length
  · rw [List.getElem?_append_left hi] at h; exact .inl ⟨hi, h⟩
  · rw [List.getElem?_append_right (by omega)] at h; exact .inr ⟨by omega, h⟩
theorem Past.bad {L X : List Pst} {mo : Int} (h : Past L mo) (hX : ∀ a ∈ X, a.wr = true → a.start < a.commit ∧ mo < a.commit) (hXX : ∀ (i j : Nat) (a b : Pst), X[i]? = some a → X[j]? = some b → i ≠ j → a.wr = true → b.wr = true → a.commit ≠ b.commit) : ¬ P.bad (L ++ X) := fun hb => by
  rw [bad_iff] at hb
  obtain ⟨i, a, h1, h2, h3⟩ := hb
  rcases get_two h1 with ⟨hi, h1⟩ | ⟨hi, h1⟩
  · rcases h3 with h3 | ⟨j, b, h3, h4, h5, h6⟩
    · exact h.ok (bad_iff.2 ⟨i, a, h1, h2, .inl h3⟩)
    · rcases get_two h4 with ⟨hj, h4⟩ | ⟨hj, h4⟩
      · exact h.ok (bad_iff.2 ⟨i, a, h1, h2, .inr ⟨j, b, h3, h4, h5, h6⟩⟩)
      · have e1 := (h.le a (List.mem_of_getElem? h1)).2
        have e2 := (hX b (List.mem_of_getElem? h4) h5).2
        omega
  · have hx := hX a (List.mem_of_getElem? h1) h2
    rcases h3 with h3 | ⟨j, b, h3, h4, h5, h6⟩
    · omega
    · rcases get_two h4 with ⟨hj, h4⟩ | ⟨hj, h4⟩
      · have e1 := (h.le b (List.mem_of_getElem? h4)).2
        omega
      · exact hXX _ _ a b h1 h4 (by omega) h2 h5 h6
theorem chk_abo {L : List Pst} (h : ¬ bad L) (ha : abo L) : ∃ b c d, chk L = (ob true b c d, 0) := by
  classical
  exact ⟨_, _, _, chk_ok h (a := true) (b := decide (cir L)) (c := decide (itf L)) (d := decide (mis L)) (by simp [ha]) (by simp) (by simp) (by simp)⟩
theorem chk_itf {L : List Pst} (h : ¬ bad L) (ha : itf L) : ∃ a b d, chk L = (ob a b true d, 0) := by
  classical
  exact ⟨_, _, _, chk_ok h (a := decide (abo L)) (b := decide (cir L)) (c := true) (d := decide (mis L)) (by simp) (by simp) (by simp [ha]) (by simp)⟩
theorem chk_mis {L : List Pst} (h : ¬ bad L) (ha : mis L) : ∃ a b c, chk L = (ob a b c true, 0) := by
  classical
  exact ⟨_, _, _, chk_ok h (a := decide (abo L)) (b := decide (cir L)) (c := decide (itf L)) (d := true) (by simp) (by simp) (by simp) (by simp [ha])⟩
section
variable {L : List Pst} {mo q ts : Int}
theorem by_two {X : List Pst} {p t : Int} {i : Nat} (h : by_ (L ++ X) p t i) (hq : ∀ a ∈ L, p ∉ a.writes) : ∃ a, L.length ≤ i ∧ X[i - L.length]? = some a ∧ a.done = true ∧ p ∈ a.writes ∧ a.commit = t := by
  obtain ⟨a, h1, h2, h3, h4⟩ := h
  rcases get_two h1 with ⟨hi, h1⟩ | ⟨hi, h1⟩
  · exact absurd h3 (hq a (List.mem_of_getElem? h1))
  · exact ⟨a, hi, h1, h2, h3, h4⟩
def oneP (mo q ts : Int) : Pst := ⟨mo, 0, true, [(q, ts)], []⟩
def wrP (s c q : Int) : Pst := ⟨s, c, true, [], [q]⟩
def rdP (s q : Int) : Pst := ⟨s, 0, true, [(q, 0)], []⟩
theorem finds_one (h : Past L mo) (hq : ∀ a ∈ L, q ∉ a.writes) (ht : 0 < ts) : ∃ b c d, chk (L ++ [oneP mo q ts]) = (ob true b c d, 0) := by
  refine chk_abo (h.bad (fun a ha hw => ?_) (fun i j a b h1 h2 hne _ _ => ?_)) ?_
  · obtain rfl := List.mem_singleton.1 ha
    exact absurd hw (by simp [Pst.wr, oneP])
  · have := (List.getElem?_eq_some_iff.1 h1).1
    have := (List.getElem?_eq_some_iff.1 h2).1
    simp at *; omega
  · refine ⟨L.length, (q, ts), ⟨oneP mo q ts, by simp, rfl, by simp [oneP]⟩, fun ⟨j, hj⟩ => ?_, ht⟩
    obtain ⟨a, _, h1, _, h2, _⟩ := by_two hj hq
    obtain rfl := List.mem_singleton.1 (List.mem_of_getElem? h1)
    cases h2
theorem finds_two (h : Past L mo) (hq : ∀ a ∈ L, q ∉ a.writes) : ∃ a b d, chk (L ++ [wrP mo (mo + 1) q, wrP mo (mo + 2) q]) = (ob a b true d, 0) := by
  have g0 : (L ++ [wrP mo (mo + 1) q, wrP mo (mo + 2) q])[L.length]? = some (wrP mo (mo + 1) q) := by simp
  have g1 : (L ++ [wrP mo (mo + 1) q, wrP mo (mo + 2) q])[L.length + 1]? = some (wrP mo (mo + 2) q) := by rw [List.getElem?_append_right (by omega)]; simp
  have hget : ∀ {i : Nat} {a : Pst}, [wrP mo (mo + 1) q, wrP mo (mo + 2) q][i]? = some a → (i = 0 ∧ a = wrP mo (mo + 1) q) ∨ (i = 1 ∧ a = wrP mo (mo + 2) q) := fun {i a} h => by
    match i, h with
    | 0, h => exact .inl ⟨rfl, by simpa using h.symm⟩
    | 1, h => exact .inr ⟨rfl, by simpa using h.symm⟩
  refine chk_itf (h.bad (fun a ha hw => ?_) (fun i j a b h1 h2 hne _ _ => ?_)) ?_
  · rcases List.mem_cons.1 ha with rfl | ha
    · simp only [wrP]; omega
    · obtain rfl := List.mem_singleton.1 ha
      simp only [wrP]; omega
  · rcases hget h1 with ⟨rfl, rfl⟩ | ⟨rfl, rfl⟩ <;> rcases hget h2 with ⟨rfl, rfl⟩ | ⟨rfl, rfl⟩ <;> simp only [wrP] <;> omega
  · refine ⟨L.length, L.length + 1, ⟨by omega, .inl ⟨q, mo + 1, ⟨_, g0, rfl, by simp [wrP], rfl⟩, mo + 2, ⟨_, g1, rfl, by simp [wrP], rfl⟩, by omega, fun t'' k' hb ht => ?_⟩⟩, ?_⟩
    · obtain ⟨a, _, h1, _, _, h2⟩ := by_two hb hq
      rcases hget h1 with ⟨_, rfl⟩ | ⟨_, rfl⟩ <;> simp only [wrP] at h2 <;> omega
    · rintro ⟨_, a, b, h1, h2, _, _, h3⟩
      rw [g0] at h1
      rw [g1] at h2
      obtain rfl := Option.some.inj h1
      obtain rfl := Option.some.inj h2
      simp [Pst.en, Pst.wr, wrP] at h3
      omega
theorem finds_three (h : Past L mo) (h0 : 0 ≤ mo) (hq : ∀ a ∈ L, q ∉ a.writes) : ∃ a b c, chk (L ++ [wrP mo (mo + 1) q, rdP (mo + 1) q]) = (ob a b c true, 0) := by
  have g0 : (L ++ [wrP mo (mo + 1) q, rdP (mo + 1) q])[L.length]? = some (wrP mo (mo + 1) q) := by simp
  have g1 : (L ++ [wrP mo (mo + 1) q, rdP (mo + 1) q])[L.length + 1]? = some (rdP (mo + 1) q) := by rw [List.getElem?_append_right (by omega)]; simp
  have hget : ∀ {i : Nat} {a : Pst}, [wrP mo (mo + 1) q, rdP (mo + 1) q][i]? = some a → (i = 0 ∧ a = wrP mo (mo + 1) q) ∨ (i = 1 ∧ a = rdP (mo + 1) q) := fun {i a} h => by
    match i, h with
    | 0, h => exact .inl ⟨rfl, by simpa using h.symm⟩
    | 1, h => exact .inr ⟨rfl, by simpa using h.symm⟩
  refine chk_mis (h.bad (fun a ha hw => ?_) (fun i j a b h1 h2 hne ha hb => ?_)) ?_
  · rcases List.mem_cons.1 ha with rfl | ha
    · simp only [wrP]; omega
    · obtain rfl := List.mem_singleton.1 ha
      exact absurd hw (by simp [Pst.wr, rdP])
  · rcases hget h1 with ⟨rfl, rfl⟩ | ⟨rfl, rfl⟩
    · rcases hget h2 with ⟨rfl, rfl⟩ | ⟨rfl, rfl⟩
      · omega
      · exact absurd hb (by simp [Pst.wr, rdP])
    · exact absurd ha (by simp [Pst.wr, rdP])
  · refine ⟨L.length + 1, L.length, ⟨by omega, (q, 0), ⟨_, g1, rfl, by simp [rdP]⟩, .inr (Int.le_refl _), mo + 1, ⟨_, g0, rfl, by simp [wrP], rfl⟩, by show (0 : Int) < _; omega, fun t'' k' hb ht => ?_⟩, .one (.inl ⟨by omega, _, _, g0, g1, rfl, rfl, ?_⟩)⟩
    · obtain ⟨a, _, h1, _, h3, h2⟩ := by_two hb hq
      rcases hget h1 with ⟨_, rfl⟩ | ⟨_, rfl⟩
      · simp only [wrP] at h2; omega
      · cases h3
    · simp [Pst.en, Pst.wr, wrP, rdP]
end
end Go.Proofs.Ytnemaolbmocncaa.P
