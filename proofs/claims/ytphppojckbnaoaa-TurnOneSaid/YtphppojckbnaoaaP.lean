/- The plain theory of turns: a line of numbers; the document's pairs; numbers and lists alone. -/
namespace Go.Proofs.Ytphppojckbnaoaa.P
/-- The line behind an asking. -/
def ask (L : List Int) (x : Int) : List Int := if x ∈ L then L else L ++ [x]
/-- The place in the line. -/
def plc (L : List Int) (x : Int) : Int := if x ∈ L then (L.idxOf x : Int) else -1
def has (L : List Int) (x : Int) : Bool := decide (L.head? = some x)
theorem plc_found {L : List Int} {x : Int} {k : Nat} (h : ∀ j, j < k → L[j]? ≠ some x) (hk : L[k]? = some x) : plc L x = k := by
  have hm : x ∈ L := List.mem_of_getElem? hk
  rw [plc, if_pos hm]
  have hi : L.idxOf x < L.length := List.idxOf_lt_length_of_mem hm
  have h1 : L[L.idxOf x]? = some x := by rw [List.getElem?_eq_getElem hi]; simp
  have h2 : ¬ L.idxOf x < k := fun hlt => h _ hlt h1
  have h3 : ¬ k < L.idxOf x := fun hlt => by
    have := List.not_of_lt_findIdx (p := (· == x)) (xs := L) (i := k) hlt
    have hkl : k < L.length := (List.getElem?_eq_some_iff.1 hk).1
    rw [List.getElem?_eq_getElem hkl] at hk
    simp at hk
    simp [hk] at this
  omega
theorem plc_none {L : List Int} {x : Int} (h : ∀ j, j < L.length → L[j]? ≠ some x) : plc L x = -1 := by
  rw [plc, if_neg]
  intro hm
  obtain ⟨j, hj, e⟩ := List.getElem_of_mem hm
  exact h j hj (by rw [List.getElem?_eq_getElem hj, e])
theorem plc_mem {L : List Int} {x : Int} (h : x ∈ L) : ∃ i : Nat, plc L x = (i : Int) ∧ i < L.length ∧ L.erase x = L.take i ++ L.drop (i + 1) := by
  refine ⟨L.idxOf x, by rw [plc, if_pos h], List.idxOf_lt_length_of_mem h, ?_⟩
  rw [List.erase_eq_eraseIdx_of_idxOf rfl, List.eraseIdx_eq_take_drop_succ]
theorem plc_not {L : List Int} {x : Int} (h : x ∉ L) : plc L x = -1 := by rw [plc, if_neg h]
theorem plc_lt {L : List Int} {x : Int} : decide (plc L x < 0) = !decide (x ∈ L) := by
  unfold plc
  by_cases h : x ∈ L
  · rw [if_pos h]; simp [h]
  · rw [if_neg h]; simp [h]
theorem plc_zero (L : List Int) (x : Int) : (plc L x == 0) = has L x := by
  unfold plc has
  cases L with
  | nil => simp
  | cons y l =>
    by_cases e : y = x
    · subst e; simp
    · have e' : ¬ x = y := fun h => e h.symm
      rw [List.idxOf_cons]
      have hb : (y == x) = false := by simp [e]
      have hd : decide ((y :: l).head? = some x) = false := by simp [e]
      rw [hd, hb, beq_eq_false_iff_ne]
      split
      · simp; omega
      · decide
theorem ask_mem {L : List Int} {x : Int} (h : x ∈ L) : ask L x = L := if_pos h
theorem ask_not {L : List Int} {x : Int} (h : x ∉ L) : ask L x = L ++ [x] := if_neg h
theorem mem_ask (L : List Int) (x : Int) : x ∈ ask L x := by
  unfold ask; split
  · assumption
  · simp
theorem ask_nodup {L : List Int} (h : L.Nodup) (x : Int) : (ask L x).Nodup := by
  unfold ask; split
  · exact h
  · rw [List.nodup_append]
    exact ⟨h, by simp, fun a ha b hb => by simp at hb; subst hb; exact fun e => by subst e; exact absurd ha (by assumption)⟩
theorem ask_length (L : List Int) (x : Int) : (ask L x).length ≤ L.length + 1 := by unfold ask; split <;> simp
theorem erase_length (L : List Int) (x : Int) : (L.erase x).length ≤ L.length := by rw [List.length_erase]; split <;> omega
/-! ### The document's pairs -/
def at' (R : List (Int × Int)) (x : Int) : Int := match R.find? (·.1 == x) with | some p => p.2 | none => 0
def rhas (R : List (Int × Int)) (x : Int) : Bool := R.all (fun p => !decide (p.2 < at' R x)) && decide (0 < at' R x)
def rask (R : List (Int × Int)) (N : Int) (x : Int) : List (Int × Int) := if at' R x = 0 then (x, N + 1) :: R else R
def raskN (R : List (Int × Int)) (N : Int) (x : Int) : Int := if at' R x = 0 then N + 1 else N
def rleave (R : List (Int × Int)) (x : Int) : List (Int × Int) := R.filter fun p => decide (p.1 ≠ x)
structure Rel (L : List Int) (R : List (Int × Int)) (N : Int) : Prop where
  fst : R.map Prod.fst = L.reverse
  desc : R.Pairwise fun p q => q.2 < p.2
  pos : ∀ p ∈ R, 0 < p.2 ∧ p.2 ≤ N
  nodup : L.Nodup
  n0 : 0 ≤ N
theorem Rel.nil : Rel [] [] 0 := ⟨rfl, .nil, by simp, .nil, Int.le_refl _⟩
theorem Rel.nn {L : List Int} {R : List (Int × Int)} {N : Int} (h : Rel L R N) : (R.map Prod.fst).Nodup := by rw [h.fst]; exact List.pairwise_reverse.2 (h.nodup.imp fun hne => Ne.symm hne)
theorem Rel.length {L : List Int} {R : List (Int × Int)} {N : Int} (h : Rel L R N) : R.length = L.length := by
  have := congrArg List.length h.fst; simpa using this
theorem at_mem {R : List (Int × Int)} (hn : (R.map Prod.fst).Nodup) {p : Int × Int} (hp : p ∈ R) : at' R p.1 = p.2 := by
  induction R with
  | nil => cases hp
  | cons q R ih =>
    rw [List.map_cons, List.nodup_cons] at hn
    unfold at'
    rw [List.find?_cons]
    by_cases e : q.1 = p.1
    · rcases List.mem_cons.1 hp with rfl | hp'
      · simp
      · exact absurd (List.mem_map.2 ⟨p, hp', e.symm⟩) hn.1
    · rcases List.mem_cons.1 hp with rfl | hp'
      · exact absurd rfl e
      · have := ih hn.2 hp'
        unfold at' at this
        rw [show (q.1 == p.1) = false by simp [e]]
        exact this
theorem at_not {R : List (Int × Int)} {x : Int} (h : x ∉ R.map Prod.fst) : at' R x = 0 := by
  unfold at'
  rw [List.find?_eq_none.2]
  intro p hp
  simp
  exact fun e => h (List.mem_map.2 ⟨p, hp, e⟩)
theorem Rel.mem_iff {L : List Int} {R : List (Int × Int)} {N : Int} (h : Rel L R N) (x : Int) : x ∈ R.map Prod.fst ↔ x ∈ L := by rw [h.fst]; simp
theorem Rel.at_pos {L : List Int} {R : List (Int × Int)} {N : Int} (h : Rel L R N) {x : Int} (hx : x ∈ L) : 0 < at' R x := by
  obtain ⟨p, hp, rfl⟩ := List.mem_map.1 ((h.mem_iff x).2 hx)
  rw [at_mem h.nn hp]
  exact (h.pos p hp).1
theorem Rel.at_zero {L : List Int} {R : List (Int × Int)} {N : Int} (h : Rel L R N) {x : Int} (hx : x ∉ L) : at' R x = 0 := at_not fun hm => hx ((h.mem_iff x).1 hm)
theorem Rel.at_iff {L : List Int} {R : List (Int × Int)} {N : Int} (h : Rel L R N) (x : Int) : at' R x = 0 ↔ x ∉ L :=
  ⟨fun h0 hx => by have := h.at_pos hx; omega, h.at_zero⟩
/-- The pairs in the line's order. -/
theorem Rel.line {L : List Int} {R : List (Int × Int)} {N : Int} (h : Rel L R N) : R.reverse.map Prod.fst = L := by rw [List.map_reverse, h.fst, List.reverse_reverse]
theorem Rel.asc {L : List Int} {R : List (Int × Int)} {N : Int} (h : Rel L R N) : R.reverse.Pairwise fun p q => p.2 < q.2 := by rw [List.pairwise_reverse]; exact h.desc
theorem Rel.at_get {L : List Int} {R : List (Int × Int)} {N : Int} (h : Rel L R N) {k : Nat} (hk : k < R.reverse.length) : ∃ hL : k < L.length, at' R L[k] = (R.reverse[k]).2 := by
  have hl : R.reverse.length = L.length := by rw [← h.line, List.length_map]
  refine ⟨by omega, ?_⟩
  have e : L[k]'(by omega) = (R.reverse[k]).1 := by
    have := h.line
    subst this
    simp
  rw [e]
  exact at_mem h.nn (List.mem_reverse.1 (List.getElem_mem hk))
theorem Rel.at_lt {L : List Int} {R : List (Int × Int)} {N : Int} (h : Rel L R N) {j k : Nat} (hjk : j < k) (hk : k < L.length) : at' R (L[j]'(by omega)) < at' R L[k] := by
  have hl : R.reverse.length = L.length := by rw [← h.line, List.length_map]
  obtain ⟨_, h1⟩ := h.at_get (k := j) (by omega)
  obtain ⟨_, h2⟩ := h.at_get (k := k) (by omega)
  rw [h1, h2]
  exact List.pairwise_iff_getElem.1 h.asc j k (by omega) (by omega) hjk
theorem Rel.has {L : List Int} {R : List (Int × Int)} {N : Int} (h : Rel L R N) (x : Int) : rhas R x = P.has L x := by
  unfold rhas P.has
  have hl : R.reverse.length = L.length := by rw [← h.line, List.length_map]
  by_cases hx : x ∈ L
  · obtain ⟨k, hk, rfl⟩ := List.getElem_of_mem hx
    have hpos := h.at_pos hx
    rw [decide_eq_true hpos, Bool.and_true]
    by_cases hk0 : k = 0
    · subst hk0
      rw [show decide (L.head? = some L[0]) = true by rw [List.head?_eq_getElem?]; simp]
      rw [List.all_eq_true]
      intro p hp
      obtain ⟨j, hj, e⟩ := List.getElem_of_mem (List.mem_reverse.2 hp)
      obtain ⟨hjL, h1⟩ := h.at_get hj
      rw [e] at h1
      rw [Bool.not_eq_true', decide_eq_false_iff_not, ← h1]
      rcases Nat.eq_zero_or_pos j with rfl | hj0
      · omega
      · have := h.at_lt hj0 hjL; omega
    · have h0 := h.at_lt (j := 0) (k := k) (by omega) hk
      have hne : ¬ L.head? = some L[k] := by
        rw [List.head?_eq_getElem?, List.getElem?_eq_getElem (by omega)]
        intro e
        have e' := Option.some.inj e
        rw [e'] at h0
        omega
      rw [decide_eq_false hne]
      rw [Bool.eq_false_iff, ne_eq, List.all_eq_true]
      intro hall
      obtain ⟨_, h1⟩ := h.at_get (k := 0) (by omega)
      have := hall (R.reverse[0]'(by omega)) (List.mem_reverse.1 (List.getElem_mem _))
      rw [← h1] at this
      simp at this
      omega
  · rw [h.at_zero hx]
    have : ¬ L.head? = some x := fun e => hx (List.mem_of_mem_head? e)
    simp [this]
theorem Rel.ask {L : List Int} {R : List (Int × Int)} {N : Int} (h : Rel L R N) (x : Int) : Rel (P.ask L x) (rask R N x) (raskN R N x) := by
  unfold P.ask rask raskN
  by_cases hx : x ∈ L
  · have h0 : ¬ at' R x = 0 := fun e => ((h.at_iff x).1 e) hx
    rw [if_pos hx, if_neg h0, if_neg h0]
    exact h
  · have h0 := h.at_zero hx
    rw [if_neg hx, if_pos h0, if_pos h0]
    refine ⟨by simp [h.fst], ?_, fun p hp => ?_, ?_, by have := h.n0; omega⟩
    · rw [List.pairwise_cons]
      exact ⟨fun p hp => by have := (h.pos p hp).2; show p.2 < N + 1; omega, h.desc⟩
    · rcases List.mem_cons.1 hp with rfl | hp
      · exact ⟨by have := h.n0; show 0 < N + 1; omega, Int.le_refl _⟩
      · have := h.pos p hp; omega
    · have := ask_nodup h.nodup x
      rwa [P.ask, if_neg hx] at this
theorem erase_filter {L : List Int} (hn : L.Nodup) (x : Int) : L.erase x = L.filter fun y => decide (y ≠ x) := by
  rw [hn.erase_eq_filter x]
  refine List.filter_congr fun y _ => ?_
  by_cases e : y = x <;> simp [e]
theorem Rel.leave {L : List Int} {R : List (Int × Int)} {N : Int} (h : Rel L R N) (x : Int) : Rel (L.erase x) (rleave R x) N := by
  refine ⟨?_, h.desc.filter _, fun p hp => h.pos p (List.mem_filter.1 hp).1, h.nodup.erase x, h.n0⟩
  rw [erase_filter h.nodup, ← List.filter_reverse, ← h.fst, List.filter_map]
  rfl
theorem Rel.left {L : List Int} {R : List (Int × Int)} {N : Int} (h : Rel L R N) (x : Int) : decide ((rleave R x).length < R.length) = decide (x ∈ L) := by
  rw [(h.leave x).length, h.length, List.length_erase]
  by_cases hx : x ∈ L
  · have : 0 < L.length := List.length_pos_of_mem hx
    simp [hx]; omega
  · simp [hx]
end Go.Proofs.Ytphppojckbnaoaa.P
