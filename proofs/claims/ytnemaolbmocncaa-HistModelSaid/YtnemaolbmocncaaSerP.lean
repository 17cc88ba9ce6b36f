/- Plain law: transactions one behind the other show nothing. -/
import Derived.Test.YtnemaolbmocncaaHLaw
namespace Go.Proofs.Ytnemaolbmocncaa.P
structure Sst where
  ts : Int
  nw : Int → Int
  L : List Pst
def md4 (l : List Int) : List Int := (l.take 6).map fun x => x.tmod 4
def serA (s : Sst) (r w : List Int) : Pst := ⟨s.ts, if md4 w = [] then 0 else s.ts + 1, true, (md4 r).map fun p => (p, s.nw p), md4 w⟩
def serStep (s : Sst) (r w : List Int) : Sst := ⟨if md4 w = [] then s.ts else s.ts + 1, fun p => if p ∈ md4 w then s.ts + 1 else s.nw p, s.L ++ [serA s r w]⟩
def serAt (rs ws : List (List Int)) : Nat → Sst
  | 0 => ⟨0, fun _ => 0, []⟩
  | k + 1 => serStep (serAt rs ws k) (rs.getD k []) (ws.getD k [])
structure SInv (s : Sst) : Prop where
  ts0 : 0 ≤ s.ts
  done : ∀ a ∈ s.L, a.done = true
  st : ∀ (i : Nat) (a : Pst), s.L[i]? = some a → 0 ≤ a.start ∧ a.start ≤ s.ts ∧ (a.wr = true → a.commit = a.start + 1 ∧ a.commit ≤ s.ts)
  mono : ∀ (i k : Nat) (a b : Pst), i < k → s.L[i]? = some a → s.L[k]? = some b → a.start ≤ b.start ∧ (a.wr = true → a.commit ≤ b.start)
  rd : ∀ (k : Nat) (b : Pst) (v : Int × Int), s.L[k]? = some b → v ∈ b.reads → 0 ≤ v.2 ∧ (∀ i t, i < k → by_ s.L v.1 t i → t ≤ v.2) ∧ (v.2 = 0 ∨ ∃ i, i < k ∧ by_ s.L v.1 v.2 i)
  nw : ∀ p, 0 ≤ s.nw p ∧ (∀ i t, by_ s.L p t i → t ≤ s.nw p) ∧ (s.nw p = 0 ∨ ∃ i, by_ s.L p (s.nw p) i)
theorem by_snoc {L : List Pst} {a : Pst} {p t : Int} {i : Nat} : by_ (L ++ [a]) p t i ↔ by_ L p t i ∨ (i = L.length ∧ a.done = true ∧ p ∈ a.writes ∧ a.commit = t) := by
  unfold by_
  constructor
  · rintro ⟨b, h1, h2⟩
    by_cases hi : i < L.length
    · rw [List.getElem?_append_left hi] at h1; exact .inl ⟨b, h1, h2⟩
    · rw [List.getElem?_append_right (by omega)] at h1
      have hj := (List.getElem?_eq_some_iff.1 h1).1
      have he : i = L.length := by simp at hj; omega
      subst he
      obtain rfl : a = b := by simpa using h1
      exact .inr ⟨rfl, h2⟩
  · rintro (⟨b, h1, h2⟩ | ⟨rfl, h2⟩)
    · exact ⟨b, by rw [List.getElem?_append_left (List.getElem?_eq_some_iff.1 h1).1]; exact h1, h2⟩
    · exact ⟨a, by simp, h2⟩
theorem get_snoc {L : List Pst} {a b : Pst} {i : Nat} (h : (L ++ [a])[i]? = some b) : (i < L.length ∧ L[i]? = some b) ∨ (i = L.length ∧ b = a) := by
  by_cases hi : i < L.length
  · rw [List.getElem?_append_left hi] at h; exact .inl ⟨hi, h⟩
  · rw [List.getElem?_append_right (by omega)] at h
    have hj := (List.getElem?_eq_some_iff.1 h).1
    have he : i = L.length := by simp at hj; omega
    subst he
    obtain rfl : a = b := by simpa using h
    exact .inr ⟨rfl, rfl⟩
theorem serA_wr (s : Sst) (r w : List Int) : (serA s r w).wr = true ↔ md4 w ≠ [] := by
  unfold Pst.wr serA
  cases md4 w <;> simp
theorem SInv.step {s : Sst} (h : SInv s) (r w : List Int) : SInv (serStep s r w) := by
  have hts : s.ts ≤ (serStep s r w).ts := by unfold serStep; dsimp only; split <;> omega
  have hc : (serA s r w).wr = true → (serA s r w).commit = s.ts + 1 ∧ (serStep s r w).ts = s.ts + 1 := fun hw => by
    have := (serA_wr s r w).1 hw
    unfold serA serStep
    simp [this]
  have hby : ∀ p t i, by_ (serStep s r w).L p t i → by_ s.L p t i ∨ (i = s.L.length ∧ p ∈ md4 w ∧ t = s.ts + 1) := fun p t i hb => by
    rcases by_snoc.1 hb with hb | ⟨h1, h2, h3, h4⟩
    · exact .inl hb
    · have hne : md4 w ≠ [] := fun e => by rw [show (serA s r w).writes = md4 w from rfl, e] at h3; cases h3
      exact .inr ⟨h1, h3, by rw [← h4]; exact (hc ((serA_wr s r w).2 hne)).1⟩
  have hle : ∀ p t i, by_ s.L p t i → t ≤ s.ts := fun p t i hb => by
    obtain ⟨a, h1, h2, h3⟩ := by_wr hb
    rw [← h3]; exact ((h.st i a h1).2.2 h2).2
  have hold : ∀ {p t i}, by_ s.L p t i → by_ (serStep s r w).L p t i := fun hb => by_snoc.2 (.inl hb)
  refine ⟨Int.le_trans h.ts0 hts, fun a ha => ?_, fun i a ha => ?_, fun i k a b hik ha hb => ?_, fun k b v hb hv => ?_, fun p => ?_⟩
  · rcases List.mem_append.1 ha with ha | ha
    · exact h.done a ha
    · obtain rfl := List.mem_singleton.1 ha; rfl
  · rcases get_snoc ha with ⟨_, ha⟩ | ⟨_, rfl⟩
    · obtain ⟨h1, h2, h3⟩ := h.st i a ha
      exact ⟨h1, by omega, fun hw => ⟨(h3 hw).1, by have := (h3 hw).2; omega⟩⟩
    · refine ⟨h.ts0, hts, fun hw => ?_⟩
      have := hc hw
      exact ⟨this.1, by omega⟩
  · rcases get_snoc hb with ⟨hk, hb⟩ | ⟨hk, rfl⟩
    · rcases get_snoc ha with ⟨_, ha⟩ | ⟨hi, _⟩
      · exact h.mono i k a b hik ha hb
      · omega
    · rcases get_snoc ha with ⟨_, ha⟩ | ⟨hi, _⟩
      · obtain ⟨h1, h2, h3⟩ := h.st i a ha
        exact ⟨h2, fun hw => (h3 hw).2⟩
      · omega
  · rcases get_snoc hb with ⟨hk, hb⟩ | ⟨hk, rfl⟩
    · obtain ⟨h1, h2, h3⟩ := h.rd k b v hb hv
      refine ⟨h1, fun i t hi hb2 => ?_, h3.imp id fun ⟨i, h4, h5⟩ => ⟨i, h4, hold h5⟩⟩
      rcases hby _ _ _ hb2 with h4 | ⟨h4, _⟩
      · exact h2 i t hi h4
      · omega
    · obtain ⟨p, hp, rfl⟩ := List.mem_map.1 hv
      obtain ⟨h1, h2, h3⟩ := h.nw p
      refine ⟨h1, fun i t hi hb2 => ?_, h3.imp id fun ⟨i, h5⟩ => ⟨i, by rw [hk]; exact by_lt h5, hold h5⟩⟩
      rcases hby _ _ _ hb2 with h4 | ⟨h4, _⟩
      · exact h2 i t h4
      · omega
  · obtain ⟨h1, h2, h3⟩ := h.nw p
    show 0 ≤ (if p ∈ md4 w then s.ts + 1 else s.nw p) ∧ _
    by_cases hp : p ∈ md4 w
    · have hne : md4 w ≠ [] := fun e => by rw [e] at hp; cases hp
      have hc' := hc ((serA_wr s r w).2 hne)
      have e : (serStep s r w).nw p = s.ts + 1 := if_pos hp
      rw [if_pos hp]
      refine ⟨by have := h.ts0; omega, fun i t hb => ?_, .inr ⟨s.L.length, by_snoc.2 (.inr ⟨rfl, rfl, hp, by rw [e]; exact hc'.1⟩)⟩⟩
      rw [e]
      rcases hby _ _ _ hb with h4 | ⟨_, _, h4⟩
      · have := hle _ _ _ h4; omega
      · omega
    · have e : (serStep s r w).nw p = s.nw p := if_neg hp
      rw [if_neg hp, e]
      refine ⟨h1, fun i t hb => ?_, h3.imp id fun ⟨i, h5⟩ => ⟨i, hold h5⟩⟩
      rcases hby _ _ _ hb with h4 | ⟨_, h4, _⟩
      · exact h2 i t h4
      · exact absurd h4 hp
theorem sinv (rs ws : List (List Int)) : ∀ k, SInv (serAt rs ws k)
  | 0 => ⟨Int.le_refl _, fun a ha => (by cases ha), fun i a ha => (by cases ha), fun i k a b _ ha => (by cases ha), fun k b v hb => (by cases hb), fun p => ⟨Int.le_refl _, fun i t ⟨a, ha, _⟩ => (by cases ha), .inl rfl⟩⟩
  | k + 1 => (sinv rs ws k).step _ _
section
variable {s : Sst}
theorem SInv.bad (h : SInv s) : ¬ P.bad s.L := by
  rintro ⟨i, a, h1, h2, h3⟩
  have h4 := (h.st i a h1).2.2 h2
  rcases h3 with h3 | ⟨j, b, h3, h5, h6, h7⟩
  · omega
  · have := (h.mono j i b a h3 h5 h1).2 h6
    omega
theorem SInv.before (h : SInv s) {i k : Nat} {a b : Pst} (ha : s.L[i]? = some a) (hb : s.L[k]? = some b) (wa : a.wr = true) (wb : b.wr = true) (hlt : a.commit < b.commit) : i < k := by
  rcases Nat.lt_trichotomy i k with e | e | e
  · exact e
  · subst e
    rw [ha] at hb
    obtain rfl := Option.some.inj hb
    omega
  · have h1 := (h.mono k i b a e hb ha).2 wb
    have h2 := ((h.st i a ha).2.2 wa).1
    omega
theorem SInv.dep (h : SInv s) {i k : Nat} (hd : dep s.L i k) : i < k := by
  obtain ⟨hne, ⟨p, t, h1, t', h2, h3, _⟩ | ⟨v, h1, h2⟩⟩ := hd
  · obtain ⟨a, a1, a2, a3⟩ := by_wr h1
    obtain ⟨b, b1, b2, b3⟩ := by_wr h2
    exact h.before a1 b1 a2 b2 (by omega)
  · obtain ⟨b, b1, _, b2⟩ := h1
    obtain ⟨_, _, h5⟩ := h.rd k b v b1 b2
    rcases h5 with h5 | ⟨i', h5, h6⟩
    · obtain ⟨a, a1, a2, a3⟩ := by_wr h2
      have := h.st i a a1
      have := (this.2.2 a2).1
      omega
    · have := by_inj h.bad h2 h6
      omega
theorem en_ge (h : SInv s) {i : Nat} {a : Pst} (ha : s.L[i]? = some a) : a.start ≤ a.en := by
  unfold Pst.en
  split
  · rename_i hw
    have := ((h.st i a ha).2.2 hw).1
    omega
  · exact Int.le_refl _
theorem SInv.ahead (h : SInv s) {i k : Nat} {a b : Pst} (hik : i < k) (ha : s.L[i]? = some a) (hb : s.L[k]? = some b) : a.en ≤ b.start := by
  have := h.mono i k a b hik ha hb
  unfold Pst.en
  split
  · rename_i hw; exact this.2 hw
  · exact this.1
theorem SInv.step_le (h : SInv s) {i k : Nat} (hs : sta s.L i k ∨ P.dep s.L i k) : ∃ a b, s.L[i]? = some a ∧ s.L[k]? = some b ∧ a.en ≤ b.start := by
  rcases hs with ⟨_, a, b, h1, h2, _, _, h3⟩ | hd
  · exact ⟨a, b, h1, h2, h3⟩
  · obtain ⟨a, b, a1, _, b1, _⟩ := dep_live hd
    exact ⟨a, b, a1, b1, h.ahead (h.dep hd) a1 b1⟩
theorem SInv.path_le (h : SInv s) {i k : Nat} (p : Path (fun x y => sta s.L x y ∨ P.dep s.L x y) i k) : ∃ a b, s.L[i]? = some a ∧ s.L[k]? = some b ∧ a.en ≤ b.start := by
  induction p with
  | one e => exact h.step_le e
  | more _ e ih =>
    obtain ⟨a, b, h1, h2, h3⟩ := ih
    obtain ⟨c, d, h4, h5, h6⟩ := h.step_le e
    rw [h2] at h4
    obtain rfl := Option.some.inj h4
    have := en_ge h h2
    exact ⟨a, d, h1, h5, by omega⟩
theorem SInv.chk (h : SInv s) : chk s.L = (0, 0) := by
  refine (chk_ok (a := false) (b := false) (c := false) (d := false) h.bad ?_ ?_ ?_ ?_).trans rfl
  · refine ⟨fun e => (by cases e), fun ⟨i, v, ⟨b, b1, _, b2⟩, h2, h3⟩ => ?_⟩
    obtain ⟨_, _, h5⟩ := h.rd i b v b1 b2
    rcases h5 with h5 | ⟨i', _, h6⟩
    · omega
    · exact absurd ⟨i', h6⟩ h2
  · refine ⟨fun e => (by cases e), fun ⟨i, p⟩ => ?_⟩
    have key : ∀ {i k : Nat}, Path (P.dep s.L) i k → i < k := fun p => by
      induction p with
      | one e => exact h.dep e
      | more _ e ih => have := h.dep e; omega
    have := key p
    omega
  · refine ⟨fun e => (by cases e), fun ⟨i, k, hd, hn⟩ => ?_⟩
    obtain ⟨a, b, a1, a2, b1, b2⟩ := dep_live hd
    exact absurd ⟨hd.1, a, b, a1, b1, a2, b2, h.ahead (h.dep hd) a1 b1⟩ hn
  · refine ⟨fun e => (by cases e), fun ⟨i, k, ⟨hne, v, ⟨a, a1, _, a2⟩, _, t', hb, ht, _⟩, p⟩ => ?_⟩
    obtain ⟨b, b1, b2, b3⟩ := by_wr hb
    obtain ⟨_, h4, _⟩ := h.rd i a v a1 a2
    have hik : i < k := by
      rcases Nat.lt_trichotomy i k with e | e | e
      · exact e
      · exact absurd e hne
      · have := h4 k t' e hb
        omega
    obtain ⟨b', a', e1, e2, h5⟩ := h.path_le p
    rw [b1] at e1
    rw [a1] at e2
    obtain rfl := Option.some.inj e1
    obtain rfl := Option.some.inj e2
    have h6 := (h.mono i k _ _ hik a1 b1).1
    have h7 := ((h.st k _ b1).2.2 b2).1
    unfold Pst.en at h5
    rw [if_pos b2] at h5
    omega
end
theorem serAt_len (rs ws : List (List Int)) : ∀ k, (serAt rs ws k).L.length = k
  | 0 => rfl
  | k + 1 => by show ((serAt rs ws k).L ++ [_]).length = _; rw [List.length_append, serAt_len rs ws k]; rfl
theorem serAt_ts (rs ws : List (List Int)) : ∀ k, (serAt rs ws k).ts ≤ k ∧ 0 ≤ (serAt rs ws k).ts
  | 0 => ⟨Int.le_refl _, Int.le_refl _⟩
  | k + 1 => by
    have := serAt_ts rs ws k
    show (if md4 (ws.getD k []) = [] then (serAt rs ws k).ts else (serAt rs ws k).ts + 1) ≤ _ ∧ _ ≤ (if md4 (ws.getD k []) = [] then (serAt rs ws k).ts else (serAt rs ws k).ts + 1)
    split <;> omega
end Go.Proofs.Ytnemaolbmocncaa.P
