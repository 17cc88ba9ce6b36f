/- Plain laws of histories: what does not count makes no difference. -/
import Derived.Test.YtnemaolbmocncaaAwkW
namespace Go.Proofs.Ytnemaolbmocncaa.P
theorem bad_iff {L : List Pst} : bad L ↔ ∃ (i : Nat) (a : Pst), L[i]? = some a ∧ a.wr = true ∧ (a.commit ≤ a.start ∨ ∃ (j : Nat) (b : Pst), j ≠ i ∧ L[j]? = some b ∧ b.wr = true ∧ a.commit = b.commit) := by
  constructor
  · rintro ⟨i, a, h1, h2, h3⟩
    exact ⟨i, a, h1, h2, h3.imp id fun ⟨j, b, h4, h5⟩ => ⟨j, b, by omega, h5⟩⟩
  · rintro ⟨i, a, h1, h2, h3 | ⟨j, b, h3, h4, h5, h6⟩⟩
    · exact ⟨i, a, h1, h2, .inl h3⟩
    · rcases Nat.lt_or_gt_of_ne h3 with h | h
      · exact ⟨i, a, h1, h2, .inr ⟨j, b, h, h4, h5, h6⟩⟩
      · exact ⟨j, b, h4, h5, .inr ⟨i, a, h, h1, h2, h6.symm⟩⟩
theorem wr_done {a : Pst} (h : a.wr = true) : a.done = true := by
  unfold Pst.wr at h
  cases hd : a.done with
  | true => rfl
  | false => rw [hd] at h; simp at h
/-- The transactions that were committed are the same, under other numbers. -/
structure Iso (L L' : List Pst) (f g : Nat → Nat) : Prop where
  fwd : ∀ i a, L[i]? = some a → a.done = true → L'[f i]? = some a ∧ g (f i) = i
  bwd : ∀ j a, L'[j]? = some a → a.done = true → L[g j]? = some a ∧ f (g j) = j
theorem Iso.symm {L L' : List Pst} {f g : Nat → Nat} (h : Iso L L' f g) : Iso L' L g f := ⟨h.bwd, h.fwd⟩
section
variable {L L' : List Pst} {f g : Nat → Nat}
theorem Iso.ne (h : Iso L L' f g) {i k : Nat} {a b : Pst} (ha : L[i]? = some a) (hd : a.done = true) (hb : L[k]? = some b) (he : b.done = true) (hn : i ≠ k) : f i ≠ f k := fun e => by
  have h1 := (h.fwd i a ha hd).2
  have h2 := (h.fwd k b hb he).2
  rw [e] at h1
  exact hn (h1.symm.trans h2)
theorem Iso.by_ (h : Iso L L' f g) {p t : Int} {i : Nat} (hb : by_ L p t i) : P.by_ L' p t (f i) ∧ g (f i) = i := by
  obtain ⟨a, h1, h2, h3, h4⟩ := hb
  exact ⟨⟨a, (h.fwd i a h1 h2).1, h2, h3, h4⟩, (h.fwd i a h1 h2).2⟩
theorem Iso.nxt (h : Iso L L' f g) {p t : Int} {k : Nat} (hb : nxt L p t k) : P.nxt L' p t (f k) := by
  obtain ⟨t', h1, h2, h3⟩ := hb
  exact ⟨t', (h.by_ h1).1, h2, fun t'' k' hk' ht => h3 t'' (g k') (h.symm.by_ hk').1 ht⟩
theorem Iso.rd (h : Iso L L' f g) {i : Nat} {v : Int × Int} (hb : rd L i v) : P.rd L' (f i) v := by
  obtain ⟨a, h1, h2, h3⟩ := hb
  exact ⟨a, (h.fwd i a h1 h2).1, h2, h3⟩
theorem dep_live {i k : Nat} (h : dep L i k) : ∃ a b, L[i]? = some a ∧ a.done = true ∧ L[k]? = some b ∧ b.done = true := by
  rcases h.2 with ⟨p, t, ⟨a, a1, a2, _⟩, t', ⟨b, b1, b2, _⟩, _⟩ | ⟨v, ⟨b, b1, b2, _⟩, ⟨a, a1, a2, _⟩⟩
  · exact ⟨a, b, a1, a2, b1, b2⟩
  · exact ⟨a, b, a1, a2, b1, b2⟩
theorem Iso.dep (h : Iso L L' f g) {i k : Nat} (hb : dep L i k) : P.dep L' (f i) (f k) := by
  obtain ⟨a, b, a1, a2, b1, b2⟩ := dep_live hb
  refine ⟨h.ne a1 a2 b1 b2 hb.1, ?_⟩
  rcases hb.2 with ⟨p, t, h1, h2⟩ | ⟨v, h1, h2⟩
  · exact .inl ⟨p, t, (h.by_ h1).1, h.nxt h2⟩
  · exact .inr ⟨v, h.rd h1, (h.by_ h2).1⟩
theorem Iso.sta (h : Iso L L' f g) {i k : Nat} (hb : sta L i k) : P.sta L' (f i) (f k) := by
  obtain ⟨hn, a, b, a1, b1, a2, b2, h1⟩ := hb
  exact ⟨h.ne a1 a2 b1 b2 hn, a, b, (h.fwd i a a1 a2).1, (h.fwd k b b1 b2).1, a2, b2, h1⟩
theorem Iso.back (h : Iso L L' f g) {i k : Nat} (hb : P.dep L i k) : g (f i) = i ∧ g (f k) = k := by
  obtain ⟨a, b, a1, a2, b1, b2⟩ := dep_live hb
  exact ⟨(h.fwd i a a1 a2).2, (h.fwd k b b1 b2).2⟩
theorem Iso.ant (h : Iso L L' f g) {i k : Nat} (hb : ant L i k) : P.ant L' (f i) (f k) := by
  obtain ⟨hn, v, hr, hv, hx⟩ := hb
  have hr' := hr
  have hx' := hx
  obtain ⟨a, a1, a2, _⟩ := hr'
  obtain ⟨t', ⟨b, b1, b2, _⟩, _⟩ := hx'
  exact ⟨h.ne a1 a2 b1 b2 hn, v, h.rd hr, hv.imp (fun ⟨j, hj⟩ => ⟨f j, (h.by_ hj).1⟩) id, h.nxt hx⟩
theorem Path.map {R S : Nat → Nat → Prop} {f : Nat → Nat} (h : ∀ i k, R i k → S (f i) (f k)) {i k : Nat} (p : Path R i k) : Path S (f i) (f k) := by
  induction p with
  | one e => exact .one (h _ _ e)
  | more _ e ih => exact .more ih (h _ _ e)
theorem Iso.bad (h : Iso L L' f g) (hb : bad L) : P.bad L' := by
  rw [bad_iff] at hb ⊢
  obtain ⟨i, a, h1, h2, h3⟩ := hb
  refine ⟨f i, a, (h.fwd i a h1 (wr_done h2)).1, h2, h3.imp id fun ⟨j, b, h4, h5, h6, h7⟩ => ⟨f j, b, h.ne h5 (wr_done h6) h1 (wr_done h2) h4, (h.fwd j b h5 (wr_done h6)).1, h6, h7⟩⟩
theorem Iso.abo (h : Iso L L' f g) (hb : abo L) : P.abo L' := by
  obtain ⟨i, v, h1, h2, h3⟩ := hb
  exact ⟨f i, v, h.rd h1, fun ⟨j, hj⟩ => h2 ⟨g j, (h.symm.by_ hj).1⟩, h3⟩
theorem Iso.cir (h : Iso L L' f g) (hb : cir L) : P.cir L' := by
  obtain ⟨i, p⟩ := hb
  exact ⟨f i, p.map fun _ _ e => h.dep e⟩
theorem Iso.itf (h : Iso L L' f g) (hb : itf L) : P.itf L' := by
  obtain ⟨i, k, h1, h2⟩ := hb
  refine ⟨f i, f k, h.dep h1, fun hs => h2 ?_⟩
  have := h.symm.sta hs
  rwa [(h.back h1).1, (h.back h1).2] at this
theorem Iso.mis (h : Iso L L' f g) (hb : mis L) : P.mis L' := by
  obtain ⟨i, k, h1, p⟩ := hb
  exact ⟨f i, f k, h.ant h1, p.map fun _ _ e => e.imp h.sta h.dep⟩
theorem Iso.chk (h : Iso L L' f g) : chk L = P.chk L' := by
  have e1 : P.bad L = P.bad L' := propext ⟨h.bad, h.symm.bad⟩
  have e2 : P.abo L = P.abo L' := propext ⟨h.abo, h.symm.abo⟩
  have e3 : P.cir L = P.cir L' := propext ⟨h.cir, h.symm.cir⟩
  have e4 : P.itf L = P.itf L' := propext ⟨h.itf, h.symm.itf⟩
  have e5 : P.mis L = P.mis L' := propext ⟨h.mis, h.symm.mis⟩
  unfold P.chk
  rw [e1, e2, e3, e4, e5]
end
/-- Those that were not committed. -/
theorem chk_undone {L M : List Pst} (h : ∀ a ∈ M, a.done = false) : chk (L ++ M) = chk L := by
  refine (Iso.chk (f := id) (g := id) ⟨fun i a ha _ => ⟨?_, rfl⟩, fun j a ha hd => ⟨?_, rfl⟩⟩).symm
  · rw [id, List.getElem?_append_left (List.getElem?_eq_some_iff.1 ha).1]; exact ha
  · by_cases hj : j < L.length
    · rw [List.getElem?_append_left hj] at ha; exact ha
    · rw [List.getElem?_append_right (by omega)] at ha
      rw [h a (List.mem_of_getElem? ha)] at hd; cases hd
/-- Turned by n. -/
def rot {α : Type} (L : List α) (n k : Nat) (z : α) : List α := (List.range k).map fun i => L.getD ((i + n) % L.length) z
theorem rot_succ {α : Type} (L : List α) (n k : Nat) (z : α) : rot L n (k + 1) z = rot L n k z ++ [L.getD ((k + n) % L.length) z] := by
  unfold rot
  rw [List.range_succ, List.map_append]; rfl
theorem mod_turn {len n i : Nat} (hi : i < len) : (i + n) % len = if i + n % len < len then i + n % len else i + n % len - len := by
  have hp : 0 < len := by omega
  have hr := Nat.mod_lt n hp
  rw [← Nat.add_mod_mod]
  split
  · rename_i h; exact Nat.mod_eq_of_lt h
  · rename_i h
    rw [Nat.mod_eq_sub_mod (by omega), Nat.mod_eq_of_lt (by omega)]
theorem chk_rot (L : List Pst) (n : Nat) (z : Pst) : chk (rot L n L.length z) = chk L := by
  by_cases h0 : L.length = 0
  · obtain rfl := List.eq_nil_of_length_eq_zero h0
    rfl
  have hp : 0 < L.length := by omega
  have hr := Nat.mod_lt n hp
  have get : ∀ i, i < L.length → (rot L n L.length z)[i]? = L[(i + n) % L.length]? := fun i hi => by
    have := Nat.mod_lt (i + n) hp
    unfold rot
    rw [List.getElem?_map, List.getElem?_range hi]
    show some (L.getD _ z) = _
    rw [List.getD_eq_getElem?_getD, List.getElem?_eq_getElem this]; rfl
  have hlen : (rot L n L.length z).length = L.length := by unfold rot; simp
  refine (Iso.chk (f := fun j => if n % L.length ≤ j then j - n % L.length else j + L.length - n % L.length) (g := fun i => if i + n % L.length < L.length then i + n % L.length else i + n % L.length - L.length) ⟨fun j a ha _ => ?_, fun i a ha _ => ?_⟩).symm
  · have hj := (List.getElem?_eq_some_iff.1 ha).1
    generalize hrr : n % L.length = r at *
    have hf : (if r ≤ j then j - r else j + L.length - r) < L.length := by split <;> omega
    refine ⟨?_, ?_⟩
    · rw [get _ hf, mod_turn hf, hrr, ← ha]
      congr 1
      split <;> split <;> omega
    · split <;> split <;> omega
  · have hi : i < L.length := by rw [← hlen]; exact (List.getElem?_eq_some_iff.1 ha).1
    rw [get i hi, mod_turn hi] at ha
    generalize hrr : n % L.length = r at *
    refine ⟨ha, ?_⟩
    split <;> split <;> omega
end Go.Proofs.Ytnemaolbmocncaa.P
