/- The plain part of the document's Check: what was found up to a number. -/
import Derived.Test.YtnemaolbmocncaaReaW
namespace Go.Proofs.Ytnemaolbmocncaa.P
open Go.Proofs.Ytnemaolbmocncaa
/-- There was one among the first k, or there was one before. -/
def Fd (p : Nat → Prop) (k : Nat) (c0 c : Bool) : Prop := c = true ↔ c0 = true ∨ ∃ j, j < k ∧ p j
section
variable {p q : Nat → Prop} {k n : Nat} {c0 c c1 : Bool}
theorem Fd.start (p : Nat → Prop) (c : Bool) : Fd p 0 c c := ⟨.inl, fun h => h.elim id fun ⟨_, h, _⟩ => absurd h (Nat.not_lt_zero _)⟩
theorem Fd.hit (hp : p k) : Fd p (k + 1) c0 true := ⟨fun _ => .inr ⟨k, Nat.lt_succ_self _, hp⟩, fun _ => rfl⟩
theorem Fd.miss (h : Fd p k c0 c) (hp : ¬ p k) : Fd p (k + 1) c0 c := by
  refine Iff.trans h (or_congr Iff.rfl ⟨fun ⟨j, h1, h2⟩ => ⟨j, by omega, h2⟩, fun ⟨j, h1, h2⟩ => ⟨j, ?_, h2⟩⟩)
  have : j ≠ k := fun e => hp (e ▸ h2)
  omega
theorem Fd.keep (h : Fd p k c0 true) : Fd p (k + 1) c0 true := ⟨fun _ => (h.1 rfl).imp_right fun ⟨j, h1, h2⟩ => ⟨j, by omega, h2⟩, fun _ => rfl⟩
theorem Fd.row (h : Fd p k c0 c) (hq : Fd q n c c1) (e : p k ↔ ∃ j, j < n ∧ q j) : Fd p (k + 1) c0 c1 := by
  refine Iff.trans hq ?_
  unfold Fd at h
  rw [h]
  constructor
  · rintro ((h1 | ⟨j, h1, h2⟩) | h1)
    · exact .inl h1
    · exact .inr ⟨j, by omega, h2⟩
    · exact .inr ⟨k, Nat.lt_succ_self _, e.2 h1⟩
  · rintro (h1 | ⟨j, h1, h2⟩)
    · exact .inl (.inl h1)
    · by_cases e1 : j = k
      · exact .inr (e.1 (e1 ▸ h2))
      · exact .inl (.inr ⟨j, by omega, h2⟩)
end
def pA (L : List Pst) (i : Nat) : Prop := ∃ v, rd L i v ∧ (¬ ∃ j, by_ L v.1 v.2 j) ∧ 0 < v.2
def pB (L : List Pst) (i : Nat) : Prop := Path (dep L) i i
def pC (L : List Pst) (i : Nat) : Prop := ∃ k, dep L i k ∧ ¬ sta L i k
def pD (L : List Pst) (i : Nat) : Prop := ∃ k, ant L i k ∧ Path (fun x y => sta L x y ∨ dep L x y) k i
def qC (L : List Pst) (i k : Nat) : Prop := dep L i k ∧ ¬ sta L i k
/-- Of one read. -/
def vA (L : List Pst) (v : Int × Int) : Prop := (¬ ∃ j, by_ L v.1 v.2 j) ∧ 0 < v.2
def vD (L : List Pst) (i : Nat) (v : Int × Int) (k : Nat) : Prop := i ≠ k ∧ nxt L v.1 v.2 k ∧ Path (fun x y => sta L x y ∨ dep L x y) k i ∧ ((∃ j, by_ L v.1 v.2 j) ∨ v.2 ≤ 0)
def rA (L : List Pst) (a : Pst) (m : Nat) : Prop := ∃ v, a.reads[m]? = some v ∧ vA L v
def rD (L : List Pst) (i : Nat) (a : Pst) (m : Nat) : Prop := ∃ v, a.reads[m]? = some v ∧ ∃ k, vD L i v k
section
variable {L : List Pst} {i : Nat} {a : Pst}
theorem pC_iff : pC L i ↔ ∃ k, k < L.length ∧ qC L i k := ⟨fun ⟨k, h1, h2⟩ => ⟨k, (dep_lt h1).2, h1, h2⟩, fun ⟨k, _, h1, h2⟩ => ⟨k, h1, h2⟩⟩
theorem pA_not (ha : L[i]? = some a) (hd : a.done = false) : ¬ pA L i := by
  rintro ⟨v, ⟨b, h1, h2, _⟩, _⟩
  rw [ha] at h1
  obtain rfl := Option.some.inj h1
  rw [hd] at h2; cases h2
theorem pD_not (ha : L[i]? = some a) (hd : a.done = false) : ¬ pD L i := by
  rintro ⟨k, ⟨_, v, ⟨b, h1, h2, _⟩, _⟩, _⟩
  rw [ha] at h1
  obtain rfl := Option.some.inj h1
  rw [hd] at h2; cases h2
theorem rd_iff (ha : L[i]? = some a) (hd : a.done = true) {v : Int × Int} : rd L i v ↔ ∃ m : Nat, a.reads[m]? = some v := by
  constructor
  · rintro ⟨b, h1, _, h3⟩
    rw [ha] at h1
    obtain rfl := Option.some.inj h1
    exact List.mem_iff_getElem?.1 h3
  · rintro ⟨m, hm⟩
    exact ⟨a, ha, hd, List.mem_of_getElem? hm⟩
theorem pA_iff (ha : L[i]? = some a) (hd : a.done = true) : pA L i ↔ ∃ m, m < a.reads.length ∧ rA L a m := by
  constructor
  · rintro ⟨v, h1, h2⟩
    obtain ⟨m, hm⟩ := (rd_iff ha hd).1 h1
    exact ⟨m, (List.getElem?_eq_some_iff.1 hm).1, v, hm, h2⟩
  · rintro ⟨m, _, v, hm, h2⟩
    exact ⟨v, (rd_iff ha hd).2 ⟨m, hm⟩, h2⟩
theorem pD_iff (ha : L[i]? = some a) (hd : a.done = true) : pD L i ↔ ∃ m, m < a.reads.length ∧ rD L i a m := by
  constructor
  · rintro ⟨k, ⟨h0, v, h1, h2, h3⟩, h4⟩
    obtain ⟨m, hm⟩ := (rd_iff ha hd).1 h1
    exact ⟨m, (List.getElem?_eq_some_iff.1 hm).1, v, hm, k, h0, h3, h4, h2⟩
  · rintro ⟨m, _, v, hm, k, h0, h3, h4, h2⟩
    exact ⟨k, ⟨h0, v, (rd_iff ha hd).2 ⟨m, hm⟩, h2, h3⟩, h4⟩
theorem rD_iff {m : Nat} {v : Int × Int} (hv : a.reads[m]? = some v) : rD L i a m ↔ ∃ k, k < L.length ∧ vD L i v k := by
  constructor
  · rintro ⟨u, h1, k, h2⟩
    rw [hv] at h1
    obtain rfl := Option.some.inj h1
    have h5 := h2
    obtain ⟨_, ⟨_, h3, _⟩, _⟩ := h5
    exact ⟨k, by_lt h3, h2⟩
  · rintro ⟨k, _, h2⟩
    exact ⟨v, hv, k, h2⟩
theorem rA_iff {m : Nat} {v : Int × Int} (hv : a.reads[m]? = some v) : rA L a m ↔ vA L v := by
  constructor
  · rintro ⟨u, h1, h2⟩
    rw [hv] at h1
    obtain rfl := Option.some.inj h1
    exact h2
  · exact fun h => ⟨v, hv, h⟩
/-- Is the version there? -/
theorem there_iff {v : Int × Int} (h0 : 0 ≤ v.2) {th : Bool} (h : Fd (by_ L v.1 v.2) L.length (v.2 == 0) th) : th = false ↔ vA L v := by
  unfold Fd at h
  have h2 : th = false ↔ ¬ (th = true) := by cases th <;> simp
  rw [h2, h]
  constructor
  · intro h3
    refine ⟨fun ⟨j, hj⟩ => h3 (.inr ⟨j, by_lt hj, hj⟩), ?_⟩
    have h4 : v.2 ≠ 0 := fun e => h3 (.inl (by simp [e]))
    omega
  · rintro ⟨h3, h4⟩ (h5 | ⟨j, _, hj⟩)
    · have : v.2 = 0 := by simpa using h5
      omega
    · exact h3 ⟨j, hj⟩
end
/-- What was found up to a transaction. -/
structure F4 (L : List Pst) (k : Nat) (a b c d : Bool) : Prop where
  fa : Fd (pA L) k false a
  fb : Fd (pB L) k false b
  fc : Fd (pC L) k false c
  fd : Fd (pD L) k false d
theorem F4.start (L : List Pst) : F4 L 0 false false false false := ⟨Fd.start _ _, Fd.start _ _, Fd.start _ _, Fd.start _ _⟩
theorem Fd.all {p : Nat → Prop} {n : Nat} {c : Bool} (h : Fd p n false c) (hn : ∀ i, p i → i < n) : c = true ↔ ∃ i, p i := by
  unfold Fd at h
  rw [h]
  exact ⟨fun h => h.elim (fun h => (by cases h)) fun ⟨j, _, hj⟩ => ⟨j, hj⟩, fun ⟨j, hj⟩ => .inr ⟨j, hn j hj, hj⟩⟩
theorem F4.fin {L : List Pst} {a b c d : Bool} (hb : ¬ bad L) (h : F4 L L.length a b c d) : chk L = (ob a b c d, 0) := by
  refine chk_ok hb ((h.fa.all fun i ⟨v, h1, _⟩ => rd_lt h1).trans ?_) (h.fb.all fun i h1 => (path_lt (fun _ _ => dep_lt) h1).1) (h.fc.all fun i ⟨k, h1, _⟩ => (dep_lt h1).1) (h.fd.all fun i ⟨k, h1, _⟩ => (ant_lt h1).1)
  exact Iff.rfl
/-- A transaction that may not stand there. -/
def badN (L : List Pst) (i : Nat) : Prop := ∃ a : Pst, L[i]? = some a ∧ a.wr = true ∧ (a.commit ≤ a.start ∨ ∃ (j : Nat) (b : Pst), j ≠ i ∧ L[j]? = some b ∧ b.wr = true ∧ a.commit = b.commit)
theorem badN_iff {L : List Pst} : bad L ↔ ∃ i, badN L i := bad_iff
theorem rrel_dep {R : List Rec} {i k : Nat} : Path (rrel R false) i k ↔ Path (dep (his R)) i k := path_iff (fun x y => ⟨fun h => h.elim id fun h => (by cases h.1), .inl⟩) i k
theorem rrel_all {R : List Rec} {i k : Nat} : Path (rrel R true) i k ↔ Path (fun x y => sta (his R) x y ∨ dep (his R) x y) i k := path_iff (fun x y => ⟨fun h => h.elim .inr fun h => .inl h.2, fun h => h.elim (fun h => .inr ⟨rfl, h⟩) .inl⟩) i k
end Go.Proofs.Ytnemaolbmocncaa.P
