/- The plain theory of histories: what a history shows. -/
import Derived.Test.YtnemaolbmocncaaMapG
namespace Go.Proofs.Ytnemaolbmocncaa.P
open Go.Proofs.Ytnemaolbmocncaa
/-- A transaction of a history. -/
structure Pst where
  start : Int
  commit : Int
  done : Bool
  reads : List (Int × Int)
  writes : List Int
def Pst.wr (a : Pst) : Bool := a.done && decide (0 < a.writes.length)
def Pst.en (a : Pst) : Int := if a.wr = true then a.commit else a.start
/-- Transaction i may not stand in a history. -/
def badI (L : List Pst) (i : Nat) : Prop := ∃ a, L[i]? = some a ∧ a.wr = true ∧ (a.commit ≤ a.start ∨ ∃ j b, j < i ∧ L[j]? = some b ∧ b.wr = true ∧ a.commit = b.commit)
def bad (L : List Pst) : Prop := ∃ i, badI L i
/-- Transaction i has committed page p's version of timestamp t. -/
def by_ (L : List Pst) (p t : Int) (i : Nat) : Prop := ∃ a, L[i]? = some a ∧ a.done = true ∧ p ∈ a.writes ∧ a.commit = t
/-- k has committed the version of page p that follows t. -/
def nxt (L : List Pst) (p t : Int) (k : Nat) : Prop := ∃ t', by_ L p t' k ∧ t < t' ∧ ∀ t'' k', by_ L p t'' k' → t < t'' → t' ≤ t''
/-- Transaction i, which was committed, has read v. -/
def rd (L : List Pst) (i : Nat) (v : Int × Int) : Prop := ∃ a, L[i]? = some a ∧ a.done = true ∧ v ∈ a.reads
def dep (L : List Pst) (i k : Nat) : Prop := i ≠ k ∧ ((∃ p t, by_ L p t i ∧ nxt L p t k) ∨ ∃ v, rd L k v ∧ by_ L v.1 v.2 i)
def ant (L : List Pst) (i k : Nat) : Prop := i ≠ k ∧ ∃ v, rd L i v ∧ ((∃ j, by_ L v.1 v.2 j) ∨ v.2 ≤ 0) ∧ nxt L v.1 v.2 k
def abo (L : List Pst) : Prop := ∃ i v, rd L i v ∧ (¬ ∃ j, by_ L v.1 v.2 j) ∧ 0 < v.2
def sta (L : List Pst) (i k : Nat) : Prop := i ≠ k ∧ ∃ a b, L[i]? = some a ∧ L[k]? = some b ∧ a.done = true ∧ b.done = true ∧ a.en ≤ b.start
/-- One step or more. -/
inductive Path (R : Nat → Nat → Prop) : Nat → Nat → Prop where
  | one {i k : Nat} : R i k → Path R i k
  | more {i k l : Nat} : Path R i k → R k l → Path R i l
theorem Path.cons {R : Nat → Nat → Prop} {i k l : Nat} (h : R i k) (p : Path R k l) : Path R i l := by
  induction p with
  | one h2 => exact .more (.one h) h2
  | more _ h2 ih => exact .more ih h2
theorem Path.trans {R : Nat → Nat → Prop} {i k l : Nat} (p : Path R i k) (q : Path R k l) : Path R i l := by
  induction q with
  | one h => exact .more p h
  | more _ h ih => exact .more ih h
theorem Path.mono {R S : Nat → Nat → Prop} (h : ∀ i k, R i k → S i k) {i k : Nat} (p : Path R i k) : Path S i k := by
  induction p with
  | one e => exact .one (h _ _ e)
  | more _ e ih => exact .more ih (h _ _ e)
theorem path_iff {R S : Nat → Nat → Prop} (h : ∀ i k, R i k ↔ S i k) (i k : Nat) : Path R i k ↔ Path S i k := ⟨Path.mono fun i k => (h i k).1, Path.mono fun i k => (h i k).2⟩
def cir (L : List Pst) : Prop := ∃ i, Path (dep L) i i
def itf (L : List Pst) : Prop := ∃ i k, dep L i k ∧ ¬ sta L i k
def mis (L : List Pst) : Prop := ∃ i k, ant L i k ∧ Path (fun x y => sta L x y ∨ dep L x y) k i
/-- Four bits. -/
def ob (a b c d : Bool) : Int := (if a then 1 else 0) + (if b then 2 else 0) + (if c then 4 else 0) + (if d then 8 else 0)
open Classical in
noncomputable def chk (L : List Pst) : Int × Int := if bad L then (0, 1) else (ob (decide (abo L)) (decide (cir L)) (decide (itf L)) (decide (mis L)), 0)
theorem chk_bad {L : List Pst} (h : bad L) : chk L = (0, 1) := by unfold chk; rw [if_pos h]
theorem chk_ok {L : List Pst} (h : ¬ bad L) {a b c d : Bool} (ha : a = true ↔ abo L) (hb : b = true ↔ cir L) (hc : c = true ↔ itf L) (hd : d = true ↔ mis L) : chk L = (ob a b c d, 0) := by
  classical
  unfold chk
  rw [if_neg h]
  have e : ∀ {p : Prop} [Decidable p] {a : Bool}, (a = true ↔ p) → decide p = a := fun {p} _ {a} h => by cases a <;> simp at h <;> simp [h]
  rw [e ha, e hb, e hc, e hd]
/-! ### Histories that may be -/
theorem wr_of {a : Pst} {p : Int} (h : a.done = true) (hp : p ∈ a.writes) : a.wr = true := by
  unfold Pst.wr
  rw [h]
  have : 0 < a.writes.length := List.length_pos_of_mem hp
  simp [this]
theorem by_wr {L : List Pst} {p t : Int} {i : Nat} (h : by_ L p t i) : ∃ a, L[i]? = some a ∧ a.wr = true ∧ a.commit = t := by
  obtain ⟨a, h1, h2, h3, h4⟩ := h
  exact ⟨a, h1, wr_of h2 h3, h4⟩
theorem wr_inj {L : List Pst} (h : ¬ bad L) {i k : Nat} {a b : Pst} (ha : L[i]? = some a) (hb : L[k]? = some b) (wa : a.wr = true) (wb : b.wr = true) (e : a.commit = b.commit) : i = k := by
  rcases Nat.lt_trichotomy i k with hl | hl | hl
  · exact absurd ⟨k, b, hb, wb, .inr ⟨i, a, hl, ha, wa, e.symm⟩⟩ h
  · exact hl
  · exact absurd ⟨i, a, ha, wa, .inr ⟨k, b, hl, hb, wb, e⟩⟩ h
theorem by_inj {L : List Pst} (h : ¬ bad L) {p q t : Int} {i k : Nat} (h1 : by_ L p t i) (h2 : by_ L q t k) : i = k := by
  obtain ⟨a, a1, a2, a3⟩ := by_wr h1
  obtain ⟨b, b1, b2, b3⟩ := by_wr h2
  exact wr_inj h a1 b1 a2 b2 (a3.trans b3.symm)
theorem nxt_inj {L : List Pst} (h : ¬ bad L) {p t : Int} {i k : Nat} (h1 : nxt L p t i) (h2 : nxt L p t k) : i = k := by
  obtain ⟨t1, a1, a2, a3⟩ := h1
  obtain ⟨t2, b1, b2, b3⟩ := h2
  have e1 := a3 _ _ b1 b2
  have e2 := b3 _ _ a1 a2
  obtain rfl : t1 = t2 := by omega
  exact by_inj h a1 b1
theorem by_lt {L : List Pst} {p t : Int} {i : Nat} (h : by_ L p t i) : i < L.length := by
  obtain ⟨a, h1, _⟩ := h
  exact (List.getElem?_eq_some_iff.1 h1).1
theorem rd_lt {L : List Pst} {i : Nat} {v : Int × Int} (h : rd L i v) : i < L.length := by
  obtain ⟨a, h1, _⟩ := h
  exact (List.getElem?_eq_some_iff.1 h1).1
theorem dep_lt {L : List Pst} {i k : Nat} (h : dep L i k) : i < L.length ∧ k < L.length := by
  rcases h.2 with ⟨p, t, h1, t', h2, _⟩ | ⟨v, h1, h2⟩
  · exact ⟨by_lt h1, by_lt h2⟩
  · exact ⟨by_lt h2, rd_lt h1⟩
theorem ant_lt {L : List Pst} {i k : Nat} (h : ant L i k) : i < L.length ∧ k < L.length := by
  obtain ⟨_, v, h1, _, t', h2, _⟩ := h
  exact ⟨rd_lt h1, by_lt h2⟩
theorem sta_lt {L : List Pst} {i k : Nat} (h : sta L i k) : i < L.length ∧ k < L.length := by
  obtain ⟨_, a, b, h1, h2, _⟩ := h
  exact ⟨(List.getElem?_eq_some_iff.1 h1).1, (List.getElem?_eq_some_iff.1 h2).1⟩
/-! ### The closure, step by step -/
/-- From i to j, with none but the first k between. -/
def wt (R : Nat → Nat → Prop) : Nat → Nat → Nat → Prop
  | 0, i, j => R i j
  | k + 1, i, j => wt R k i j ∨ (wt R k i k ∧ wt R k k j)
theorem wt_path {R : Nat → Nat → Prop} : ∀ {k i j : Nat}, wt R k i j → Path R i j
  | 0, _, _, h => .one h
  | _ + 1, _, _, h => h.elim wt_path fun ⟨h1, h2⟩ => (wt_path h1).trans (wt_path h2)
theorem wt_trans {R : Nat → Nat → Prop} : ∀ {k i m j : Nat}, m < k → wt R k i m → wt R k m j → wt R k i j
  | k + 1, i, m, j, hm, h1, h2 => by
    by_cases e : m = k
    · subst e
      refine .inr ⟨?_, ?_⟩
      · exact h1.elim id fun h => h.1
      · exact h2.elim id fun h => h.2
    · have hm' : m < k := by omega
      rcases h1 with h1 | ⟨h1, h1'⟩
      · rcases h2 with h2 | ⟨h2, h2'⟩
        · exact .inl (wt_trans hm' h1 h2)
        · exact .inr ⟨wt_trans hm' h1 h2, h2'⟩
      · rcases h2 with h2 | ⟨h2, h2'⟩
        · exact .inr ⟨h1, wt_trans hm' h1' h2⟩
        · exact .inr ⟨h1, h2'⟩
theorem wt_up {R : Nat → Nat → Prop} {i j : Nat} : ∀ {k : Nat}, R i j → wt R k i j
  | 0, h => h
  | _ + 1, h => .inl (wt_up h)
theorem wt_all {R : Nat → Nat → Prop} {n : Nat} (hR : ∀ i k, R i k → i < n ∧ k < n) {i j : Nat} (p : Path R i j) : wt R n i j := by
  induction p with
  | one h => exact wt_up h
  | more p h ih => exact wt_trans (hR _ _ h).1 ih (wt_up h)
theorem path_lt {R : Nat → Nat → Prop} {n : Nat} (hR : ∀ i k, R i k → i < n ∧ k < n) {i j : Nat} (p : Path R i j) : i < n ∧ j < n := by
  induction p with
  | one h => exact hR _ _ h
  | more _ h ih => exact ⟨ih.1, (hR _ _ h).2⟩
/-! ### Sets as lists -/
def ins {κ : Type} [DecidableEq κ] (S : List κ) (k : κ) : List κ := if k ∈ S then S else S ++ [k]
theorem mem_ins {κ : Type} [DecidableEq κ] {S : List κ} {k x : κ} : x ∈ ins S k ↔ x ∈ S ∨ x = k := by
  unfold ins
  split
  · rename_i h
    exact ⟨.inl, fun h' => h'.elim id fun e => e ▸ h⟩
  · simp
end Go.Proofs.Ytnemaolbmocncaa.P
