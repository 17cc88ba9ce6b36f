/- The plain part of edges: what is found, step by step. -/
import Derived.Test.YtnemaolbmocncaaClosW
namespace Go.Proofs.Ytnemaolbmocncaa.P
open Go.Proofs.Ytnemaolbmocncaa
abbrev Bx := List ((Int × Int) × Nat)
/-- B is who has committed what. -/
def BOk (L : List Pst) (B : Bx) : Prop := ∀ x : (Int × Int) × Nat, x ∈ B ↔ by_ L x.1.1 x.1.2 x.2
theorem nxtB_cases {L : List Pst} {B : Bx} (hB : BOk L B) {v : Int × Int} {r : Int} (h : NxtB B v r) : (r = -1 ∧ ∀ k, ¬ nxt L v.1 v.2 k) ∨ ∃ k : Nat, r = k ∧ nxt L v.1 v.2 k := by
  rcases h with ⟨h1, h2⟩ | ⟨x, h1, h2, h3, h4, h5⟩
  · refine .inl ⟨h1, fun k ⟨t', hk, ht, _⟩ => ?_⟩
    exact h2 ((v.1, t'), k) ((hB _).2 hk) rfl ht
  · refine .inr ⟨x.2, h2, x.1.2, ?_, h4, fun t'' k' hk' ht => ?_⟩
    · rw [← h3]; exact (hB x).1 h1
    · exact h5 ((v.1, t''), k') ((hB _).2 hk') rfl ht
/-! ### Those that follow each other -/
def E1 (L : List Pst) (B T : Bx) (D : List Ed) : Prop := ∀ e : Ed, e ∈ D ↔ e.1 ≠ e.2 ∧ ∃ x, x ∈ B ∧ x ∉ T ∧ x.2 = e.1 ∧ nxt L x.1.1 x.1.2 e.2
theorem E1.start (L : List Pst) (B : Bx) : E1 L B B [] := fun e => ⟨fun h => (by cases h), fun ⟨_, x, h1, h2, _⟩ => absurd h1 h2⟩
section
variable {L : List Pst} {B T : Bx} {D : List Ed} {j : Nat} {q : (Int × Int) × Nat}
theorem E1.same (h : E1 L B T D) (hn : T.Nodup) (hq : T[j]? = some q) (hs : ∀ k, nxt L q.1.1 q.1.2 k → k = q.2) : E1 L B (T.eraseIdx j) D := fun e => by
  rw [h e]
  refine and_congr_right fun hne => ⟨fun ⟨x, h1, h2, h3⟩ => ⟨x, h1, fun h => h2 ((mem_eraseIdx_nd hn hq).1 h).1, h3⟩, fun ⟨x, h1, h2, h3, h4⟩ => ⟨x, h1, fun hx => ?_, h3, h4⟩⟩
  rw [mem_eraseIdx_nd hn hq] at h2
  obtain rfl : x = q := Classical.byContradiction fun e' => h2 ⟨hx, e'⟩
  have := hs _ h4
  omega
theorem E1.hit (h : E1 L B T D) (hb : ¬ bad L) (hn : T.Nodup) (hq : T[j]? = some q) (hB : q ∈ B) {k : Nat} (hk : nxt L q.1.1 q.1.2 k) (hne : k ≠ q.2) : E1 L B (T.eraseIdx j) (ins D (q.2, k)) := fun e => by
  rw [mem_ins, h e]
  constructor
  · rintro (⟨h0, x, h1, h2, h3⟩ | rfl)
    · exact ⟨h0, x, h1, fun h => h2 ((mem_eraseIdx_nd hn hq).1 h).1, h3⟩
    · exact ⟨Ne.symm hne, q, hB, fun h => ((mem_eraseIdx_nd hn hq).1 h).2 rfl, rfl, hk⟩
  · rintro ⟨h0, x, h1, h2, h3, h4⟩
    rw [mem_eraseIdx_nd hn hq] at h2
    by_cases hx : x ∈ T
    · obtain rfl : x = q := Classical.byContradiction fun e' => h2 ⟨hx, e'⟩
      exact .inr (Prod.ext h3.symm (nxt_inj hb h4 hk))
    · exact .inl ⟨h0, x, h1, hx, h3, h4⟩
end
/-! ### Those that read -/
/-- What was read, up to number m of transaction k. -/
def rdp (L : List Pst) (k m i : Nat) (v : Int × Int) : Prop := (i < k ∧ rd L i v) ∨ (i = k ∧ ∃ a, L[k]? = some a ∧ a.done = true ∧ v ∈ a.reads.take m)
structure E2 (L : List Pst) (B : Bx) (k m : Nat) (D A : List Ed) (a : Bool) : Prop where
  d : ∀ e : Ed, e ∈ D ↔ e.1 ≠ e.2 ∧ ((∃ x, x ∈ B ∧ x.2 = e.1 ∧ nxt L x.1.1 x.1.2 e.2) ∨ ∃ v, rdp L k m e.2 v ∧ (v, e.1) ∈ B)
  n : ∀ e : Ed, e ∈ A ↔ e.1 ≠ e.2 ∧ ∃ v, rdp L k m e.1 v ∧ ((∃ j, (v, j) ∈ B) ∨ v.2 ≤ 0) ∧ nxt L v.1 v.2 e.2
  o : a = true ↔ ∃ i v, rdp L k m i v ∧ (¬ ∃ j, (v, j) ∈ B) ∧ 0 < v.2
section
variable {L : List Pst} {B : Bx} {D A : List Ed} {a : Bool} {k m : Nat} {x : Pst} {v : Int × Int}
theorem E2.start (h : E1 L B [] D) : E2 L B 0 0 D [] false where
  d := fun e => by
    rw [h e]
    refine and_congr_right fun _ => ⟨fun ⟨x, h1, _, h3⟩ => .inl ⟨x, h1, h3⟩, fun h => ?_⟩
    rcases h with ⟨x, h1, h2⟩ | ⟨v, (⟨h1, _⟩ | ⟨_, a, _, _, h1⟩), _⟩
    · exact ⟨x, h1, by simp, h2⟩
    · omega
    · simp at h1
  n := fun e => by
    refine ⟨fun h => (by cases h), fun ⟨_, v, h, _⟩ => ?_⟩
    rcases h with ⟨h1, _⟩ | ⟨_, a, _, _, h1⟩
    · omega
    · simp at h1
  o := by
    refine ⟨fun h => (by cases h), fun ⟨i, v, h, _⟩ => ?_⟩
    rcases h with ⟨h1, _⟩ | ⟨_, a, _, _, h1⟩
    · omega
    · simp at h1
theorem E2.congr {k' m' : Nat} (h : E2 L B k m D A a) (e : ∀ i v, rdp L k m i v ↔ rdp L k' m' i v) : E2 L B k' m' D A a where
  d := fun x => by rw [h.d x]; simp only [e]
  n := fun x => by rw [h.n x]; simp only [e]
  o := by rw [h.o]; simp only [e]
theorem rdp_next (hx : L[k]? = some x) (hm : m = x.reads.length ∨ x.done = false) (i : Nat) (v : Int × Int) : rdp L k m i v ↔ rdp L (k + 1) 0 i v := by
  unfold rdp
  constructor
  · rintro (⟨h1, h2⟩ | ⟨rfl, a, h1, h2, h3⟩)
    · exact .inl ⟨by omega, h2⟩
    · exact .inl ⟨by omega, a, h1, h2, List.mem_of_mem_take h3⟩
  · rintro (⟨h1, h2⟩ | ⟨_, a, _, _, h3⟩)
    · by_cases e : i = k
      · subst e
        obtain ⟨a, h3, h4, h5⟩ := h2
        rw [hx] at h3
        obtain rfl := Option.some.inj h3
        rcases hm with rfl | hm
        · exact .inr ⟨rfl, _, hx, h4, by rw [List.take_length]; exact h5⟩
        · rw [hm] at h4; cases h4
      · exact .inl ⟨by omega, h2⟩
    · simp at h3
theorem E2.next (h : E2 L B k m D A a) (hx : L[k]? = some x) (hm : m = x.reads.length ∨ x.done = false) : E2 L B (k + 1) 0 D A a := h.congr fun i v => rdp_next hx hm i v
theorem rdp_succ (hx : L[k]? = some x) (hd : x.done = true) (hv : x.reads[m]? = some v) (i : Nat) (u : Int × Int) : rdp L k (m + 1) i u ↔ rdp L k m i u ∨ (i = k ∧ u = v) := by
  have e : x.reads.take (m + 1) = x.reads.take m ++ [v] := by rw [List.take_add_one, hv]; rfl
  unfold rdp
  constructor
  · rintro (h | ⟨h1, a, h2, h3, h4⟩)
    · exact .inl (.inl h)
    · rw [hx] at h2
      obtain rfl := Option.some.inj h2
      rw [e, List.mem_append] at h4
      rcases h4 with h4 | h4
      · exact .inl (.inr ⟨h1, _, hx, h3, h4⟩)
      · exact .inr ⟨h1, by simpa using h4⟩
  · rintro ((h | ⟨h1, a, h2, h3, h4⟩) | ⟨h1, rfl⟩)
    · exact .inl h
    · rw [hx] at h2
      obtain rfl := Option.some.inj h2
      exact .inr ⟨h1, _, hx, h3, by rw [e]; exact List.mem_append_left _ h4⟩
    · exact .inr ⟨h1, _, hx, hd, by rw [e]; simp⟩
/-- A read of number v: what it does to the three. -/
theorem E2.step (h : E2 L B k m D A a) (hx : L[k]? = some x) (hd : x.done = true) (hv : x.reads[m]? = some v) {D' A' : List Ed} {a' : Bool}
    (h1 : ∀ e : Ed, e ∈ D' ↔ e ∈ D ∨ (e.1 ≠ e.2 ∧ e.2 = k ∧ (v, e.1) ∈ B))
    (h2 : ∀ e : Ed, e ∈ A' ↔ e ∈ A ∨ (e.1 ≠ e.2 ∧ e.1 = k ∧ ((∃ j, (v, j) ∈ B) ∨ v.2 ≤ 0) ∧ nxt L v.1 v.2 e.2))
    (h3 : a' = true ↔ a = true ∨ ((¬ ∃ j, (v, j) ∈ B) ∧ 0 < v.2)) : E2 L B k (m + 1) D' A' a' where
  d := fun e => by
    rw [h1 e, h.d e]
    simp only [rdp_succ hx hd hv]
    constructor
    · rintro (⟨h0, h | ⟨u, h, h'⟩⟩ | ⟨h0, h, h'⟩)
      · exact ⟨h0, .inl h⟩
      · exact ⟨h0, .inr ⟨u, .inl h, h'⟩⟩
      · exact ⟨h0, .inr ⟨v, .inr ⟨h, rfl⟩, h'⟩⟩
    · rintro ⟨h0, h | ⟨u, h | ⟨h, rfl⟩, h'⟩⟩
      · exact .inl ⟨h0, .inl h⟩
      · exact .inl ⟨h0, .inr ⟨u, h, h'⟩⟩
      · exact .inr ⟨h0, h, h'⟩
  n := fun e => by
    rw [h2 e, h.n e]
    simp only [rdp_succ hx hd hv]
    constructor
    · rintro (⟨h0, u, h, h'⟩ | ⟨h0, h, h'⟩)
      · exact ⟨h0, u, .inl h, h'⟩
      · exact ⟨h0, v, .inr ⟨h, rfl⟩, h'⟩
    · rintro ⟨h0, u, h | ⟨h, rfl⟩, h'⟩
      · exact .inl ⟨h0, u, h, h'⟩
      · exact .inr ⟨h0, h, h'⟩
  o := by
    rw [h3, h.o]
    simp only [rdp_succ hx hd hv]
    constructor
    · rintro (⟨i, u, h, h'⟩ | h)
      · exact ⟨i, u, .inl h, h'⟩
      · exact ⟨k, v, .inr ⟨rfl, rfl⟩, h⟩
    · rintro ⟨i, u, h | ⟨rfl, rfl⟩, h'⟩
      · exact .inl ⟨i, u, h, h'⟩
      · exact .inr h'
theorem rdp_all (i : Nat) (v : Int × Int) : rdp L L.length 0 i v ↔ rd L i v := by
  unfold rdp
  constructor
  · rintro (h | ⟨_, a, _, _, h⟩)
    · exact h.2
    · simp at h
  · exact fun h => .inl ⟨rd_lt h, h⟩
theorem E2.fin (hB : BOk L B) (h : E2 L B L.length 0 D A a) : (∀ e : Ed, e ∈ D ↔ dep L e.1 e.2) ∧ (∀ e : Ed, e ∈ A ↔ ant L e.1 e.2) ∧ (a = true ↔ abo L) := by
  refine ⟨fun e => ?_, fun e => ?_, ?_⟩
  · rw [h.d e]
    simp only [rdp_all]
    unfold dep
    refine and_congr_right fun _ => or_congr ⟨fun ⟨x, h1, h2, h3⟩ => ⟨x.1.1, x.1.2, by rw [← h2]; exact (hB x).1 h1, h3⟩, fun ⟨p, t, h1, h2⟩ => ⟨((p, t), e.1), (hB _).2 h1, rfl, h2⟩⟩ ⟨fun ⟨v, h1, h2⟩ => ⟨v, h1, (hB (v, e.1)).1 h2⟩, fun ⟨v, h1, h2⟩ => ⟨v, h1, (hB (v, e.1)).2 h2⟩⟩
  · rw [h.n e]
    simp only [rdp_all]
    unfold ant
    refine and_congr_right fun _ => exists_congr fun v => and_congr_right fun _ => and_congr_left fun _ => or_congr (exists_congr fun j => hB (v, j)) Iff.rfl
  · rw [h.o]
    simp only [rdp_all]
    unfold abo
    refine exists_congr fun i => exists_congr fun v => and_congr_right fun _ => and_congr_left fun _ => not_congr (exists_congr fun j => hB (v, j))
end
end Go.Proofs.Ytnemaolbmocncaa.P
