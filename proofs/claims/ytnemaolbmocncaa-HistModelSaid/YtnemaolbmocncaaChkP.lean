/- The plain part of Check. -/
import Derived.Test.YtnemaolbmocncaaEdgW
namespace Go.Proofs.Ytnemaolbmocncaa.P
open Go.Proofs.Ytnemaolbmocncaa
/-- The versions of the first k transactions, and of the next one's first m pages. -/
def BTo (L : List Pst) (k m : Nat) (B : Bx) : Prop := ∀ x : (Int × Int) × Nat, x ∈ B ↔ (x.2 < k ∧ by_ L x.1.1 x.1.2 x.2) ∨ (x.2 = k ∧ ∃ a, L[k]? = some a ∧ a.done = true ∧ x.1.1 ∈ a.writes.take m ∧ a.commit = x.1.2)
theorem BTo.start (L : List Pst) : BTo L 0 0 [] := fun x => ⟨fun h => (by cases h), fun h => by
  rcases h with ⟨h, _⟩ | ⟨_, a, _, _, h, _⟩
  · omega
  · simp at h⟩
section
variable {L : List Pst} {k m : Nat} {B : Bx} {a : Pst} {p : Int}
theorem BTo.not_done (h : BTo L k m B) (ha : L[k]? = some a) (hd : a.done = false) (m' : Nat) : BTo L k m' B := fun x => by
  rw [h x]
  refine or_congr Iff.rfl (and_congr_right fun _ => ?_)
  constructor <;> (rintro ⟨a', h1, h2, _⟩; rw [ha] at h1; obtain rfl := Option.some.inj h1; rw [hd] at h2; cases h2)
theorem BTo.next (h : BTo L k m B) (ha : L[k]? = some a) (hm : m = a.writes.length) : BTo L (k + 1) 0 B := fun x => by
  rw [h x]
  constructor
  · rintro (⟨h1, h2⟩ | ⟨h1, a', h2, h3, h4, h5⟩)
    · exact .inl ⟨by omega, h2⟩
    · exact .inl ⟨by omega, a', by rw [h1]; exact h2, h3, List.mem_of_mem_take h4, h5⟩
  · rintro (⟨h1, h2⟩ | ⟨_, a', _, _, h4, _⟩)
    · by_cases e : x.2 = k
      · obtain ⟨a', h3, h4, h5, h6⟩ := h2
        rw [e, ha] at h3
        obtain rfl := Option.some.inj h3
        exact .inr ⟨e, _, ha, h4, by rw [hm, List.take_length]; exact h5, h6⟩
      · exact .inl ⟨by omega, h2⟩
    · simp at h4
theorem mem_put {κ β : Type} [DecidableEq κ] {l : List (κ × β)} (hn : (l.map (·.1)).Nodup) {k : κ} {b : β} {x : κ × β} : x ∈ G.put l k b ↔ x = (k, b) ∨ (x ∈ l ∧ x.1 ≠ k) := by
  have h1 := G.put_keys hn k b
  have e : ∀ {l : List (κ × β)} (hn : (l.map (·.1)).Nodup) {x : κ × β}, x ∈ l ↔ G.get l x.1 = some x.2 := fun {l} hn {x} => ⟨fun h => G.get_of_mem hn h, fun h => G.get_mem h⟩
  rw [e h1, G.get_put]
  split
  · rename_i h
    constructor
    · intro h2; exact .inl (Prod.ext h (Option.some.inj h2).symm)
    · rintro (rfl | ⟨_, h2⟩)
      · rfl
      · exact absurd h h2
  · rename_i h
    rw [← e hn]
    constructor
    · intro h2; exact .inr ⟨h2, h⟩
    · rintro (rfl | ⟨h2, _⟩)
      · exact absurd rfl h
      · exact h2
theorem BTo.step (h : BTo L k m B) (hb : ¬ bad L) (hn : (B.map (·.1)).Nodup) (ha : L[k]? = some a) (hd : a.done = true) (hp : a.writes[m]? = some p) : BTo L k (m + 1) (G.put B (p, a.commit) k) := fun x => by
  have hw := List.mem_of_getElem? hp
  have e : a.writes.take (m + 1) = a.writes.take m ++ [p] := by rw [List.take_add_one, hp]; rfl
  rw [mem_put hn, h x]
  constructor
  · rintro (rfl | ⟨h1 | ⟨h1, a', h2, h3, h4, h5⟩, _⟩)
    · exact .inr ⟨rfl, a, ha, hd, by rw [e]; simp, rfl⟩
    · exact .inl h1
    · rw [ha] at h2
      obtain rfl := Option.some.inj h2
      exact .inr ⟨h1, _, ha, h3, by rw [e]; exact List.mem_append_left _ h4, h5⟩
  · rintro (h1 | ⟨h1, a', h2, h3, h4, h5⟩)
    · refine .inr ⟨.inl h1, fun e2 => ?_⟩
      have h6 : by_ L p a.commit k := ⟨a, ha, hd, hw, rfl⟩
      have h7 := h1.2
      rw [e2] at h7
      have := by_inj hb h7 h6
      omega
    · rw [ha] at h2
      obtain rfl := Option.some.inj h2
      rw [e, List.mem_append] at h4
      by_cases e2 : x.1 = (p, a.commit)
      · exact .inl (Prod.ext e2 h1)
      · rcases h4 with h4 | h4
        · exact .inr ⟨.inr ⟨h1, _, ha, h3, h4, h5⟩, e2⟩
        · exact absurd (Prod.ext (by simpa using h4) h5.symm) e2
theorem BTo.fin (h : BTo L L.length 0 B) : BOk L B := fun x => by
  rw [h x]
  constructor
  · rintro (⟨_, h1⟩ | ⟨_, a, _, _, h1, _⟩)
    · exact h1
    · simp at h1
  · exact fun h1 => .inl ⟨by_lt h1, h1⟩
/-- Who stands ahead of whom, up to the pair (k, m). -/
def SE (L : List Pst) (k m : Nat) (S : List Ed) : Prop := ∀ e : Ed, e ∈ S ↔ (e.1 < k ∨ (e.1 = k ∧ e.2 < m)) ∧ sta L e.1 e.2
theorem SE.start (L : List Pst) : SE L 0 0 [] := fun e => ⟨fun h => (by cases h), fun h => by have := h.1; omega⟩
theorem SE.hit {S : List Ed} (h : SE L k m S) (hs : sta L k m) : SE L k (m + 1) (ins S (k, m)) := fun e => by
  rw [mem_ins, h e]
  constructor
  · rintro (⟨h1, h2⟩ | rfl)
    · exact ⟨by omega, h2⟩
    · exact ⟨.inr ⟨rfl, Nat.lt_succ_self _⟩, hs⟩
  · rintro ⟨h1, h2⟩
    by_cases e1 : e.1 = k ∧ e.2 = m
    · exact .inr (Prod.ext e1.1 e1.2)
    · exact .inl ⟨by omega, h2⟩
theorem SE.miss {S : List Ed} (h : SE L k m S) (hs : ¬ sta L k m) : SE L k (m + 1) S := fun e => by
  rw [h e]
  constructor
  · rintro ⟨h1, h2⟩; exact ⟨by omega, h2⟩
  · rintro ⟨h1, h2⟩
    refine ⟨?_, h2⟩
    by_cases e1 : e.1 = k ∧ e.2 = m
    · rw [e1.1, e1.2] at h2; exact absurd h2 hs
    · omega
theorem SE.row {S : List Ed} (h : SE L k L.length S) : SE L (k + 1) 0 S := fun e => by
  rw [h e]
  constructor
  · rintro ⟨h1, h2⟩; exact ⟨by omega, h2⟩
  · rintro ⟨h1, h2⟩; exact ⟨by have := (sta_lt h2).2; omega, h2⟩
theorem SE.fin {S : List Ed} (h : SE L L.length 0 S) (e : Ed) : e ∈ S ↔ sta L e.1 e.2 := by
  rw [h e]
  exact ⟨fun h => h.2, fun h => ⟨.inl (sta_lt h).1, h⟩⟩
/-- Is there one among those that were looked at? -/
def An (D T : List Ed) (p : Ed → Prop) (c : Bool) : Prop := c = true ↔ ∃ e, e ∈ D ∧ e ∉ T ∧ p e
theorem An.start (D : List Ed) (p : Ed → Prop) : An D D p false := ⟨fun h => (by cases h), fun ⟨_, h1, h2, _⟩ => absurd h1 h2⟩
theorem An.hit {D T : List Ed} {p : Ed → Prop} (hn : T.Nodup) {j : Nat} {q : Ed} (hq : T[j]? = some q) (hD : q ∈ D) (hp : p q) : An D (T.eraseIdx j) p true :=
  ⟨fun _ => ⟨q, hD, fun h => ((mem_eraseIdx_nd hn hq).1 h).2 rfl, hp⟩, fun _ => rfl⟩
theorem An.miss {D T : List Ed} {p : Ed → Prop} {c : Bool} (h : An D T p c) (hn : T.Nodup) {j : Nat} {q : Ed} (hq : T[j]? = some q) (hp : ¬ p q) : An D (T.eraseIdx j) p c := by
  refine h.trans ⟨fun ⟨e, h1, h2, h3⟩ => ⟨e, h1, fun h => h2 ((mem_eraseIdx_nd hn hq).1 h).1, h3⟩, fun ⟨e, h1, h2, h3⟩ => ⟨e, h1, fun h => ?_, h3⟩⟩
  rw [mem_eraseIdx_nd hn hq] at h2
  obtain rfl : e = q := Classical.byContradiction fun e' => h2 ⟨h, e'⟩
  exact hp h3
theorem An.fin {D : List Ed} {p : Ed → Prop} {c : Bool} (h : An D [] p c) : c = true ↔ ∃ e, e ∈ D ∧ p e := h.trans ⟨fun ⟨e, h1, _, h2⟩ => ⟨e, h1, h2⟩, fun ⟨e, h1, h2⟩ => ⟨e, h1, by simp, h2⟩⟩
/-- The bits come together. -/
theorem chk_fin {L : List Pst} (hb : ¬ bad L) {D A S C1 S2 C2 : List Ed} {a b c d : Bool} (hD : ∀ e : Ed, e ∈ D ↔ dep L e.1 e.2) (hA : ∀ e : Ed, e ∈ A ↔ ant L e.1 e.2) (ha : a = true ↔ abo L)
    (hS : ∀ e : Ed, e ∈ S ↔ sta L e.1 e.2) (hC1 : ∀ e : Ed, e ∈ C1 ↔ Path (fun i k => (i, k) ∈ D) e.1 e.2) (hb2 : b = true ↔ ∃ i, i < L.length ∧ (i, i) ∈ C1) (hc : c = true ↔ ∃ e, e ∈ D ∧ ¬ e ∈ S)
    (hS2 : ∀ e : Ed, e ∈ S2 ↔ e ∈ S ∨ e ∈ D) (hC2 : ∀ e : Ed, e ∈ C2 ↔ Path (fun i k => (i, k) ∈ S2) e.1 e.2) (hd : d = true ↔ ∃ e, e ∈ A ∧ (e.2, e.1) ∈ C2) : chk L = (ob a b c d, 0) := by
  refine chk_ok hb ha (hb2.trans ?_) (hc.trans ?_) (hd.trans ?_)
  · unfold cir
    have e : ∀ i, (i, i) ∈ C1 ↔ Path (dep L) i i := fun i => (hC1 (i, i)).trans (path_iff (fun x y => hD (x, y)) i i)
    exact ⟨fun ⟨i, _, h⟩ => ⟨i, (e i).1 h⟩, fun ⟨i, h⟩ => ⟨i, (path_lt (fun _ _ => dep_lt) h).1, (e i).2 h⟩⟩
  · unfold itf
    exact ⟨fun ⟨e, h1, h2⟩ => ⟨e.1, e.2, (hD e).1 h1, fun h => h2 ((hS e).2 h)⟩, fun ⟨i, k, h1, h2⟩ => ⟨(i, k), (hD (i, k)).2 h1, fun h => h2 ((hS (i, k)).1 h)⟩⟩
  · unfold mis
    have e2 : ∀ x y, (x, y) ∈ S2 ↔ (sta L x y ∨ dep L x y) := fun x y => (hS2 (x, y)).trans (or_congr (hS (x, y)) (hD (x, y)))
    have e : ∀ i k, (i, k) ∈ C2 ↔ Path (fun x y => sta L x y ∨ dep L x y) i k := fun i k => (hC2 (i, k)).trans (path_iff e2 i k)
    exact ⟨fun ⟨x, h1, h2⟩ => ⟨x.1, x.2, (hA x).1 h1, (e _ _).1 h2⟩, fun ⟨i, k, h1, h2⟩ => ⟨(i, k), (hA (i, k)).2 h1, (e _ _).2 h2⟩⟩
end
end Go.Proofs.Ytnemaolbmocncaa.P
