/- The plain part of reach: a list of those still to be looked at. -/
import Derived.Test.YtnemaolbmocncaaHP
namespace Go.Proofs.Ytnemaolbmocncaa.P
open Go.Proofs.Ytnemaolbmocncaa
/-- What has been seen (s), what is still to be looked at (q); x has been looked at up to k. -/
structure Rch (R : Nat → Nat → Prop) (n f : Nat) (s : List Bool) (q : List Nat) (x k : Nat) : Prop where
  len : s.length = n
  snd : ∀ y, s[y]? = some true → Path R f y
  que : ∀ y ∈ q, y = f ∨ s[y]? = some true
  cls : ∀ y, (y = f ∨ s[y]? = some true) → y ∉ q → ∀ z, z < n → R y z → (y = x → z < k) → s[z]? = some true
section
variable {R : Nat → Nat → Prop} {n f x k : Nat} {s : List Bool} {q : List Nat}
theorem Rch.start (R : Nat → Nat → Prop) (n f : Nat) : Rch R n f (List.replicate n false) [f] f n := by
  have e : ∀ y, (List.replicate n false)[y]? ≠ some true := fun y h => by
    have := List.mem_of_getElem? h
    rw [List.mem_replicate] at this
    exact absurd this.2 (by decide)
  refine ⟨List.length_replicate, fun y h => absurd h (e y), fun y h => .inl (List.mem_singleton.1 h), fun y h h2 => ?_⟩
  rcases h with h | h
  · exact absurd (List.mem_singleton.2 h) h2
  · exact absurd h (e y)
theorem Rch.pop {y : Nat} (h : Rch R n f s (y :: q) x n) : Rch R n f s q y 0 ∧ (y = f ∨ s[y]? = some true) := by
  refine ⟨⟨h.len, h.snd, fun z hz => h.que z (List.mem_cons_of_mem _ hz), fun z hz hq v hv hr hc => ?_⟩, h.que y List.mem_cons_self⟩
  have e : z ≠ y := fun e => absurd (hc e) (Nat.not_lt_zero _)
  exact h.cls z hz (fun h2 => (List.mem_cons.1 h2).elim e hq) v hv hr fun _ => hv
theorem Rch.miss (h : Rch R n f s q x k) (hk : R x k → s[k]? = some true) : Rch R n f s q x (k + 1) := by
  refine ⟨h.len, h.snd, h.que, fun z hz hq v hv hr hc => ?_⟩
  by_cases e : z = x ∧ v = k
  · rw [e.1, e.2] at hr; rw [e.2]; exact hk hr
  · exact h.cls z hz hq v hv hr fun e2 => by have := hc e2; have := fun h => e ⟨e2, h⟩; omega
theorem Rch.hit (h : Rch R n f s q x k) (hx : x = f ∨ s[x]? = some true) (hk : k < n) (hr : R x k) : Rch R n f (s.set k true) (q ++ [k]) x (k + 1) := by
  have hl : k < s.length := h.len ▸ hk
  have up : ∀ y, s[y]? = some true → (s.set k true)[y]? = some true := fun y hy => by
    by_cases e : k = y
    · subst e; rw [List.getElem?_set_self hl]
    · rw [List.getElem?_set_ne e]; exact hy
  have dn : ∀ y, (s.set k true)[y]? = some true → y = k ∨ s[y]? = some true := fun y hy => by
    by_cases e : k = y
    · exact .inl e.symm
    · rw [List.getElem?_set_ne e] at hy; exact .inr hy
  have hp : Path R f k := by
    rcases hx with e | e
    · rw [← e]; exact .one hr
    · exact .more (h.snd x e) hr
  refine ⟨by rw [List.length_set]; exact h.len, fun y hy => (dn y hy).elim (fun e => e ▸ hp) (h.snd y), fun y hy => ?_, fun z hz hq v hv hr hc => ?_⟩
  · rcases List.mem_append.1 hy with hy | hy
    · exact (h.que y hy).imp_right (up y)
    · rw [List.mem_singleton.1 hy]; exact .inr (List.getElem?_set_self hl)
  · have hzk : z ≠ k := fun e => hq (List.mem_append_right _ (List.mem_singleton.2 e))
    have hzq : z ∉ q := fun e => hq (List.mem_append_left _ e)
    by_cases ev : v = k
    · rw [ev]; exact List.getElem?_set_self hl
    · exact up v (h.cls z (hz.imp_right fun h2 => (dn z h2).resolve_left hzk) hzq v hv hr fun e2 => by have := hc e2; omega)
theorem Rch.fin (h : Rch R n f s [] x n) (hR : ∀ y z, R y z → z < n) (y : Nat) : s[y]? = some true ↔ Path R f y := by
  refine ⟨h.snd y, fun p => ?_⟩
  induction p with
  | one hr => exact h.cls _ (.inl rfl) (by simp) _ (hR _ _ hr) hr fun _ => hR _ _ hr
  | more _ hr ih => exact h.cls _ (.inr ih) (by simp) _ (hR _ _ hr) hr fun _ => hR _ _ hr
/-- What is still ahead. -/
def rst (s : List Bool) (q : List Nat) : Nat := s.count false + q.length
theorem rst_start (n f : Nat) : rst (List.replicate n false) [f] = n + 1 := by simp [rst]
theorem rst_pop (y : Nat) : rst s (y :: q) = rst s q + 1 := by simp only [rst, List.length_cons]; omega
theorem rst_hit (hk : s[k]? = some false) : rst (s.set k true) (q ++ [k]) = rst s q := by
  obtain ⟨hl, e⟩ := List.getElem?_eq_some_iff.1 hk
  have h0 : 0 < s.count false := List.count_pos_iff.2 (List.mem_of_getElem? hk)
  have := List.count_set (a := true) (b := false) hl
  rw [e] at this
  simp only [rst, List.length_append, List.length_cons, List.length_nil]
  simp at this
  omega
end
end Go.Proofs.Ytnemaolbmocncaa.P
