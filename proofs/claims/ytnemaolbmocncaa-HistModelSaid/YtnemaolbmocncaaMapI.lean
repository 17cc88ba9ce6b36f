/- Loops over maps: what is still to come, as a list of pairs. Over any program. -/
import Derived.Test.YtnemaolbmocncaaMapA
namespace Go.Proofs.Ytnemaolbmocncaa
open Go.RowKit
open Go.MapKept
open Go.ChangeMaps (setBlock)
set_option linter.unusedSimpArgs false
set_option linter.unusedVariables false
/-- Block i is a loop over the map in block r: T is still to come. -/
def ItAt (w : World) (i r : Nat) (q : IntKind) (A T : List (Int × Value)) : Prop :=
  ∃ es clock seen, w.heap[r]? = some (.map es clock) ∧ EnT q es clock A ∧ w.heap[i]? = some (.mapIter (some r) clock seen clock) ∧ (leftOf es seen).toList.map (fun e => (e.key, e.val)) = T.map fun p => (Value.int q p.1, p.2)
theorem filter_erase {L : List MapEntry} {e : MapEntry} {j : Nat} (hj : L[j]? = some e) (hn : (L.map (·.born)).Nodup) : L.filter (fun x => x.born != e.born) = L.eraseIdx j := by
  induction L generalizing j with
  | nil => cases hj
  | cons x L ih =>
    simp only [List.map_cons, List.nodup_cons] at hn
    cases j with
    | zero =>
      obtain rfl : x = e := by simpa using hj
      simp only [List.filter_cons, bne_self_eq_false, Bool.false_eq_true, if_false, List.eraseIdx_cons_zero]
      refine List.filter_eq_self.2 fun y hy => ?_
      have : y.born ≠ x.born := fun e => hn.1 (e ▸ List.mem_map.2 ⟨y, hy, rfl⟩)
      simpa using this
    | succ j =>
      have hj' : L[j]? = some e := by simpa using hj
      have hx : x.born ≠ e.born := fun h => hn.1 (h ▸ List.mem_map.2 ⟨e, List.mem_of_getElem? hj', rfl⟩)
      have := ih hj' hn.2
      simp [List.filter_cons, hx, this]
section
variable {P : Program} {w w' : World} {t kt et : TypeId} {q : IntKind} {r i : Nat} {A T : List (Int × Value)}
theorem ItAt.map (h : ItAt w i r q A T) : MapAt w r q A := by obtain ⟨es, c, s, h1, h2, _⟩ := h; exact ⟨es, c, h1, h2⟩
theorem ItAt.lt (h : ItAt w i r q A T) : i < w.heap.size := by obtain ⟨es, c, s, _, _, h1, _⟩ := h; exact (Array.getElem?_eq_some_iff.1 h1).1
theorem ItAt.fr (h : ItAt w i r q A T) {S : Nat → Prop} (k : Fr S w w') (hr : ¬ S r) (hi : ¬ S i) : ItAt w' i r q A T := by
  have hl := h.lt
  have hl2 := h.map.lt
  obtain ⟨es, c, s, h1, h2, h3, h4⟩ := h
  exact ⟨es, c, s, (k.block r hl2 hr).trans h1, h2, (k.block i hl hi).trans h3, h4⟩
theorem run_rangeA (ht : P.underlying t = some (.map kt et)) (h : MapAt w r q A) :
    ∃ w', (Instr.range t (.map (some r))).run P w = .ok (.pointer (some ⟨w.heap.size, 0, none⟩)) w' ∧ ItAt w' w.heap.size r q A A ∧ ∃ o, w' = w.alloc o := by
  have hl := h.lt
  obtain ⟨es, clock, hb, hE⟩ := h
  refine ⟨w.alloc (.mapIter (some r) clock #[] clock), ?_, ⟨es, clock, #[], ?_, hE, heap_alloc_new w _, ?_⟩, _, rfl⟩
  · simp [Instr.range, run_underlying ht, MapKept.run_getObj_map hb, Result.andThen]
  · exact (Below.heap_alloc w _ r hl).trans hb
  · rw [← hE.eq]
    congr 1
    simp only [leftOf, Array.toList_filter]
    exact List.filter_eq_self.2 fun x _ => by simp
/-- The next one: nothing is left, or one that was left, whichever the tape says. -/
theorem run_nextA (h : ItAt w i r q A T) (hne : i ≠ r) (ty : TypeId) :
    (T = [] ∧ (Instr.next (.pointer (some ⟨i, 0, none⟩)) false ty).run P w = .ok (.tuple #[.bool false]) w) ∨
    ∃ j p w', T[j]? = some p ∧ p ∈ A ∧ (Instr.next (.pointer (some ⟨i, 0, none⟩)) false ty).run P w = .ok (.tuple #[.bool true, .int q p.1, p.2]) w' ∧ ItAt w' i r q A (T.eraseIdx j) ∧ Fr (fun k => k = i) w w' ∧
      (Instr.entry (.pointer (some ⟨i, 0, none⟩))).run P w' = .ok (.tuple #[.int q p.1, p.2]) w' := by
  obtain ⟨es, clock, seen, hb, hE, hi, hT⟩ := h
  rcases run_next_at (P := P) w ty i r clock clock seen es clock hi hb hE.st.1 (Nat.le_refl _) with ⟨h0, hrun⟩ | ⟨e, he, w1, hw1, hrun⟩
  · refine .inl ⟨?_, hrun⟩
    have := congrArg List.length hT
    simp at this
    exact List.eq_nil_of_length_eq_zero (by omega)
  · refine .inr ?_
    obtain ⟨j, hj⟩ := List.mem_iff_getElem?.1 he
    have hTj : (T.map fun p => (Value.int q p.1, p.2))[j]? = some (e.key, e.val) := by rw [← hT, List.getElem?_map, hj]; rfl
    rw [List.getElem?_map] at hTj
    obtain ⟨p, hp, e2⟩ := Option.map_eq_some_iff.1 hTj
    simp only [Prod.mk.injEq] at e2
    have hes : e ∈ es.toList := by simp [leftOf] at he; simpa using he.1
    have hpA : p ∈ A := by
      have : (e.key, e.val) ∈ es.toList.map (fun e => (e.key, e.val)) := List.mem_map.2 ⟨e, hes, rfl⟩
      rw [hE.eq] at this
      obtain ⟨p', hp', e3⟩ := List.mem_map.1 this
      simp only [Prod.mk.injEq] at e3
      have e4 := e3.1.trans e2.1.symm
      injection e4 with _ e5
      have : p' = p := Prod.ext e5 (e3.2.trans e2.2.symm)
      exact this ▸ hp'
    have hw1h : w1.heap = w.heap := by rcases hw1 with rfl | rfl <;> rfl
    have hi1 : w1.heap[i]? = some (.mapIter (some r) clock seen clock) := by rw [hw1h]; exact hi
    have hb1 : w1.heap[r]? = some (.map es clock) := by rw [hw1h]; exact hb
    have hb2 : (setBlock w1 i (.mapIter (some r) clock (seen.push e.born) clock)).heap[r]? = some (.map es clock) := ((heap_set hi1).2 r (Ne.symm hne)).trans hb1
    have hi2 : (setBlock w1 i (.mapIter (some r) clock (seen.push e.born) clock)).heap[i]? = some (.mapIter (some r) clock (seen.push e.born) clock) := (heap_set hi1).1
    refine ⟨j, p, setBlock w1 i (.mapIter (some r) clock (seen.push e.born) clock), hp, hpA, by rw [e2.1, e2.2]; exact hrun, ⟨es, clock, seen.push e.born, hb2, hE, hi2, ?_⟩, ?_, ?_⟩
    · have key : ∀ {α γ : Type} (f : α → γ) (l : List α) (i : Nat), (l.eraseIdx i).map f = (l.map f).eraseIdx i := fun f l => by
        induction l with
        | nil => intro i; rfl
        | cons a l ih => intro i; cases i with
          | zero => rfl
          | succ i => simp [ih]
      have hleft : (leftOf es (seen.push e.born)).toList = (leftOf es seen).toList.eraseIdx j := by
        have h1 : (leftOf es (seen.push e.born)).toList = (leftOf es seen).toList.filter (fun x => x.born != e.born) := by
          simp only [leftOf, Array.toList_filter, List.filter_filter]
          refine List.filter_congr fun x _ => ?_
          rw [Array.contains_push]
          cases seen.contains x.born <;> simp [bne]
        rw [h1]
        have hn : ((leftOf es seen).toList.map (·.born)).Nodup := by
          have : (leftOf es seen).toList.Sublist es.toList := by simp [leftOf]
          exact (this.map _).nodup hE.st.2.1
        exact filter_erase hj hn
      rw [hleft, key, hT, key]
    · have h1 : Fr (fun k => k = i) w w1 := by rcases hw1 with rfl | rfl <;> exact ⟨rfl, rfl, rfl, Nat.le_refl _, fun _ _ _ => rfl⟩
      exact h1.setBlock hi1 fun _ => rfl
    · rw [e2.1, e2.2]
      exact run_entry_at (P := P) _ i r clock seen es clock e hi2 hb2 hes hE.st.2.1
end
end Go.Proofs.Ytnemaolbmocncaa
