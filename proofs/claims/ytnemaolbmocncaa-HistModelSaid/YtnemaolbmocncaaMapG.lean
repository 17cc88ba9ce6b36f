/- Maps with any keys that are told apart by the program's '==', as lists of pairs. Over any program. -/
import Derived.Test.YtnemaolbmocncaaFr
import Derived.Maps.RangeRun
import Derived.WideKeyRuns
import Derived.DeepKeys
namespace Go.Proofs.Ytnemaolbmocncaa.G
open Go.Proofs.Ytnemaolbmocncaa
open Go.RowKit
open Go.MapKept
open Go.ChangeMaps (setBlock)
set_option linter.unusedSimpArgs false
set_option linter.unusedVariables false
set_option linter.unusedSectionVars false
/-! ### Lists of pairs -/
section
variable {κ β : Type} [DecidableEq κ]
def get : List (κ × β) → κ → Option β
  | [], _ => none
  | p :: l, k => if p.1 = k then some p.2 else get l k
def put : List (κ × β) → κ → β → List (κ × β)
  | [], k, b => [(k, b)]
  | p :: l, k, b => if p.1 = k then (k, b) :: l else p :: put l k b
def del : List (κ × β) → κ → List (κ × β)
  | [], _ => []
  | p :: l, k => if p.1 = k then l else p :: del l k
def getI : List (κ × β) → κ → Option (Nat × β)
  | [], _ => none
  | p :: l, k => if p.1 = k then some (0, p.2) else (getI l k).map fun x => (x.1 + 1, x.2)
theorem getI_snd (l : List (κ × β)) (k : κ) : (getI l k).map (·.2) = get l k := by
  induction l with
  | nil => rfl
  | cons p l ih =>
    unfold getI get
    split
    · rfl
    · rw [← ih, Option.map_map]; rfl
theorem getI_none {l : List (κ × β)} {k : κ} (h : getI l k = none) (b : β) : put l k b = l ++ [(k, b)] ∧ del l k = l ∧ get l k = none ∧ ∀ p ∈ l, p.1 ≠ k := by
  induction l with
  | nil => exact ⟨rfl, rfl, rfl, by simp⟩
  | cons p l ih =>
    unfold getI at h
    split at h
    · cases h
    · rename_i hp
      obtain ⟨h1, h2, h3, h4⟩ := ih (by simpa using h)
      refine ⟨by unfold put; rw [if_neg hp, h1]; rfl, by unfold del; rw [if_neg hp, h2], by unfold get; rw [if_neg hp, h3], ?_⟩
      intro x hx
      rcases List.mem_cons.1 hx with rfl | hx
      · exact hp
      · exact h4 x hx
theorem getI_some {l : List (κ × β)} {k : κ} {i : Nat} {v : β} (h : getI l k = some (i, v)) (b : β) : put l k b = l.modify i (fun _ => (k, b)) ∧ del l k = l.eraseIdx i ∧ get l k = some v ∧ l[i]? = some (k, v) := by
  induction l generalizing i with
  | nil => cases h
  | cons p l ih =>
    unfold getI at h
    split at h
    · rename_i hp
      simp only [Option.some.injEq, Prod.mk.injEq] at h
      obtain ⟨rfl, rfl⟩ := h
      exact ⟨by unfold put; rw [if_pos hp]; rfl, by unfold del; rw [if_pos hp]; rfl, by unfold get; rw [if_pos hp], by rw [← hp]; rfl⟩
    · rename_i hp
      obtain ⟨x, hx, e⟩ := Option.map_eq_some_iff.1 h
      simp only [Prod.mk.injEq] at e
      obtain ⟨rfl, rfl⟩ := e
      obtain ⟨h1, h2, h3, h4⟩ := ih (i := x.1) hx
      exact ⟨by unfold put; rw [if_neg hp, h1]; rfl, by unfold del; rw [if_neg hp, h2]; rfl, by unfold get; rw [if_neg hp, h3], by simpa using h4⟩
theorem get_put (l : List (κ × β)) (k : κ) (b : β) (j : κ) : get (put l k b) j = if j = k then some b else get l j := by
  induction l with
  | nil => unfold put get; split <;> split <;> simp_all [get]
  | cons p l ih =>
    unfold put
    split
    · rename_i hp
      unfold get
      split
      · rename_i h; rw [if_pos h.symm]
      · rename_i h; rw [if_neg (fun e => h e.symm), if_neg (fun e => h (hp.symm.trans e))]
    · rename_i hp
      unfold get
      split
      · rename_i h; rw [if_neg (fun e => hp (h.trans e))]
      · exact ih
theorem mem_del {l : List (κ × β)} {k : κ} {p : κ × β} (h : p ∈ del l k) : p ∈ l := by
  induction l with
  | nil => cases h
  | cons x l ih =>
    unfold del at h
    split at h
    · exact List.mem_cons_of_mem _ h
    · rcases List.mem_cons.1 h with rfl | h
      · exact List.mem_cons_self
      · exact List.mem_cons_of_mem _ (ih h)
theorem get_mem {l : List (κ × β)} {k : κ} {b : β} (h : get l k = some b) : (k, b) ∈ l := by
  induction l with
  | nil => cases h
  | cons p l ih =>
    unfold get at h
    split at h
    · rename_i hp
      obtain rfl := Option.some.inj h
      rw [← hp]; exact List.mem_cons_self
    · exact List.mem_cons_of_mem _ (ih h)
theorem get_none {l : List (κ × β)} {k : κ} (h : ∀ p ∈ l, p.1 ≠ k) : get l k = none := by
  induction l with
  | nil => rfl
  | cons p l ih => unfold get; rw [if_neg (h p (by simp)), ih fun x hx => h x (by simp [hx])]
theorem get_of_mem {l : List (κ × β)} (hn : (l.map (·.1)).Nodup) {k : κ} {b : β} (h : (k, b) ∈ l) : get l k = some b := by
  induction l with
  | nil => cases h
  | cons p l ih =>
    simp only [List.map_cons, List.nodup_cons] at hn
    unfold get
    rcases List.mem_cons.1 h with rfl | h
    · rw [if_pos rfl]
    · rw [if_neg, ih hn.2 h]
      intro e
      exact hn.1 (e ▸ List.mem_map.2 ⟨(k, b), h, rfl⟩)
theorem get_del {l : List (κ × β)} (hn : (l.map (·.1)).Nodup) (k j : κ) : get (del l k) j = if j = k then none else get l j := by
  induction l with
  | nil => unfold del get; split <;> rfl
  | cons p l ih =>
    simp only [List.map_cons, List.nodup_cons] at hn
    unfold del
    split
    · rename_i hp
      by_cases h : j = k
      · subst h
        rw [if_pos rfl]
        exact get_none fun x hx e => hn.1 (by rw [hp, ← e]; exact List.mem_map.2 ⟨x, hx, rfl⟩)
      · rw [if_neg h]
        conv => rhs; unfold get
        rw [if_neg (fun e => h (e.symm.trans hp))]
    · rename_i hp
      unfold get
      split
      · rename_i h; rw [if_neg (fun e => hp (h.trans e))]
      · exact ih hn.2
theorem put_keys {l : List (κ × β)} (hn : (l.map (·.1)).Nodup) (k : κ) (b : β) : ((put l k b).map (·.1)).Nodup := by
  have key : ∀ l : List (κ × β), (put l k b).map (·.1) = if (get l k).isSome then l.map (·.1) else l.map (·.1) ++ [k] := fun l => by
    induction l with
    | nil => rfl
    | cons p l ih =>
      unfold put get
      split
      · rename_i hp; simp [hp]
      · simp only [List.map_cons, ih]
        split <;> simp
  rw [key]
  split
  · exact hn
  · rename_i h
    refine List.nodup_append.2 ⟨hn, by simp, ?_⟩
    rintro a ha c hc rfl
    obtain rfl : a = k := by simpa using hc
    obtain ⟨p, hp, rfl⟩ := List.mem_map.1 ha
    rw [get_of_mem hn (b := p.2) hp] at h
    exact h rfl
theorem del_keys {l : List (κ × β)} (hn : (l.map (·.1)).Nodup) (k : κ) : ((del l k).map (·.1)).Nodup := by
  have : (del l k).Sublist l := by
    clear hn
    induction l with
    | nil => exact List.Sublist.refl _
    | cons p l ih =>
      unfold del
      split
      · exact List.sublist_cons_self _ _
      · exact ih.cons_cons _
  exact (this.map _).nodup hn
end
/-! ### Keys -/
/-- What a key's value is, and that the program tells keys of the domain D apart. -/
structure KeyLaw (P : Program) (kt : TypeId) {κ : Type} [DecidableEq κ] (enc : κ → Value) (D : κ → Prop) : Prop where
  wide : (match P.underlying kt with | some (.array _ _) | some (.struct _) => true | _ => false) = true
  inj : ∀ a b, enc a = enc b → a = b
  eq : ∀ a b w, D a → D b → (Op.equal kt (enc a) (enc b)).run P w = .ok (decide (a = b)) w
  chk : ∀ a e w, (Instr.checkKey e 10000 kt (enc a)).run P w = .ok () w
  stay : ∀ a w, (Instr.keyThatStays (enc a) (enc a)).run P w = .ok (enc a) w
/-! ### A map in memory -/
section
variable {κ : Type} [DecidableEq κ]
structure EnT (enc : κ → Value) (es : Array MapEntry) (clock : Nat) (A : List (κ × Value)) : Prop where
  st : Stamped es clock
  eq : es.toList.map (fun e => (e.key, e.val)) = A.map fun p => (enc p.1, p.2)
def MapAt (w : World) (r : Nat) (enc : κ → Value) (A : List (κ × Value)) : Prop := ∃ es clock, w.heap[r]? = some (.map es clock) ∧ EnT enc es clock A
theorem EnT.empty (enc : κ → Value) : EnT enc #[] 0 [] := ⟨stamped_empty 0, rfl⟩
theorem EnT.size {enc : κ → Value} {es : Array MapEntry} {clock : Nat} {A : List (κ × Value)} (h : EnT enc es clock A) : es.size = A.length := by
  have := congrArg List.length h.eq
  simpa using this
theorem EnT.keys {enc : κ → Value} {es : Array MapEntry} {clock : Nat} {A : List (κ × Value)} (h : EnT enc es clock A) : (A.map (·.1)).Nodup := by
  have e : es.toList.map (·.key) = A.map (fun p => enc p.1) := by
    have := congrArg (List.map (·.1)) h.eq
    rw [List.map_map, List.map_map] at this
    exact this
  have hn := h.st.2.2
  rw [e] at hn
  exact List.pairwise_map.2 ((List.pairwise_map.1 hn).imp fun h e => h (by rw [e]))
theorem run_findAsking {P : Program} {kt : TypeId} {enc : κ → Value} {D : κ → Prop} (L : KeyLaw P kt enc D) {k : κ} (hk : D k) (w : World) : ∀ (l : List MapEntry) (A : List (κ × Value)) (i : Nat), (∀ p ∈ A, D p.1) →
    l.map (fun e => (e.key, e.val)) = A.map (fun p => (enc p.1, p.2)) → (Instr.findAsking kt (enc k) l i).run P w = .ok ((getI A k).map fun x => (i + x.1, x.2)) w
  | [], A, i, _, h => by
    cases A with
    | nil => rfl
    | cons p A => simp at h
  | e :: l, A, i, hD, h => by
    cases A with
    | nil => simp at h
    | cons p A =>
      simp only [List.map_cons, List.cons.injEq, Prod.mk.injEq] at h
      obtain ⟨⟨h1, h2⟩, h3⟩ := h
      unfold Instr.findAsking getI
      rw [Sem.run_bind, h1, L.eq k p.1 w hk (hD p (by simp)), Result.andThen_ok]
      by_cases hp : p.1 = k
      · have hp' : k = p.1 := hp.symm
        rw [if_pos hp, decide_eq_true hp']
        simp [h2]
      · have hp' : ¬ k = p.1 := fun e => hp e.symm
        simp only [hp, hp', decide_false, Bool.false_eq_true, if_false]
        rw [run_findAsking L hk w l A (i + 1) (fun q hq => hD q (by simp [hq])) h3]
        cases getI A k with
        | none => rfl
        | some x => simp; omega
variable {P : Program} {w w' : World} {t kt et : TypeId} {enc : κ → Value} {D : κ → Prop} {r : Nat} {A : List (κ × Value)}
theorem MapAt.lt (h : MapAt w r enc A) : r < w.heap.size := by obtain ⟨es, c, hb, _⟩ := h; exact (Array.getElem?_eq_some_iff.1 hb).1
theorem MapAt.fr (h : MapAt w r enc A) {S : Nat → Prop} (k : Fr S w w') (hn : ¬ S r) : MapAt w' r enc A := by
  have hl := h.lt
  obtain ⟨es, c, hb, hE⟩ := h
  exact ⟨es, c, (k.block r hl hn).trans hb, hE⟩
theorem MapAt.keys (h : MapAt w r enc A) : (A.map (·.1)).Nodup := by obtain ⟨es, c, hb, hE⟩ := h; exact hE.keys
theorem MapAt.made (w : World) (enc : κ → Value) : MapAt (w.alloc (.map #[] 0)) w.heap.size enc ([] : List (κ × Value)) := ⟨_, _, heap_alloc_new w _, EnT.empty enc⟩
theorem fr_setBlock {S : Nat → Prop} {a b : World} (h : Fr S a b) {o o' : Obj} {r : Nat} (hr : b.heap[r]? = some o) (hg : r < a.heap.size → S r) : Fr S a (setBlock b r o') :=
  ⟨h.os, h.tape, h.output, by simp [ChangeMaps.setBlock]; exact h.size, fun k hk hn => by
    have : k ≠ r := fun e => hn (e ▸ hg (e ▸ hk))
    exact ((heap_set hr).2 k this).trans (h.block k hk hn)⟩
theorem run_find (L : KeyLaw P kt enc D) {k : κ} (hk : D k) (hA : ∀ p ∈ A, D p.1) {es : Array MapEntry} {clock : Nat} (hE : EnT enc es clock A) : (Instr.findKey kt (enc k) es.toList).run P w = .ok (getI A k) w := by
  rw [run_findKey_eq w L.wide, run_findAsking L hk w es.toList A 0 hA hE.eq]
  cases getI A k with
  | none => rfl
  | some x => simp
theorem run_lookupA (ht : P.underlying t = some (.map kt et)) (L : KeyLaw P kt enc D) (h : MapAt w r enc A) (hA : ∀ p ∈ A, D p.1) {k : κ} (hk : D k) {z : Value} (hz : (zeroValue et).run P w = .ok z w) (c : Bool) :
    (Instr.lookup t (.map (some r)) (enc k) c).run P w = .ok (if c then .tuple #[(get A k).getD z, .bool (get A k).isSome] else (get A k).getD z) w := by
  obtain ⟨es, clock, hb, hE⟩ := h
  have hf := run_find (w := w) L hk hA hE
  have hc := L.chk k es.isEmpty w
  rw [← getI_snd]
  cases hg : getI A k with
  | none =>
    rw [hg] at hf
    cases c <;> simp [Instr.lookup, run_underlying ht, MapKept.run_getObj_map hb, hc, hf, hz, Result.andThen]
  | some x =>
    rw [hg] at hf
    cases c <;> simp [Instr.lookup, run_underlying ht, MapKept.run_getObj_map hb, hc, hf, Result.andThen]
theorem run_updateA (ht : P.underlying t = some (.map kt et)) (L : KeyLaw P kt enc D) (h : MapAt w r enc A) (hA : ∀ p ∈ A, D p.1) {k : κ} (hk : D k) (v : Value) :
    ∃ w', (Instr.mapUpdate t (.map (some r)) (enc k) v).run P w = .ok () w' ∧ MapAt w' r enc (put A k v) ∧ Fr (fun i => i = r) w w' := by
  obtain ⟨es, clock, hb, hE⟩ := h
  have hf := run_find (w := w) L hk hA hE
  have hc := L.chk k false w
  cases hg : getI A k with
  | none =>
    rw [hg] at hf
    obtain ⟨p1, _, _, p4⟩ := getI_none hg v
    refine ⟨setBlock w r (.map (es.push { key := enc k, val := v, born := clock }) (clock + 1)), ?_, ⟨_, _, (heap_set hb).1, stamped_push hE.st ?_, ?_⟩, fr_setBlock (Fr.refl _ _) hb fun _ => rfl⟩
    · simp [Instr.mapUpdate, run_underlying ht, MapKept.run_getObj_map hb, hc, hf, Result.andThen, MapKept.run_setObj_map _ hb, setBlock]
    · intro x hx e
      have : (x.key, x.val) ∈ es.toList.map (fun e => (e.key, e.val)) := List.mem_map.2 ⟨x, hx, rfl⟩
      rw [hE.eq] at this
      obtain ⟨p, hp, e2⟩ := List.mem_map.1 this
      have e3 := (congrArg Prod.fst e2).trans e
      exact p4 p hp (L.inj _ _ e3)
    · rw [p1]
      simp [hE.eq]
  | some x =>
    obtain ⟨i, u⟩ := x
    rw [hg] at hf
    obtain ⟨p1, _, _, p4⟩ := getI_some hg v
    have hei : (es.toList.map (fun e => (e.key, e.val)))[i]? = some (enc k, u) := by rw [hE.eq, List.getElem?_map, p4]; rfl
    rw [List.getElem?_map] at hei
    obtain ⟨e, he, he2⟩ := Option.map_eq_some_iff.1 hei
    have he' : es[i]? = some e := by simpa using he
    have hkey : e.key = enc k := congrArg Prod.fst he2
    refine ⟨setBlock w r (.map (es.modify i fun e => { e with key := enc k, val := v }) clock), ?_, ⟨_, _, (heap_set hb).1, stamped_modify hE.st i _ (fun _ _ => rfl) ?_, ?_⟩, fr_setBlock (Fr.refl _ _) hb fun _ => rfl⟩
    · have hst := L.stay k w
      simp [Instr.mapUpdate, run_underlying ht, MapKept.run_getObj_map hb, hc, hf, Result.andThen, MapKept.run_setObj_map _ hb, setBlock, he', hkey, hst]
    · intro e2 _ h2
      rw [he'] at h2
      obtain rfl := Option.some.inj h2
      exact hkey.symm
    · rw [p1]
      apply List.ext_getElem?
      intro j
      have hj : (es.toList.map (fun e => (e.key, e.val)))[j]? = (A.map fun p => (enc p.1, p.2))[j]? := by rw [hE.eq]
      simp only [List.getElem?_map, Array.getElem?_toList, Array.getElem?_modify, List.getElem?_modify] at hj ⊢
      by_cases hij : i = j
      · subst hij
        simp [he', p4]
      · simp only [if_neg hij]
        cases h : A[j]? <;> simp [h] at hj ⊢ <;> exact hj
theorem run_lenA (ht : P.underlying t = some (.map kt et)) (h : MapAt w r enc A) (ty : TypeId) : (Builtin.len_ #[t] ty #[.map (some r)]).run P w = .ok (.int .i64 A.length) w := by
  obtain ⟨es, clock, hb, hE⟩ := h
  simp [Builtin.len_, run_underlying ht, MapKept.run_getObj_map hb, Result.andThen, hE.size, goInt]
/-! ### Loops over a map -/
/-- Block i is a loop over the map in block r: T is still to come. -/
def ItAt (w : World) (i r : Nat) (enc : κ → Value) (A T : List (κ × Value)) : Prop :=
  ∃ es clock seen, w.heap[r]? = some (.map es clock) ∧ EnT enc es clock A ∧ w.heap[i]? = some (.mapIter (some r) clock seen clock) ∧ (leftOf es seen).toList.map (fun e => (e.key, e.val)) = T.map fun p => (enc p.1, p.2)
theorem filter_erase {L : List MapEntry} {e : MapEntry} {j : Nat} (hj : L[j]? = some e) (hn : (L.map (·.born)).Nodup) : L.filter (fun x => x.born != e.born) = L.eraseIdx j := by
  induction L generalizing j with
  | nil => cases hj
  | cons x L ih =>
    simp only [List.map_cons, List.nodup_cons] at hn
    cases j with
    | zero =>
      obtain rfl : x = e := by simpa using hj
      simp only [List.filter_cons, bne_self_eq_false, Bool.false_eq_true, if_false, List.eraseIdx_cons_zero]
      refine List.filter_eq_self.2 fun y hy => ?_
      have : y.born ≠ x.born := fun e => hn.1 (e ▸ List.mem_map.2 ⟨y, hy, rfl⟩)
      simpa using this
    | succ j =>
      have hj' : L[j]? = some e := by simpa using hj
      have hx : x.born ≠ e.born := fun h => hn.1 (h ▸ List.mem_map.2 ⟨e, List.mem_of_getElem? hj', rfl⟩)
      have := ih hj' hn.2
      simp [List.filter_cons, hx, this]
variable {i : Nat} {T : List (κ × Value)}
theorem ItAt.map (h : ItAt w i r enc A T) : MapAt w r enc A := by obtain ⟨es, c, s, h1, h2, _⟩ := h; exact ⟨es, c, h1, h2⟩
theorem ItAt.lt (h : ItAt w i r enc A T) : i < w.heap.size := by obtain ⟨es, c, s, _, _, h1, _⟩ := h; exact (Array.getElem?_eq_some_iff.1 h1).1
theorem ItAt.fr (h : ItAt w i r enc A T) {S : Nat → Prop} (k : Fr S w w') (hr : ¬ S r) (hi : ¬ S i) : ItAt w' i r enc A T := by
  have hl := h.lt
  have hl2 := h.map.lt
  obtain ⟨es, c, s, h1, h2, h3, h4⟩ := h
  exact ⟨es, c, s, (k.block r hl2 hr).trans h1, h2, (k.block i hl hi).trans h3, h4⟩
theorem run_rangeA (ht : P.underlying t = some (.map kt et)) (h : MapAt w r enc A) :
    ∃ w', (Instr.range t (.map (some r))).run P w = .ok (.pointer (some ⟨w.heap.size, 0, none⟩)) w' ∧ ItAt w' w.heap.size r enc A A ∧ ∃ o, w' = w.alloc o := by
  have hl := h.lt
  obtain ⟨es, clock, hb, hE⟩ := h
  refine ⟨w.alloc (.mapIter (some r) clock #[] clock), ?_, ⟨es, clock, #[], ?_, hE, heap_alloc_new w _, ?_⟩, _, rfl⟩
  · simp [Instr.range, run_underlying ht, MapKept.run_getObj_map hb, Result.andThen]
  · exact (Below.heap_alloc w _ r hl).trans hb
  · rw [← hE.eq]
    congr 1
    simp only [leftOf, Array.toList_filter]
    exact List.filter_eq_self.2 fun x _ => by simp
/-- The next one: nothing is left, or one that was left, whichever the tape says. -/
theorem run_nextA (hinj : ∀ a b, enc a = enc b → a = b) (h : ItAt w i r enc A T) (hne : i ≠ r) (ty : TypeId) :
    (T = [] ∧ (Instr.next (.pointer (some ⟨i, 0, none⟩)) false ty).run P w = .ok (.tuple #[.bool false]) w) ∨
    ∃ j p w', T[j]? = some p ∧ p ∈ A ∧ (Instr.next (.pointer (some ⟨i, 0, none⟩)) false ty).run P w = .ok (.tuple #[.bool true, enc p.1, p.2]) w' ∧ ItAt w' i r enc A (T.eraseIdx j) ∧ Fr (fun k => k = i) w w' ∧
      (Instr.entry (.pointer (some ⟨i, 0, none⟩))).run P w' = .ok (.tuple #[enc p.1, p.2]) w' := by
  obtain ⟨es, clock, seen, hb, hE, hi, hT⟩ := h
  rcases run_next_at (P := P) w ty i r clock clock seen es clock hi hb hE.st.1 (Nat.le_refl _) with ⟨h0, hrun⟩ | ⟨e, he, w1, hw1, hrun⟩
  · refine .inl ⟨?_, hrun⟩
    have := congrArg List.length hT
    simp at this
    exact List.eq_nil_of_length_eq_zero (by omega)
  · refine .inr ?_
    obtain ⟨j, hj⟩ := List.mem_iff_getElem?.1 he
    have hTj : (T.map fun p => (enc p.1, p.2))[j]? = some (e.key, e.val) := by rw [← hT, List.getElem?_map, hj]; rfl
    rw [List.getElem?_map] at hTj
    obtain ⟨p, hp, e2⟩ := Option.map_eq_some_iff.1 hTj
    simp only [Prod.mk.injEq] at e2
    have hes : e ∈ es.toList := by simp [leftOf] at he; simpa using he.1
    have hpA : p ∈ A := by
      have : (e.key, e.val) ∈ es.toList.map (fun e => (e.key, e.val)) := List.mem_map.2 ⟨e, hes, rfl⟩
      rw [hE.eq] at this
      obtain ⟨p', hp', e3⟩ := List.mem_map.1 this
      simp only [Prod.mk.injEq] at e3
      have e4 := e3.1.trans e2.1.symm
      have : p' = p := Prod.ext (hinj _ _ e4) (e3.2.trans e2.2.symm)
      exact this ▸ hp'
    have hw1h : w1.heap = w.heap := by rcases hw1 with rfl | rfl <;> rfl
    have hi1 : w1.heap[i]? = some (.mapIter (some r) clock seen clock) := by rw [hw1h]; exact hi
    have hb1 : w1.heap[r]? = some (.map es clock) := by rw [hw1h]; exact hb
    have hb2 : (setBlock w1 i (.mapIter (some r) clock (seen.push e.born) clock)).heap[r]? = some (.map es clock) := ((heap_set hi1).2 r (Ne.symm hne)).trans hb1
    have hi2 : (setBlock w1 i (.mapIter (some r) clock (seen.push e.born) clock)).heap[i]? = some (.mapIter (some r) clock (seen.push e.born) clock) := (heap_set hi1).1
    refine ⟨j, p, setBlock w1 i (.mapIter (some r) clock (seen.push e.born) clock), hp, hpA, by rw [e2.1, e2.2]; exact hrun, ⟨es, clock, seen.push e.born, hb2, hE, hi2, ?_⟩, ?_, ?_⟩
    · have key : ∀ {α γ : Type} (f : α → γ) (l : List α) (i : Nat), (l.eraseIdx i).map f = (l.map f).eraseIdx i := fun f l => by
        induction l with
        | nil => intro i; rfl
        | cons a l ih => intro i; cases i with
          | zero => rfl
          | succ i => simp [ih]
      have hleft : (leftOf es (seen.push e.born)).toList = (leftOf es seen).toList.eraseIdx j := by
        have h1 : (leftOf es (seen.push e.born)).toList = (leftOf es seen).toList.filter (fun x => x.born != e.born) := by
          simp only [leftOf, Array.toList_filter, List.filter_filter]
          refine List.filter_congr fun x _ => ?_
          rw [Array.contains_push]
          cases seen.contains x.born <;> simp [bne]
        rw [h1]
        have hn : ((leftOf es seen).toList.map (·.born)).Nodup := by
          have : (leftOf es seen).toList.Sublist es.toList := by simp [leftOf]
          exact (this.map _).nodup hE.st.2.1
        exact filter_erase hj hn
      rw [hleft, key, hT, key]
    · have h1 : Fr (fun k => k = i) w w1 := by rcases hw1 with rfl | rfl <;> exact ⟨rfl, rfl, rfl, Nat.le_refl _, fun _ _ _ => rfl⟩
      exact fr_setBlock h1 hi1 fun _ => rfl
    · rw [e2.1, e2.2]
      exact run_entry_at (P := P) _ i r clock seen es clock e hi2 hb2 hes hE.st.2.1
end
end Go.Proofs.Ytnemaolbmocncaa.G
