/- Maps with whole numbers for keys, as lists of pairs. Over any program. -/
import Derived.Test.YtnemaolbmocncaaFr
import Derived.Maps.RangeRun
namespace Go.Proofs.Ytnemaolbmocncaa
open Go.RowKit
open Go.MapKept
open Go.ChangeMaps (setBlock)
set_option linter.unusedSimpArgs false
set_option linter.unusedVariables false
/-! ### Lists of pairs -/
section
variable {β : Type}
def get : List (Int × β) → Int → Option β
  | [], _ => none
  | p :: l, k => if p.1 = k then some p.2 else get l k
def put : List (Int × β) → Int → β → List (Int × β)
  | [], k, b => [(k, b)]
  | p :: l, k, b => if p.1 = k then (k, b) :: l else p :: put l k b
def del : List (Int × β) → Int → List (Int × β)
  | [], _ => []
  | p :: l, k => if p.1 = k then l else p :: del l k
def getI : List (Int × β) → Int → Option (Nat × β)
  | [], _ => none
  | p :: l, k => if p.1 = k then some (0, p.2) else (getI l k).map fun x => (x.1 + 1, x.2)
theorem getI_snd (l : List (Int × β)) (k : Int) : (getI l k).map (·.2) = get l k := by
  induction l with
  | nil => rfl
  | cons p l ih =>
    unfold getI get
    split
    · rfl
    · rw [← ih, Option.map_map]; rfl
theorem getI_none {l : List (Int × β)} {k : Int} (h : getI l k = none) (b : β) : put l k b = l ++ [(k, b)] ∧ del l k = l ∧ get l k = none ∧ ∀ p ∈ l, p.1 ≠ k := by
  induction l with
  | nil => exact ⟨rfl, rfl, rfl, by simp⟩
  | cons p l ih =>
    unfold getI at h
    split at h
    · cases h
    · rename_i hp
      obtain ⟨h1, h2, h3, h4⟩ := ih (by simpa using h)
      refine ⟨by unfold put; rw [if_neg hp, h1]; rfl, by unfold del; rw [if_neg hp, h2], by unfold get; rw [if_neg hp, h3], ?_⟩
      intro x hx
      rcases List.mem_cons.1 hx with rfl | hx
      · exact hp
      · exact h4 x hx
theorem getI_some {l : List (Int × β)} {k : Int} {i : Nat} {v : β} (h : getI l k = some (i, v)) (b : β) : put l k b = l.modify i (fun _ => (k, b)) ∧ del l k = l.eraseIdx i ∧ get l k = some v ∧ l[i]? = some (k, v) := by
  induction l generalizing i with
  | nil => cases h
  | cons p l ih =>
    unfold getI at h
    split at h
    · rename_i hp
      simp only [Option.some.injEq, Prod.mk.injEq] at h
      obtain ⟨rfl, rfl⟩ := h
      exact ⟨by unfold put; rw [if_pos hp]; rfl, by unfold del; rw [if_pos hp]; rfl, by unfold get; rw [if_pos hp], by rw [← hp]; rfl⟩
    · rename_i hp
      obtain ⟨x, hx, e⟩ := Option.map_eq_some_iff.1 h
      simp only [Prod.mk.injEq] at e
      obtain ⟨rfl, rfl⟩ := e
      obtain ⟨h1, h2, h3, h4⟩ := ih (i := x.1) hx
      exact ⟨by unfold put; rw [if_neg hp, h1]; rfl, by unfold del; rw [if_neg hp, h2]; rfl, by unfold get; rw [if_neg hp, h3], by simpa using h4⟩
theorem get_put (l : List (Int × β)) (k : Int) (b : β) (j : Int) : get (put l k b) j = if j = k then some b else get l j := by
  induction l with
  | nil => unfold put get; split <;> split <;> simp_all [get]
  | cons p l ih =>
    unfold put
    split
    · rename_i hp
      unfold get
      split
      · rename_i h; rw [if_pos h.symm]
      · rename_i h; rw [if_neg (fun e => h e.symm), if_neg (fun e => h (hp.symm.trans e))]
    · rename_i hp
      unfold get
      split
      · rename_i h; rw [if_neg (fun e => hp (h.trans e))]
      · exact ih
theorem mem_del {l : List (Int × β)} {k : Int} {p : Int × β} (h : p ∈ del l k) : p ∈ l := by
  induction l with
  | nil => cases h
  | cons x l ih =>
    unfold del at h
    split at h
    · exact List.mem_cons_of_mem _ h
    · rcases List.mem_cons.1 h with rfl | h
      · exact List.mem_cons_self
      · exact List.mem_cons_of_mem _ (ih h)
theorem get_mem {l : List (Int × β)} {k : Int} {b : β} (h : get l k = some b) : (k, b) ∈ l := by
  induction l with
  | nil => cases h
  | cons p l ih =>
    unfold get at h
    split at h
    · rename_i hp
      obtain rfl := Option.some.inj h
      rw [← hp]; exact List.mem_cons_self
    · exact List.mem_cons_of_mem _ (ih h)
theorem get_none {l : List (Int × β)} {k : Int} (h : ∀ p ∈ l, p.1 ≠ k) : get l k = none := by
  induction l with
  | nil => rfl
  | cons p l ih => unfold get; rw [if_neg (h p (by simp)), ih fun x hx => h x (by simp [hx])]
theorem get_of_mem {l : List (Int × β)} (hn : (l.map (·.1)).Nodup) {k : Int} {b : β} (h : (k, b) ∈ l) : get l k = some b := by
  induction l with
  | nil => cases h
  | cons p l ih =>
    simp only [List.map_cons, List.nodup_cons] at hn
    unfold get
    rcases List.mem_cons.1 h with rfl | h
    · rw [if_pos rfl]
    · rw [if_neg, ih hn.2 h]
      intro e
      exact hn.1 (e ▸ List.mem_map.2 ⟨(k, b), h, rfl⟩)
theorem get_del {l : List (Int × β)} (hn : (l.map (·.1)).Nodup) (k j : Int) : get (del l k) j = if j = k then none else get l j := by
  induction l with
  | nil => unfold del get; split <;> rfl
  | cons p l ih =>
    simp only [List.map_cons, List.nodup_cons] at hn
    unfold del
    split
    · rename_i hp
      by_cases h : j = k
      · subst h
        rw [if_pos rfl]
        exact get_none fun x hx e => hn.1 (by rw [hp, ← e]; exact List.mem_map.2 ⟨x, hx, rfl⟩)
      · rw [if_neg h]
        conv => rhs; unfold get
        rw [if_neg (fun e => h (e.symm.trans hp))]
    · rename_i hp
      unfold get
      split
      · rename_i h; rw [if_neg (fun e => hp (h.trans e))]
      · exact ih hn.2
theorem put_keys {l : List (Int × β)} (hn : (l.map (·.1)).Nodup) (k : Int) (b : β) : ((put l k b).map (·.1)).Nodup := by
  have key : ∀ l : List (Int × β), (put l k b).map (·.1) = if (get l k).isSome then l.map (·.1) else l.map (·.1) ++ [k] := fun l => by
    induction l with
    | nil => rfl
    | cons p l ih =>
      unfold put get
      split
      · rename_i hp; simp [hp]
      · simp only [List.map_cons, ih]
        split <;> simp
  rw [key]
  split
  · exact hn
  · rename_i h
    refine List.nodup_append.2 ⟨hn, by simp, ?_⟩
    rintro a ha c hc rfl
    obtain rfl : a = k := by simpa using hc
    obtain ⟨p, hp, rfl⟩ := List.mem_map.1 ha
    rw [get_of_mem hn (b := p.2) hp] at h
    exact h rfl
theorem del_keys {l : List (Int × β)} (hn : (l.map (·.1)).Nodup) (k : Int) : ((del l k).map (·.1)).Nodup := by
  have : (del l k).Sublist l := by
    clear hn
    induction l with
    | nil => exact List.Sublist.refl _
    | cons p l ih =>
      unfold del
      split
      · exact List.sublist_cons_self _ _
      · exact ih.cons_cons _
  exact (this.map _).nodup hn
end
/-! ### A map in memory -/
structure EnT (q : IntKind) (es : Array MapEntry) (clock : Nat) (A : List (Int × Value)) : Prop where
  st : Stamped es clock
  eq : es.toList.map (fun e => (e.key, e.val)) = A.map fun p => (Value.int q p.1, p.2)
def MapAt (w : World) (r : Nat) (q : IntKind) (A : List (Int × Value)) : Prop := ∃ es clock, w.heap[r]? = some (.map es clock) ∧ EnT q es clock A
theorem EnT.empty (q : IntKind) : EnT q #[] 0 [] := ⟨stamped_empty 0, rfl⟩
theorem EnT.size {q : IntKind} {es : Array MapEntry} {clock : Nat} {A : List (Int × Value)} (h : EnT q es clock A) : es.size = A.length := by
  have := congrArg List.length h.eq
  simpa using this
theorem EnT.keys {q : IntKind} {es : Array MapEntry} {clock : Nat} {A : List (Int × Value)} (h : EnT q es clock A) : (A.map (·.1)).Nodup := by
  have e : es.toList.map (·.key) = A.map (fun p => Value.int q p.1) := by
    have := congrArg (List.map (·.1)) h.eq
    rw [List.map_map, List.map_map] at this
    exact this
  have hn := h.st.2.2
  rw [e] at hn
  exact List.pairwise_map.2 ((List.pairwise_map.1 hn).imp fun h e => h (by rw [e]))
theorem EnT.isKey {q : IntKind} {es : Array MapEntry} {clock : Nat} {A : List (Int × Value)} (h : EnT q es clock A) : ∀ x ∈ es.toList, ∃ k, x.key = .int q k := fun x hx => by
  have : (x.key, x.val) ∈ es.toList.map (fun e => (e.key, e.val)) := List.mem_map.2 ⟨x, hx, rfl⟩
  rw [h.eq] at this
  obtain ⟨p, _, e⟩ := List.mem_map.1 this
  exact ⟨p.1, (congrArg Prod.fst e).symm⟩
theorem findNow_getI (q : IntKind) (k : Int) : ∀ (l : List MapEntry) (A : List (Int × Value)) (i : Nat), l.map (fun e => (e.key, e.val)) = A.map (fun p => (Value.int q p.1, p.2)) →
    Instr.findNow (.int q) (.int q k) l i = some ((getI A k).map fun x => (i + x.1, x.2))
  | [], A, i, h => by
    cases A with
    | nil => rfl
    | cons p A => simp at h
  | e :: l, A, i, h => by
    cases A with
    | nil => simp at h
    | cons p A =>
      simp only [List.map_cons, List.cons.injEq, Prod.mk.injEq] at h
      obtain ⟨⟨h1, h2⟩, h3⟩ := h
      unfold Instr.findNow getI
      rw [h1]
      by_cases hp : p.1 = k
      · simp [Instr.sameNow, hp, h2]
      · have : (k == p.1) = false := by simp; exact fun e => hp e.symm
        simp [Instr.sameNow, hp, this, findNow_getI q k l A (i + 1) h3]
        cases getI A k with
        | none => rfl
        | some x => simp; omega
section
variable {P : Program} {w w' : World} {t kt et : TypeId} {q : IntKind} {r : Nat} {A : List (Int × Value)}
theorem MapAt.lt (h : MapAt w r q A) : r < w.heap.size := by obtain ⟨es, c, hb, _⟩ := h; exact (Array.getElem?_eq_some_iff.1 hb).1
theorem MapAt.fr (h : MapAt w r q A) {S : Nat → Prop} (k : Fr S w w') (hn : ¬ S r) : MapAt w' r q A := by
  have hl := h.lt
  obtain ⟨es, c, hb, hE⟩ := h
  exact ⟨es, c, (k.block r hl hn).trans hb, hE⟩
theorem MapAt.keys (h : MapAt w r q A) : (A.map (·.1)).Nodup := by obtain ⟨es, c, hb, hE⟩ := h; exact hE.keys
theorem MapAt.made (w : World) (q : IntKind) : MapAt (w.alloc (.map #[] 0)) w.heap.size q [] := ⟨_, _, heap_alloc_new w _, EnT.empty q⟩
theorem Fr.setBlock {S : Nat → Prop} {a b : World} (h : Fr S a b) {o o' : Obj} {r : Nat} (hr : b.heap[r]? = some o) (hg : r < a.heap.size → S r) : Fr S a (setBlock b r o') :=
  ⟨h.os, h.tape, h.output, by simp [ChangeMaps.setBlock]; exact h.size, fun k hk hn => by
    have : k ≠ r := fun e => hn (e ▸ hg (e ▸ hk))
    exact ((heap_set hr).2 k this).trans (h.block k hk hn)⟩
theorem run_lookupA (ht : P.underlying t = some (.map kt et)) (hk : P.underlying kt = some (.int q)) (h : MapAt w r q A) (k : Int) {z : Value} (hz : (zeroValue et).run P w = .ok z w) (c : Bool) :
    (Instr.lookup t (.map (some r)) (.int q k) c).run P w = .ok (if c then .tuple #[(get A k).getD z, .bool (get A k).isSome] else (get A k).getD z) w := by
  obtain ⟨es, clock, hb, hE⟩ := h
  have hf := run_findKey (w := w) hk (findNow_getI q k es.toList A 0 hE.eq)
  have hc := run_checkKey (w := w) (k := .int q k) hk rfl es.isEmpty 9999
  rw [← getI_snd]
  cases hg : getI A k with
  | none =>
    rw [hg] at hf
    cases c <;> simp [Instr.lookup, run_underlying ht, MapKept.run_getObj_map hb, hc, hf, hz, Result.andThen]
  | some x =>
    rw [hg] at hf
    cases c <;> simp [Instr.lookup, run_underlying ht, MapKept.run_getObj_map hb, hc, hf, Result.andThen]
theorem run_updateA (ht : P.underlying t = some (.map kt et)) (hk : P.underlying kt = some (.int q)) (h : MapAt w r q A) (k : Int) (v : Value) :
    ∃ w', (Instr.mapUpdate t (.map (some r)) (.int q k) v).run P w = .ok () w' ∧ MapAt w' r q (put A k v) ∧ Fr (fun i => i = r) w w' := by
  obtain ⟨es, clock, hb, hE⟩ := h
  have hf := run_findKey (w := w) hk (findNow_getI q k es.toList A 0 hE.eq)
  have hc := run_checkKey (w := w) (k := .int q k) hk rfl false 9999
  cases hg : getI A k with
  | none =>
    rw [hg] at hf
    obtain ⟨p1, _, _, p4⟩ := getI_none hg v
    refine ⟨setBlock w r (.map (es.push { key := .int q k, val := v, born := clock }) (clock + 1)), ?_, ⟨_, _, (heap_set hb).1, stamped_push hE.st ?_, ?_⟩, (Fr.refl _ _).setBlock hb fun _ => rfl⟩
    · simp [Instr.mapUpdate, run_underlying ht, MapKept.run_getObj_map hb, hc, hf, Result.andThen, MapKept.run_setObj_map _ hb, setBlock]
    · intro x hx e
      have : (x.key, x.val) ∈ es.toList.map (fun e => (e.key, e.val)) := List.mem_map.2 ⟨x, hx, rfl⟩
      rw [hE.eq] at this
      obtain ⟨p, hp, e2⟩ := List.mem_map.1 this
      have e3 := (congrArg Prod.fst e2).trans e
      injection e3 with _ e4
      exact p4 p hp e4
    · rw [p1]
      simp [hE.eq]
  | some x =>
    obtain ⟨i, u⟩ := x
    rw [hg] at hf
    obtain ⟨p1, _, _, p4⟩ := getI_some hg v
    have hei : (es.toList.map (fun e => (e.key, e.val)))[i]? = some (.int q k, u) := by rw [hE.eq, List.getElem?_map, p4]; rfl
    rw [List.getElem?_map] at hei
    obtain ⟨e, he, he2⟩ := Option.map_eq_some_iff.1 hei
    have he' : es[i]? = some e := by simpa using he
    have hkey : e.key = .int q k := congrArg Prod.fst he2
    refine ⟨setBlock w r (.map (es.modify i fun e => { e with key := .int q k, val := v }) clock), ?_, ⟨_, _, (heap_set hb).1, stamped_modify hE.st i _ (fun _ _ => rfl) ?_, ?_⟩, (Fr.refl _ _).setBlock hb fun _ => rfl⟩
    · have hst := run_keyThatStays (P := P) (w := w) (d := .int q) (k := .int q k) rfl
      simp [Instr.mapUpdate, run_underlying ht, MapKept.run_getObj_map hb, hc, hf, Result.andThen, MapKept.run_setObj_map _ hb, setBlock, he', hkey, hst]
    · intro e2 _ h2
      rw [he'] at h2
      obtain rfl := Option.some.inj h2
      exact hkey.symm
    · rw [p1]
      apply List.ext_getElem?
      intro j
      have hj : (es.toList.map (fun e => (e.key, e.val)))[j]? = (A.map fun p => (Value.int q p.1, p.2))[j]? := by rw [hE.eq]
      simp only [List.getElem?_map, Array.getElem?_toList, Array.getElem?_modify, List.getElem?_modify] at hj ⊢
      by_cases hij : i = j
      · subst hij
        simp [he', p4]
      · simp only [if_neg hij]
        cases h : A[j]? <;> simp [h] at hj ⊢ <;> exact hj
theorem run_deleteA (ht : P.underlying t = some (.map kt et)) (hk : P.underlying kt = some (.int q)) (h : MapAt w r q A) (k : Int) (ty : TypeId) :
    ∃ w', (Builtin.delete_ #[t, kt] ty #[.map (some r), .int q k]).run P w = .ok (.tuple #[]) w' ∧ MapAt w' r q (del A k) ∧ Fr (fun i => i = r) w w' := by
  obtain ⟨es, clock, hb, hE⟩ := h
  have hf := run_findKey (w := w) hk (findNow_getI q k es.toList A 0 hE.eq)
  have hc := run_checkKey (w := w) (k := .int q k) hk rfl es.isEmpty 9999
  cases hg : getI A k with
  | none =>
    rw [hg] at hf
    obtain ⟨_, p2, _, _⟩ := getI_none hg .nilIface
    refine ⟨setBlock w r (.map es clock), ?_, ⟨_, _, (heap_set hb).1, hE.st, by rw [p2]; exact hE.eq⟩, (Fr.refl _ _).setBlock hb fun _ => rfl⟩
    simp [Builtin.delete_, run_underlying ht, MapKept.run_getObj_map hb, hc, hf, Result.andThen, MapKept.run_setObj_map _ hb, setBlock]
  | some x =>
    obtain ⟨i, u⟩ := x
    rw [hg] at hf
    obtain ⟨_, p2, _, p4⟩ := getI_some hg .nilIface
    have hi : i < es.size := by rw [hE.size]; exact (List.getElem?_eq_some_iff.1 p4).1
    refine ⟨setBlock w r (.map (es.eraseIdxIfInBounds i) clock), ?_, ⟨_, _, (heap_set hb).1, stamped_erase hE.st i, ?_⟩, (Fr.refl _ _).setBlock hb fun _ => rfl⟩
    · simp [Builtin.delete_, run_underlying ht, MapKept.run_getObj_map hb, hc, hf, Result.andThen, MapKept.run_setObj_map _ hb, setBlock]
    · rw [p2]
      unfold Array.eraseIdxIfInBounds
      rw [dif_pos hi]
      simp only [Array.toList_eraseIdx]
      have key : ∀ {α γ : Type} (f : α → γ) (l : List α) (i : Nat), (l.eraseIdx i).map f = (l.map f).eraseIdx i := fun f l => by
        induction l with
        | nil => intro i; rfl
        | cons a l ih => intro i; cases i with
          | zero => rfl
          | succ i => simp [ih]
      rw [key, key, hE.eq]
theorem run_lenA (ht : P.underlying t = some (.map kt et)) (h : MapAt w r q A) (ty : TypeId) : (Builtin.len_ #[t] ty #[.map (some r)]).run P w = .ok (.int .i64 A.length) w := by
  obtain ⟨es, clock, hb, hE⟩ := h
  simp [Builtin.len_, run_underlying ht, MapKept.run_getObj_map hb, Result.andThen, hE.size, goInt]
end
end Go.Proofs.Ytnemaolbmocncaa
