/- The plain law of the machine's histories: what they show is nothing. -/
import Derived.Test.YtnemaolbmocncaaMdP
import Derived.Test.YtnemaolbmocncaaOfP
import Derived.Test.YtnemaolbmocncaaHLaw
namespace Go.Proofs.Ytnemaolbmocncaa.P
open Go.Proofs.Ytnemaolbmocncaa
theorem mem_keys {β : Type} {l : List (Int × β)} {k : Int} : k ∈ l.map (·.1) ↔ get l k ≠ none := by
  induction l with
  | nil => simp [get]
  | cons p l ih =>
    unfold get
    split
    · rename_i h
      simp [h]
    · rename_i h
      rw [List.map_cons, List.mem_cons, ih]
      constructor
      · rintro (e | e)
        · exact absurd e.symm h
        · exact e
      · exact .inr
theorem put_old {β : Type} {l : List (Int × β)} {k : Int} {v : β} (h : get l k = some v) (b : β) : (put l k b).map (·.1) = l.map (·.1) := by
  induction l with
  | nil => cases h
  | cons p l ih =>
    unfold get at h
    unfold put
    split
    · rename_i e
      simp [e]
    · rename_i e
      rw [if_neg e] at h
      rw [List.map_cons, List.map_cons, ih h]
theorem put_new {β : Type} {l : List (Int × β)} {k : Int} (h : get l k = none) (b : β) : put l k b = l ++ [(k, b)] := by
  refine (getI_none ?_ b).1
  have := getI_snd l k
  rw [h] at this
  cases e : getI l k with
  | none => rfl
  | some x => rw [e] at this; cases this
/-- What is picked is the last one in time. -/
theorem pick_spec (ts : Nat) : ∀ (l : List Vr) (u : Vr), u.ts ≤ ts → (∀ v ∈ l, u.ts < v.ts) → l.Pairwise (fun a b => a.ts < b.ts) →
    (pick l ts u).ts ≤ ts ∧ ((pick l ts u).ts = u.ts ∨ ∃ v ∈ l, v.ts = (pick l ts u).ts) ∧ u.ts ≤ (pick l ts u).ts ∧ ∀ v ∈ l, v.ts ≤ ts → v.ts ≤ (pick l ts u).ts
  | [], u, h, _, _ => ⟨h, .inl rfl, Nat.le_refl _, fun v hv => by cases hv⟩
  | v :: l, u, h, hu, hs => by
    have hs' := List.pairwise_cons.1 hs
    show (pick l ts (if v.ts ≤ ts then v else u)).ts ≤ ts ∧ ((pick l ts (if v.ts ≤ ts then v else u)).ts = u.ts ∨ ∃ x ∈ v :: l, x.ts = (pick l ts (if v.ts ≤ ts then v else u)).ts) ∧ u.ts ≤ (pick l ts (if v.ts ≤ ts then v else u)).ts ∧ ∀ x ∈ v :: l, x.ts ≤ ts → x.ts ≤ (pick l ts (if v.ts ≤ ts then v else u)).ts
    by_cases hv : v.ts ≤ ts
    · rw [if_pos hv]
      obtain ⟨h1, h2, h3, h4⟩ := pick_spec ts l v hv hs'.1 hs'.2
      have huv := hu v List.mem_cons_self
      refine ⟨h1, .inr ?_, by omega, fun x hx hx2 => ?_⟩
      · rcases h2 with h2 | ⟨x, hx, h2⟩
        · exact ⟨v, List.mem_cons_self, h2.symm⟩
        · exact ⟨x, List.mem_cons_of_mem _ hx, h2⟩
      · rcases List.mem_cons.1 hx with rfl | hx
        · exact h3
        · exact h4 x hx hx2
    · rw [if_neg hv]
      obtain ⟨h1, h2, h3, h4⟩ := pick_spec ts l u h (fun x hx => hu x (List.mem_cons_of_mem _ hx)) hs'.2
      refine ⟨h1, h2.imp id fun ⟨x, hx, e⟩ => ⟨x, List.mem_cons_of_mem _ hx, e⟩, h3, fun x hx hx2 => ?_⟩
      rcases List.mem_cons.1 hx with rfl | hx
      · exact absurd hx2 hv
      · exact h4 x hx hx2
/-- What was told of a call. -/
def tdOf (c : Cl) (r : Rp) : Td := ⟨c.kind, c.txn, c.page, 0, false, r.e, r.txn, r.ts⟩
/-- A read of the newest version at the start. -/
structure RdOk (L : List Pst) (s : Int) (v : Int × Int) : Prop where
  lo : 0 ≤ v.2 ∧ v.2 ≤ s
  there : v.2 = 0 ∨ ∃ j, by_ L v.1 v.2 j
  top : ∀ t j, by_ L v.1 t j → t ≤ s → t ≤ v.2
/-- Machine and history. -/
structure J (M : Md) (B : List ((Int × Int) × Nat)) (L : List Pst) : Prop where
  len : L.length = M.count
  num : ∀ (k : Int × Int) (i : Nat), G.get B k = some i ↔ k = (0, (i : Int) + 1) ∧ i < L.length
  sorted : ∀ p, (M.old p).Pairwise fun a b => a.ts < b.ts
  vpos : ∀ p, ∀ v ∈ M.old p, 0 < v.ts ∧ v.ts ≤ M.last
  lo : ∀ (i : Nat) (a : Pst), L[i]? = some a → 0 ≤ a.start ∧ a.start ≤ M.last
  live : ∀ n t, get M.live n = some t → ∃ (i : Nat) (a : Pst), n = (i : Int) + 1 ∧ L[i]? = some a ∧ a.done = false ∧ a.start = t.start ∧ a.writes = t.now.map (·.1)
  keys : (M.live.map (·.1)).Nodup
  reads : ∀ (i : Nat) (a : Pst), L[i]? = some a → ∀ v ∈ a.reads, RdOk L a.start v
  wr : ∀ (i : Nat) (a : Pst), L[i]? = some a → a.wr = true → a.start < a.commit ∧ a.commit ≤ M.last
  inj : ∀ (i k : Nat) (a b : Pst), L[i]? = some a → L[k]? = some b → a.wr = true → b.wr = true → a.commit = b.commit → i = k
  ver : ∀ (p t : Int), (∃ v ∈ M.old p, (v.ts : Int) = t) ↔ ∃ j, by_ L p t j
  fc : ∀ (p t : Int) (i k : Nat) (b : Pst), by_ L p t i → L[k]? = some b → b.done = true → p ∈ b.writes → t < b.commit → t ≤ b.start
theorem J.new {pages : Int} {max : Nat} : J (new pages max) [] [] where
  len := rfl
  num := fun k i => ⟨fun h => (by cases h), fun h => absurd h.2 (Nat.not_lt_zero _)⟩
  sorted := fun p => List.Pairwise.nil
  vpos := fun p v hv => by cases hv
  lo := fun i a h => by simp at h
  live := fun n t h => by cases h
  keys := List.nodup_nil
  reads := fun i a h => by simp at h
  wr := fun i a h => by simp at h
  inj := fun i k a b h => by simp at h
  ver := fun p t => ⟨fun ⟨v, hv, _⟩ => (by cases hv), fun ⟨j, a, h, _⟩ => by simp at h⟩
  fc := fun p t i k b h => by obtain ⟨a, h1, _⟩ := h; simp at h1
section
variable {M : Md} {B : List ((Int × Int) × Nat)} {L : List Pst}
theorem by_commit {p t : Int} {i : Nat} (h : by_ L p t i) : ∃ a, L[i]? = some a ∧ a.wr = true ∧ a.commit = t ∧ p ∈ a.writes ∧ a.done = true := by
  obtain ⟨a, h1, h2, h3, h4⟩ := h
  exact ⟨a, h1, wr_of h2 h3, h4, h3, h2⟩
/-- Fewer are live. -/
theorem J.live_sub (h : J M B L) (l : List (Int × Tx)) (hk : (l.map (·.1)).Nodup) (hl : ∀ n t, get l n = some t → get M.live n = some t) : J { M with live := l } B L :=
  ⟨h.len, h.num, h.sorted, h.vpos, h.lo, fun n t hn => h.live n t (hl n t hn), hk, h.reads, h.wr, h.inj, h.ver, h.fc⟩
theorem J.del (h : J M B L) (n : Int) : J { M with live := Go.Proofs.Ytnemaolbmocncaa.del M.live n } B L :=
  h.live_sub _ (del_keys h.keys n) fun k t hk => by
    rw [get_del h.keys] at hk
    split at hk
    · cases hk
    · exact hk
/-- One more begins. -/
theorem J.begin (h : J M B L) : J { M with count := M.count + 1, live := put M.live (M.count + 1) ⟨M.last, []⟩ } (G.put B (0, (M.count : Int) + 1) L.length) (L ++ [⟨M.last, 0, false, [], []⟩]) := by
  have hs : ∀ {i : Nat} {a : Pst}, (L ++ [⟨(M.last : Int), 0, false, [], []⟩])[i]? = some a → L[i]? = some a ∨ (i = L.length ∧ a = ⟨(M.last : Int), 0, false, [], []⟩) := fun {i a} hi => by
    by_cases e : i < L.length
    · rw [List.getElem?_append_left e] at hi; exact .inl hi
    · rw [List.getElem?_append_right (by omega)] at hi
      have := (List.getElem?_eq_some_iff.1 hi).1
      simp at this
      exact .inr ⟨by omega, by simpa using List.mem_of_getElem? hi⟩
  have up : ∀ {i : Nat} {a : Pst}, L[i]? = some a → (L ++ [⟨(M.last : Int), 0, false, [], []⟩])[i]? = some a := fun {i a} hi => by
    rw [List.getElem?_append_left (List.getElem?_eq_some_iff.1 hi).1]; exact hi
  have hb : ∀ {p t : Int} {j : Nat}, by_ (L ++ [⟨(M.last : Int), 0, false, [], []⟩]) p t j ↔ by_ L p t j := fun {p t j} => by
    constructor
    · rintro ⟨a, h1, h2, h3⟩
      rcases hs h1 with h1 | ⟨_, rfl⟩
      · exact ⟨a, h1, h2, h3⟩
      · cases h2
    · rintro ⟨a, h1, h2⟩
      exact ⟨a, up h1, h2⟩
  refine ⟨by rw [List.length_append, h.len]; rfl, fun k i => ?_, h.sorted, h.vpos, fun i a hi => ?_, fun n t hn => ?_, put_keys h.keys _ _, fun i a hi v hv => ?_, fun i a hi hw => ?_, fun i k a b hi hk ha hb2 e => ?_, fun p t => ?_, fun p t i k b h1 h2 h3 h4 h5 => ?_⟩
  · rw [G.get_put, List.length_append]
    split
    · rename_i e
      rw [e, h.len]
      constructor
      · intro e2
        obtain rfl := Option.some.inj e2
        exact ⟨rfl, by simp⟩
      · rintro ⟨e2, _⟩
        have := (Prod.ext_iff.1 e2).2
        simp at this
        congr 1; omega
    · rename_i e
      rw [h.num]
      refine and_congr_right fun e2 => ⟨fun h1 => by simp; omega, fun h1 => ?_⟩
      have h3 : i ≠ M.count := fun e3 => e (by rw [e2, e3])
      have := h.len
      simp at h1
      omega
  · rcases hs hi with hi | ⟨_, rfl⟩
    · exact h.lo i a hi
    · exact ⟨by show (0 : Int) ≤ (M.last : Int); omega, Int.le_refl _⟩
  · have hn : get (put M.live (M.count + 1) ⟨M.last, []⟩) n = some t := hn
    rw [get_put] at hn
    split at hn
    · rename_i e
      obtain rfl := Option.some.inj hn
      refine ⟨L.length, ⟨(M.last : Int), 0, false, [], []⟩, by rw [e, h.len], ?_, rfl, rfl, rfl⟩
      rw [List.getElem?_append_right (Nat.le_refl _)]; simp
    · obtain ⟨i, a, h1, h2, h3⟩ := h.live n t hn
      exact ⟨i, a, h1, up h2, h3⟩
  · rcases hs hi with hi | ⟨_, rfl⟩
    · have h1 := h.reads i a hi v hv
      exact ⟨h1.lo, h1.there.imp id fun ⟨j, hj⟩ => ⟨j, hb.2 hj⟩, fun t j hj => h1.top t j (hb.1 hj)⟩
    · cases hv
  · rcases hs hi with hi | ⟨_, rfl⟩
    · exact h.wr i a hi hw
    · cases hw
  · rcases hs hi with hi | ⟨_, rfl⟩
    · rcases hs hk with hk | ⟨_, rfl⟩
      · exact h.inj i k a b hi hk ha hb2 e
      · cases hb2
    · cases ha
  · rw [h.ver]
    exact ⟨fun ⟨j, hj⟩ => ⟨j, hb.2 hj⟩, fun ⟨j, hj⟩ => ⟨j, hb.1 hj⟩⟩
  · rcases hs h2 with h2 | ⟨_, rfl⟩
    · exact h.fc p t i k b (hb.1 h1) h2 h3 h4 h5
    · cases h3
theorem set_cases {i : Nat} {a' : Pst} {m : Nat} {z : Pst} (hz : (L.set i a')[m]? = some z) (hi : i < L.length) : (m = i ∧ z = a') ∨ (m ≠ i ∧ L[m]? = some z) := by
  by_cases e : i = m
  · subst e
    rw [List.getElem?_set_self hi] at hz
    exact .inl ⟨rfl, (Option.some.inj hz).symm⟩
  · rw [List.getElem?_set_ne e] at hz
    exact .inr ⟨fun e2 => e e2.symm, hz⟩
/-- One that is under way goes on: a read, or a write. -/
theorem J.goes (h : J M B L) {i : Nat} {a a' : Pst} (ha : L[i]? = some a) (hd : a.done = false) (hd' : a'.done = false) (hs : a'.start = a.start) {n : Int} (hn : n = (i : Int) + 1) {t' : Tx} (ht : a'.start = t'.start) (hw : a'.writes = t'.now.map (·.1))
    (hr : ∀ v ∈ a'.reads, RdOk L a.start v) {l : List (Int × Tx)} (hk : (l.map (·.1)).Nodup) (hl : ∀ k t, get l k = some t → (k = n ∧ t = t') ∨ (k ≠ n ∧ get M.live k = some t)) : J { M with live := l } B (L.set i a') := by
  have hi := (List.getElem?_eq_some_iff.1 ha).1
  have hb : ∀ {p t : Int} {j : Nat}, by_ (L.set i a') p t j ↔ by_ L p t j := fun {p t j} => by
    constructor
    · rintro ⟨z, h1, h2, h3⟩
      rcases set_cases h1 hi with ⟨_, rfl⟩ | ⟨_, h1⟩
      · rw [hd'] at h2; cases h2
      · exact ⟨z, h1, h2, h3⟩
    · rintro ⟨z, h1, h2, h3⟩
      refine ⟨z, ?_, h2, h3⟩
      rw [List.getElem?_set_ne]
      · exact h1
      · rintro rfl
        rw [ha] at h1
        obtain rfl := Option.some.inj h1
        rw [hd] at h2; cases h2
  have nw : a'.wr ≠ true := fun e => by have := wr_done e; rw [hd'] at this; cases this
  have hrd : ∀ {s : Int} {v : Int × Int}, RdOk L s v → RdOk (L.set i a') s v := fun {s v} h1 => ⟨h1.lo, h1.there.imp id fun ⟨j, hj⟩ => ⟨j, hb.2 hj⟩, fun t j hj => h1.top t j (hb.1 hj)⟩
  refine ⟨by rw [List.length_set]; exact h.len, fun k m => by rw [List.length_set]; exact h.num k m, h.sorted, h.vpos, fun m z hz => ?_, fun k t hk2 => ?_, hk, fun m z hz v hv => ?_, fun m z hz hwz => ?_, fun m k z y hz hy h1 h2 e => ?_, fun p t => ?_, fun p t m k y h1 h2 h3 h4 h5 => ?_⟩
  · rcases set_cases hz hi with ⟨_, rfl⟩ | ⟨_, hz⟩
    · rw [hs]; exact h.lo i a ha
    · exact h.lo m z hz
  · rcases hl k t hk2 with ⟨rfl, rfl⟩ | ⟨hne, hk3⟩
    · exact ⟨i, a', hn, List.getElem?_set_self hi, hd', ht, hw⟩
    · obtain ⟨m, z, h1, h2, h3⟩ := h.live k t hk3
      refine ⟨m, z, h1, ?_, h3⟩
      rw [List.getElem?_set_ne]
      · exact h2
      · rintro rfl
        exact hne (h1.trans hn.symm)
  · rcases set_cases hz hi with ⟨_, rfl⟩ | ⟨_, hz⟩
    · rw [hs]; exact hrd (hr v hv)
    · exact hrd (h.reads m z hz v hv)
  · rcases set_cases hz hi with ⟨_, rfl⟩ | ⟨_, hz⟩
    · exact absurd hwz nw
    · exact h.wr m z hz hwz
  · rcases set_cases hz hi with ⟨_, rfl⟩ | ⟨_, hz⟩
    · exact absurd h1 nw
    · rcases set_cases hy hi with ⟨_, rfl⟩ | ⟨_, hy⟩
      · exact absurd h2 nw
      · exact h.inj m k z y hz hy h1 h2 e
  · rw [h.ver]
    exact ⟨fun ⟨j, hj⟩ => ⟨j, hb.2 hj⟩, fun ⟨j, hj⟩ => ⟨j, hb.1 hj⟩⟩
  · rcases set_cases h2 hi with ⟨_, rfl⟩ | ⟨_, h2⟩
    · rw [hd'] at h3; cases h3
    · exact h.fc p t m k y (hb.1 h1) h2 h3 h4 h5
/-- One is done that wrote nothing. -/
theorem J.still (h : J M B L) {i : Nat} {a : Pst} (ha : L[i]? = some a) (hd : a.done = false) (hw : a.writes = []) (hno : get M.live ((i : Int) + 1) = none) : J M B (L.set i { a with done := true }) := by
  have hi := (List.getElem?_eq_some_iff.1 ha).1
  have hb : ∀ {p t : Int} {j : Nat}, by_ (L.set i { a with done := true }) p t j ↔ by_ L p t j := fun {p t j} => by
    constructor
    · rintro ⟨z, h1, h2, h3, h4⟩
      rcases set_cases h1 hi with ⟨_, rfl⟩ | ⟨_, h1⟩
      · have h3 : p ∈ a.writes := h3
        rw [hw] at h3; cases h3
      · exact ⟨z, h1, h2, h3, h4⟩
    · rintro ⟨z, h1, h2, h3⟩
      refine ⟨z, ?_, h2, h3⟩
      rw [List.getElem?_set_ne]
      · exact h1
      · rintro rfl
        rw [ha] at h1
        obtain rfl := Option.some.inj h1
        rw [hd] at h2; cases h2
  have nw : ({ a with done := true } : Pst).wr ≠ true := fun e => by unfold Pst.wr at e; simp [hw] at e
  have hrd : ∀ {s : Int} {v : Int × Int}, RdOk L s v → RdOk (L.set i { a with done := true }) s v := fun {s v} h1 => ⟨h1.lo, h1.there.imp id fun ⟨j, hj⟩ => ⟨j, hb.2 hj⟩, fun t j hj => h1.top t j (hb.1 hj)⟩
  refine ⟨by rw [List.length_set]; exact h.len, fun k m => by rw [List.length_set]; exact h.num k m, h.sorted, h.vpos, fun m z hz => ?_, fun k t hk2 => ?_, h.keys, fun m z hz v hv => ?_, fun m z hz hwz => ?_, fun m k z y hz hy h1 h2 e => ?_, fun p t => ?_, fun p t m k y h1 h2 h3 h4 h5 => ?_⟩
  · rcases set_cases hz hi with ⟨_, rfl⟩ | ⟨_, hz⟩
    · exact h.lo i a ha
    · exact h.lo m z hz
  · obtain ⟨m, z, h1, h2, h3⟩ := h.live k t hk2
    refine ⟨m, z, h1, ?_, h3⟩
    rw [List.getElem?_set_ne]
    · exact h2
    · rintro rfl
      rw [h1, hno] at hk2; cases hk2
  · rcases set_cases hz hi with ⟨_, rfl⟩ | ⟨_, hz⟩
    · exact hrd (h.reads i a ha v hv)
    · exact hrd (h.reads m z hz v hv)
  · rcases set_cases hz hi with ⟨_, rfl⟩ | ⟨_, hz⟩
    · exact absurd hwz nw
    · exact h.wr m z hz hwz
  · rcases set_cases hz hi with ⟨_, rfl⟩ | ⟨_, hz⟩
    · exact absurd h1 nw
    · rcases set_cases hy hi with ⟨_, rfl⟩ | ⟨_, hy⟩
      · exact absurd h2 nw
      · exact h.inj m k z y hz hy h1 h2 e
  · rw [h.ver]
    exact ⟨fun ⟨j, hj⟩ => ⟨j, hb.2 hj⟩, fun ⟨j, hj⟩ => ⟨j, hb.1 hj⟩⟩
  · rcases set_cases h2 hi with ⟨_, rfl⟩ | ⟨_, h2⟩
    · have h4 : p ∈ a.writes := h4
      rw [hw] at h4; cases h4
    · exact h.fc p t m k y (hb.1 h1) h2 h3 h4 h5
/-- One is done that wrote: first committer wins. -/
theorem J.commit (h : J M B L) {i : Nat} {a : Pst} (ha : L[i]? = some a) (hd : a.done = false) {T : Tx} (hs : a.start = T.start) (hw : a.writes = T.now.map (·.1)) (hne : T.now ≠ [])
    (hno : get M.live ((i : Int) + 1) = none) (hcf : ∀ p ∈ T.now, (at' M p.1 M.last).ts ≤ T.start) :
    J { M with last := M.last + 1, old := fun p => M.old p ++ (match get T.now p with | some b => [⟨M.last + 1, b⟩] | none => []) } B (L.set i { a with done := true, commit := (M.last : Int) + 1 }) := by
  have hi := (List.getElem?_eq_some_iff.1 ha).1
  have hlo := h.lo i a ha
  have hmem : ∀ {p : Int}, p ∈ a.writes ↔ get T.now p ≠ none := fun {p} => by rw [hw]; exact mem_keys
  have hne2 : ∃ p, p ∈ a.writes := by
    cases e : T.now with
    | nil => exact absurd e hne
    | cons x l => exact ⟨x.1, by rw [hw, e]; simp⟩
  have hb : ∀ {p t : Int} {j : Nat}, by_ (L.set i { a with done := true, commit := (M.last : Int) + 1 }) p t j ↔ by_ L p t j ∨ (j = i ∧ p ∈ a.writes ∧ t = (M.last : Int) + 1) := fun {p t j} => by
    constructor
    · rintro ⟨z, h1, h2, h3, h4⟩
      rcases set_cases h1 hi with ⟨e, rfl⟩ | ⟨_, h1⟩
      · exact .inr ⟨e, h3, h4.symm⟩
      · exact .inl ⟨z, h1, h2, h3, h4⟩
    · rintro (⟨z, h1, h2, h3⟩ | ⟨rfl, h2, rfl⟩)
      · refine ⟨z, ?_, h2, h3⟩
        rw [List.getElem?_set_ne]
        · exact h1
        · rintro rfl
          rw [ha] at h1
          obtain rfl := Option.some.inj h1
          rw [hd] at h2; cases h2
      · exact ⟨_, List.getElem?_set_self hi, rfl, h2, rfl⟩
  have hbl : ∀ {p t : Int} {j : Nat}, by_ L p t j → t ≤ M.last := fun {p t j} hj => by
    obtain ⟨z, h1, h2, h3, _⟩ := by_commit hj
    have := (h.wr j z h1 h2).2
    omega
  have hrd : ∀ {s : Int} {v : Int × Int}, s ≤ M.last → RdOk L s v → RdOk (L.set i { a with done := true, commit := (M.last : Int) + 1 }) s v := fun {s v} hs2 h1 =>
    ⟨h1.lo, h1.there.imp id fun ⟨j, hj⟩ => ⟨j, hb.2 (.inl hj)⟩, fun t j hj ht => by
      rcases hb.1 hj with hj | ⟨_, _, rfl⟩
      · exact h1.top t j hj ht
      · omega⟩
  refine ⟨by rw [List.length_set]; exact h.len, fun k m => by rw [List.length_set]; exact h.num k m, fun p => ?_, fun p v hv => ?_, fun m z hz => ?_, fun k t hk2 => ?_, h.keys, fun m z hz v hv => ?_, fun m z hz hw2 => ?_, fun m k z y hz hy h1 h2 e => ?_, fun p t => ?_, fun p t m k y h1 h2 h3 h4 h5 => ?_⟩
  · show (M.old p ++ _).Pairwise _
    rw [List.pairwise_append]
    refine ⟨h.sorted p, ?_, fun x hx y hy => ?_⟩
    · split
      · exact List.pairwise_singleton _ _
      · exact List.Pairwise.nil
    · split at hy
      · rw [List.mem_singleton.1 hy]
        have := (h.vpos p x hx).2
        show x.ts < M.last + 1; omega
      · cases hy
  · show 0 < v.ts ∧ v.ts ≤ M.last + 1
    rcases List.mem_append.1 hv with hv | hv
    · have := h.vpos p v hv; omega
    · split at hv
      · rw [List.mem_singleton.1 hv]
        show 0 < M.last + 1 ∧ M.last + 1 ≤ M.last + 1; omega
      · cases hv
  · show 0 ≤ z.start ∧ z.start ≤ ((M.last + 1 : Nat) : Int)
    rcases set_cases hz hi with ⟨_, rfl⟩ | ⟨_, hz⟩
    · show 0 ≤ a.start ∧ a.start ≤ ((M.last + 1 : Nat) : Int); omega
    · have := h.lo m z hz; omega
  · obtain ⟨m, z, h1, h2, h3⟩ := h.live k t hk2
    refine ⟨m, z, h1, ?_, h3⟩
    rw [List.getElem?_set_ne]
    · exact h2
    · rintro rfl
      have hk3 : get M.live k = some t := hk2
      rw [h1, hno] at hk3; cases hk3
  · rcases set_cases hz hi with ⟨_, rfl⟩ | ⟨_, hz⟩
    · exact hrd hlo.2 (h.reads i a ha v hv)
    · exact hrd (h.lo m z hz).2 (h.reads m z hz v hv)
  · show z.start < z.commit ∧ z.commit ≤ ((M.last + 1 : Nat) : Int)
    rcases set_cases hz hi with ⟨_, rfl⟩ | ⟨_, hz⟩
    · show a.start < (M.last : Int) + 1 ∧ (M.last : Int) + 1 ≤ ((M.last + 1 : Nat) : Int); omega
    · have := h.wr m z hz hw2; omega
  · rcases set_cases hz hi with ⟨e1, rfl⟩ | ⟨_, hz⟩
    · rcases set_cases hy hi with ⟨e2, rfl⟩ | ⟨_, hy⟩
      · exact e1.trans e2.symm
      · have := (h.wr k y hy h2).2
        have e : (M.last : Int) + 1 = y.commit := e
        omega
    · rcases set_cases hy hi with ⟨e2, rfl⟩ | ⟨_, hy⟩
      · have := (h.wr m z hz h1).2
        have e : z.commit = (M.last : Int) + 1 := e
        omega
      · exact h.inj m k z y hz hy h1 h2 e
  · constructor
    · rintro ⟨v, hv, rfl⟩
      rcases List.mem_append.1 hv with hv | hv
      · obtain ⟨j, hj⟩ := (h.ver p v.ts).1 ⟨v, hv, rfl⟩
        exact ⟨j, hb.2 (.inl hj)⟩
      · split at hv
        · rename_i b hg
          rw [List.mem_singleton.1 hv]
          exact ⟨i, hb.2 (.inr ⟨rfl, hmem.2 (fun e => by rw [hg] at e; cases e), rfl⟩)⟩
        · cases hv
    · rintro ⟨j, hj⟩
      rcases hb.1 hj with hj | ⟨_, hp, rfl⟩
      · obtain ⟨v, hv, e⟩ := (h.ver p t).2 ⟨j, hj⟩
        exact ⟨v, List.mem_append_left _ hv, e⟩
      · cases hg : get T.now p with
        | none => exact absurd hg (hmem.1 hp)
        | some b => exact ⟨⟨M.last + 1, b⟩, List.mem_append_right _ (by show _ ∈ (match get T.now p with | some b => [(⟨M.last + 1, b⟩ : Vr)] | none => []); rw [hg]; exact List.mem_singleton.2 rfl), rfl⟩
  · rcases set_cases h2 hi with ⟨_, rfl⟩ | ⟨_, h2⟩
    · have h4 : p ∈ a.writes := h4
      have h5 : t < (M.last : Int) + 1 := h5
      rcases hb.1 h1 with h1 | ⟨_, _, rfl⟩
      · rw [hw] at h4
        obtain ⟨x, hx, rfl⟩ := List.mem_map.1 h4
        have h6 := hcf x hx
        obtain ⟨v, hv, rfl⟩ := (h.ver x.1 t).2 ⟨m, h1⟩
        have h7 := (pick_spec M.last (M.old x.1) ⟨0, zb⟩ (Nat.zero_le _) (fun v hv => (h.vpos x.1 v hv).1) (h.sorted x.1)).2.2.2 v hv (h.vpos x.1 v hv).2
        show (v.ts : Int) ≤ a.start
        rw [hs]
        have h8 : v.ts ≤ (at' M x.1 M.last).ts := h7
        omega
      · omega
    · rcases hb.1 h1 with h1 | ⟨_, _, rfl⟩
      · exact h.fc p t m k y h1 h2 h3 h4 h5
      · have := (h.wr k y h2 (wr_of h3 h4)).2
        omega
/-- What the machine reads is the newest at the start. -/
theorem J.rdok (h : J M B L) (p : Int) {s : Nat} (hs : s ≤ M.last) : RdOk L s (p, ((at' M p s).ts : Int)) := by
  obtain ⟨h1, h2, _, h4⟩ := pick_spec s (M.old p) ⟨0, zb⟩ (Nat.zero_le _) (fun v hv => (h.vpos p v hv).1) (h.sorted p)
  refine ⟨⟨by show (0 : Int) ≤ ((pick (M.old p) s ⟨0, zb⟩).ts : Int); omega, by show ((pick (M.old p) s ⟨0, zb⟩).ts : Int) ≤ (s : Int); omega⟩, ?_, fun t j hj ht => ?_⟩
  · rcases h2 with h2 | ⟨v, hv, h2⟩
    · exact .inl (by show ((pick (M.old p) s ⟨0, zb⟩).ts : Int) = 0; rw [h2]; rfl)
    · exact .inr ((h.ver p _).1 ⟨v, hv, by show (v.ts : Int) = ((pick (M.old p) s ⟨0, zb⟩).ts : Int); rw [h2]⟩)
  · obtain ⟨v, hv, rfl⟩ := (h.ver p t).2 ⟨j, hj⟩
    have := h4 v hv (by omega)
    show (v.ts : Int) ≤ ((pick (M.old p) s ⟨0, zb⟩).ts : Int)
    omega
end
end Go.Proofs.Ytnemaolbmocncaa.P
