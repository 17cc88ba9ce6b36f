/- The plain theory of Of: of what was told, the transactions. -/
import Derived.Test.YtnemaolbmocncaaHP
namespace Go.Proofs.Ytnemaolbmocncaa.P
open Go.Proofs.Ytnemaolbmocncaa
/-- What was told of a call. -/
structure Td where
  kind : Int
  txn : Int
  page : Int
  life : Int
  opn : Bool
  err : Int
  rtxn : Int
  rts : Int
def Td.cnt (t : Td) : Bool := !t.opn && (t.err == 0)
theorem app2 {α : Type} {a b c d : List α} (h1 : a = b) (h2 : c = d) : a ++ c = b ++ d := by rw [h1, h2]
def upd (a : Pst) (t : Td) : Pst :=
  if t.kind = 1 then (if t.page ∈ a.writes then a else { a with reads := a.reads ++ [(t.page, t.rts)] })
  else if t.kind = 2 then (if t.page ∈ a.writes then a else { a with writes := a.writes ++ [t.page] })
  else if t.kind = 3 then { a with done := true, commit := if 0 < a.writes.length then t.rts else a.commit }
  else a
def beg (t : Td) : Pst := ⟨t.rts, 0, false, [], []⟩
/-- The code's way: who has which number, and the transactions. -/
def ofS (s : List ((Int × Int) × Nat) × List Pst) (t : Td) : List ((Int × Int) × Nat) × List Pst :=
  if t.cnt = true then
    if t.kind = 0 then (G.put s.1 (t.life, t.rtxn) s.2.length, s.2 ++ [beg t])
    else match G.get s.1 (t.life, t.txn) with
      | none => s
      | some i => (s.1, s.2.modify i fun a => upd a t)
  else s
def hof (T : List Td) : List Pst := (T.foldl ofS ([], [])).2
/-- The document's way: of one beginning, what was told behind it. -/
def ral (b : Td) (s : Pst × Bool) (t : Td) : Pst × Bool :=
  if s.2 = true then s
  else if t.cnt = true ∧ t.life = b.life then
    if t.kind = 0 ∧ t.rtxn = b.rtxn then (s.1, true)
    else if t.kind = 0 ∨ t.txn ≠ b.rtxn then s
    else (upd s.1 t, false)
  else s
def rgo (b : Td) (T : List Td) : Pst := (T.foldl (ral b) (beg b, false)).1
def rof : List Td → List Pst
  | [] => []
  | b :: ts => if b.cnt = true ∧ b.kind = 0 then rgo b ts :: rof ts else rof ts
def nw (t : Td) : List (Td × Pst × Bool) := if t.cnt = true ∧ t.kind = 0 then [(t, beg t, false)] else []
def st2 (E : List (Td × Pst × Bool)) (t : Td) : List (Td × Pst × Bool) := E.map (fun e => (e.1, ral e.1 e.2 t)) ++ nw t
theorem st2_all (T : List Td) : ∀ E : List (Td × Pst × Bool), (T.foldl st2 E).map (·.2.1) = E.map (fun e => (T.foldl (ral e.1) e.2).1) ++ rof T := by
  induction T with
  | nil => intro E; simp [rof]
  | cons t T ih =>
    intro E
    rw [List.foldl_cons, ih, st2, List.map_append, List.map_map, List.append_assoc]
    refine app2 rfl ?_
    rw [show rof (t :: T) = if t.cnt = true ∧ t.kind = 0 then rgo t T :: rof T else rof T from rfl]
    unfold nw
    by_cases h : t.cnt = true ∧ t.kind = 0
    · rw [if_pos h, if_pos h]; rfl
    · rw [if_neg h, if_neg h]; rfl
theorem ral_end {b : Td} {a : Pst} (t : Td) : ral b (a, true) t = (a, true) := by unfold ral; exact if_pos rfl
theorem ral_off {b t : Td} {s : Pst × Bool} (h : ¬ (t.cnt = true ∧ t.life = b.life)) : ral b s t = s := by
  unfold ral
  split
  · rfl
  · first
    | rfl
    | rw [if_neg h]
theorem ral_ends {b t : Td} {a : Pst} (h1 : t.cnt = true) (h2 : t.life = b.life) (h3 : t.kind = 0) (h4 : t.rtxn = b.rtxn) : ral b (a, false) t = (a, true) := by
  unfold ral
  simp [h1, h2, h3, h4]
theorem ral_beg {b t : Td} {s : Pst × Bool} (h3 : t.kind = 0) (h4 : t.rtxn ≠ b.rtxn) : ral b s t = s := by
  unfold ral
  split
  · rfl
  · split
    · rw [if_neg (fun h => h4 h.2), if_pos (.inl h3)]
    · rfl
theorem ral_other {b t : Td} {s : Pst × Bool} (h3 : t.kind ≠ 0) (h4 : t.txn ≠ b.rtxn) : ral b s t = s := by
  unfold ral
  split
  · rfl
  · split
    · rw [if_neg (fun h => h3 h.1), if_pos (.inr h4)]
    · rfl
theorem ral_upd {b t : Td} {a : Pst} (h1 : t.cnt = true) (h2 : t.life = b.life) (h3 : t.kind ≠ 0) (h4 : t.txn = b.rtxn) : ral b (a, false) t = (upd a t, false) := by
  unfold ral
  simp [h1, h2, h3, h4]
def Td.key (t : Td) : Int × Int := (t.life, t.rtxn)
/-- Both ways keep step. -/
structure Stp (s : List ((Int × Int) × Nat) × List Pst) (E : List (Td × Pst × Bool)) : Prop where
  out : s.2 = E.map (·.2.1)
  at_ : ∀ (k : Int × Int) (i : Nat), G.get s.1 k = some i ↔ ∃ e, E[i]? = some e ∧ e.2.2 = false ∧ e.1.key = k
theorem Stp.start : Stp ([], []) [] := ⟨rfl, fun k i => ⟨fun h => (by cases h), fun ⟨e, h, _⟩ => by simp at h⟩⟩
theorem Stp.step {s : List ((Int × Int) × Nat) × List Pst} {E : List (Td × Pst × Bool)} (h : Stp s E) (t : Td) : Stp (ofS s t) (st2 E t) := by
  by_cases hc : t.cnt = true
  · by_cases hk : t.kind = 0
    · have e1 : ofS s t = (G.put s.1 (t.life, t.rtxn) s.2.length, s.2 ++ [beg t]) := by unfold ofS; rw [if_pos hc, if_pos hk]
      have e2 : nw t = [(t, beg t, false)] := by unfold nw; rw [if_pos ⟨hc, hk⟩]
      have hp : ∀ e : Td × Pst × Bool, (ral e.1 e.2 t).1 = e.2.1 ∧ ((ral e.1 e.2 t).2 = false ↔ e.2.2 = false ∧ e.1.key ≠ t.key) := fun ⟨b, a, f⟩ => by
        cases f with
        | true => rw [ral_end]; simp
        | false =>
          by_cases e : b.key = t.key
          · have e3 : t.life = b.life := (congrArg Prod.fst e).symm
            have e4 : t.rtxn = b.rtxn := (congrArg Prod.snd e).symm
            rw [ral_ends hc e3 hk e4]; simp [e]
          · by_cases e3 : t.life = b.life
            · have e4 : t.rtxn ≠ b.rtxn := fun e4 => e (Prod.ext e3.symm e4.symm)
              rw [ral_beg hk e4]; simp [e]
            · rw [ral_off fun h => e3 h.2]; simp [e]
      have hl : s.2.length = E.length := by rw [h.out, List.length_map]
      refine ⟨?_, fun k i => ?_⟩
      · rw [e1, st2, e2, List.map_append, List.map_map, h.out]
        refine app2 (List.map_congr_left fun e _ => (hp e).1.symm) rfl
      · rw [e1]
        show G.get (G.put s.1 (t.life, t.rtxn) s.2.length) k = some i ↔ _
        rw [G.get_put, st2, e2, hl]
        split
        · rename_i hkk
          constructor
          · intro h1
            obtain rfl := Option.some.inj h1
            refine ⟨(t, beg t, false), ?_, rfl, hkk.symm⟩
            rw [List.getElem?_append_right (by simp)]; simp
          · rintro ⟨e, h1, h2, h3⟩
            by_cases hi : i < E.length
            · rw [List.getElem?_append_left (by simpa using hi), List.getElem?_map] at h1
              obtain ⟨e0, h4, rfl⟩ := Option.map_eq_some_iff.1 h1
              exact absurd (h3.trans hkk) ((hp e0).2.1 h2).2
            · rw [List.getElem?_append_right (by simp; omega)] at h1
              have := (List.getElem?_eq_some_iff.1 h1).1
              simp at this
              congr 1; omega
        · rename_i hkk
          rw [h.at_ k i]
          constructor
          · rintro ⟨e, h1, h2, h3⟩
            refine ⟨(e.1, ral e.1 e.2 t), ?_, (hp e).2.2 ⟨h2, fun e4 => hkk (h3.symm.trans e4)⟩, h3⟩
            rw [List.getElem?_append_left (by simpa using (List.getElem?_eq_some_iff.1 h1).1), List.getElem?_map, h1]; rfl
          · rintro ⟨e, h1, h2, h3⟩
            by_cases hi : i < E.length
            · rw [List.getElem?_append_left (by simpa using hi), List.getElem?_map] at h1
              obtain ⟨e0, h4, rfl⟩ := Option.map_eq_some_iff.1 h1
              exact ⟨e0, h4, ((hp e0).2.1 h2).1, h3⟩
            · rw [List.getElem?_append_right (by simp; omega)] at h1
              have h5 := List.mem_of_getElem? h1
              rw [List.mem_singleton] at h5
              rw [h5] at h3
              exact absurd h3.symm hkk
    · have e2 : nw t = [] := by unfold nw; rw [if_neg fun h => hk h.2]
      have hp : ∀ e : Td × Pst × Bool, ral e.1 e.2 t = if e.2.2 = false ∧ e.1.key = (t.life, t.txn) then (upd e.2.1 t, false) else e.2 := fun ⟨b, a, f⟩ => by
        cases f with
        | true => rw [ral_end, if_neg (by simp)]
        | false =>
          by_cases e3 : t.life = b.life
          · by_cases e4 : t.txn = b.rtxn
            · rw [ral_upd hc e3 hk e4, if_pos ⟨rfl, Prod.ext e3.symm e4.symm⟩]
            · rw [ral_other hk e4, if_neg fun h => e4 (congrArg Prod.snd h.2).symm]
          · rw [ral_off fun h => e3 h.2, if_neg fun h => e3 (congrArg Prod.fst h.2).symm]
      have hg : ∀ e : Td × Pst × Bool, (ral e.1 e.2 t).2 = e.2.2 := fun e => by
        rw [hp e]
        split
        · rename_i h1; exact h1.1.symm
        · rfl
      have hat : ∀ (k : Int × Int) (i : Nat), G.get s.1 k = some i ↔ ∃ e, (st2 E t)[i]? = some e ∧ e.2.2 = false ∧ e.1.key = k := fun k i => by
        rw [h.at_ k i, st2, e2, List.append_nil]
        constructor
        · rintro ⟨e, h1, h2, h3⟩
          exact ⟨(e.1, ral e.1 e.2 t), by rw [List.getElem?_map, h1]; rfl, (hg e).trans h2, h3⟩
        · rintro ⟨e, h1, h2, h3⟩
          rw [List.getElem?_map] at h1
          obtain ⟨e0, h4, rfl⟩ := Option.map_eq_some_iff.1 h1
          exact ⟨e0, h4, (hg e0).symm.trans h2, h3⟩
      cases hget : G.get s.1 (t.life, t.txn) with
      | none =>
        have e1 : ofS s t = s := by unfold ofS; rw [if_pos hc, if_neg hk, hget]
        rw [e1]
        refine ⟨?_, hat⟩
        rw [h.out, st2, e2, List.append_nil, List.map_map]
        refine List.map_congr_left fun e he => ?_
        show e.2.1 = (ral e.1 e.2 t).1
        rw [hp e, if_neg]
        rintro ⟨h1, h2⟩
        obtain ⟨i, hi⟩ := List.mem_iff_getElem?.1 he
        have := (h.at_ (t.life, t.txn) i).2 ⟨e, hi, h1, h2⟩
        rw [hget] at this; cases this
      | some i =>
        have e1 : ofS s t = (s.1, s.2.modify i fun a => upd a t) := by unfold ofS; rw [if_pos hc, if_neg hk, hget]
        rw [e1]
        refine ⟨?_, hat⟩
        show s.2.modify i _ = _
        obtain ⟨e0, h1, h2, h3⟩ := (h.at_ _ _).1 hget
        rw [h.out, st2, e2, List.append_nil, List.map_map]
        refine List.ext_getElem? fun j => ?_
        rw [List.getElem?_modify, List.getElem?_map, List.getElem?_map]
        cases hj : E[j]? with
        | none => simp
        | some e =>
          show Option.map _ (some e.2.1) = some (ral e.1 e.2 t).1
          rw [hp e]
          by_cases hij : i = j
          · subst hij
            rw [h1] at hj
            obtain rfl := Option.some.inj hj
            rw [if_pos ⟨h2, h3⟩]; simp
          · rw [if_neg]
            · simp [hij]
            · rintro ⟨h4, h5⟩
              have := (h.at_ _ j).2 ⟨e, hj, h4, h5⟩
              rw [hget] at this
              exact hij (Option.some.inj this)
  · have e1 : ofS s t = s := by unfold ofS; rw [if_neg hc]
    have e2 : nw t = [] := by unfold nw; rw [if_neg fun h => hc h.1]
    have e3 : st2 E t = E := by
      unfold st2
      rw [e2, List.append_nil]
      conv => rhs; rw [← List.map_id E]
      exact List.map_congr_left fun e _ => by rw [ral_off fun h => hc h.1]; rfl
    rw [e1, e3]; exact h
theorem Stp.all {s : List ((Int × Int) × Nat) × List Pst} {E : List (Td × Pst × Bool)} (h : Stp s E) (T : List Td) : Stp (T.foldl ofS s) (T.foldl st2 E) := by
  induction T generalizing s E with
  | nil => exact h
  | cons t T ih => exact ih (h.step t)
theorem hof_rof (T : List Td) : hof T = rof T := by
  unfold hof
  rw [(Stp.start.all T).out, st2_all]
  rfl
end Go.Proofs.Ytnemaolbmocncaa.P
