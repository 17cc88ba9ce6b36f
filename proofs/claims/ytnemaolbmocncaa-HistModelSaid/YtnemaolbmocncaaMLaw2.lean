/- The plain law of the machine's histories: each call, and what the history shows at the end. -/
import Derived.Test.YtnemaolbmocncaaMLaw
import Derived.Test.YtnemaolbmocncaaOfA
namespace Go.Proofs.Ytnemaolbmocncaa.P
open Go.Proofs.Ytnemaolbmocncaa
section
variable {M : Md} {B : List ((Int × Int) × Nat)} {L : List Pst} {c : Cl}
theorem modify_set {L : List Pst} {i : Nat} {a : Pst} (ha : L[i]? = some a) (f : Pst → Pst) : L.modify i f = L.set i (f a) := by
  refine List.ext_getElem? fun j => ?_
  rw [List.getElem?_modify, List.getElem?_set]
  have hi := (List.getElem?_eq_some_iff.1 ha).1
  by_cases e : i = j
  · subst e
    rw [ha]; simp [hi]
  · simp [e]
theorem set_same {L : List Pst} {i : Nat} {a : Pst} (ha : L[i]? = some a) : L.set i a = L := by
  refine List.ext_getElem? fun j => ?_
  rw [List.getElem?_set]
  by_cases e : i = j
  · subst e
    rw [if_pos rfl, if_pos (List.getElem?_eq_some_iff.1 ha).1, ha]
  · rw [if_neg e]
/-- A call that does not count. -/
theorem of_err {r : Rp} (h : r.e ≠ 0) (s : List ((Int × Int) × Nat) × List Pst) : ofS s (tdOf c r) = s := by
  unfold ofS
  rw [if_neg]
  unfold Td.cnt tdOf
  simp [h]
/-- A call that changes no transaction. -/
theorem of_no {r : Rp} (h0 : c.kind ≠ 0) (h1 : c.kind ≠ 1) (h2 : c.kind ≠ 2) (h3 : c.kind ≠ 3) (s : List ((Int × Int) × Nat) × List Pst) : ofS s (tdOf c r) = s := by
  unfold ofS
  split
  · rw [if_neg (show (tdOf c r).kind ≠ 0 from h0)]
    split
    · rfl
    · have : (fun a => upd a (tdOf c r)) = id := by
        funext a
        exact upd_no (t := tdOf c r) h1 h2 h3
      rw [this, List.modify_id]
  · rfl
/-- A call of one that is there. -/
theorem of_one (h : J M B L) {r : Rp} (he : r.e = 0) (h0 : c.kind ≠ 0) {i : Nat} {a : Pst} (hn : c.txn = (i : Int) + 1) (ha : L[i]? = some a) : ofS (B, L) (tdOf c r) = (B, L.set i (upd a (tdOf c r))) := by
  have hg : G.get B ((tdOf c r).life, (tdOf c r).txn) = some i := (h.num _ i).2 ⟨by show ((0 : Int), c.txn) = _; rw [hn], (List.getElem?_eq_some_iff.1 ha).1⟩
  unfold ofS
  rw [if_pos (by unfold Td.cnt tdOf; simp [he]), if_neg (show (tdOf c r).kind ≠ 0 from h0), hg]
  show (B, L.modify i _) = _
  rw [modify_set ha]
theorem J.com (h : J M B L) (hk : c.kind = 3) {T : Tx} (hT : get M.live c.txn = some T) :
    J (P.com { M with live := Go.Proofs.Ytnemaolbmocncaa.del M.live c.txn } T).1 (ofS (B, L) (tdOf c (P.com { M with live := Go.Proofs.Ytnemaolbmocncaa.del M.live c.txn } T).2)).1 (ofS (B, L) (tdOf c (P.com { M with live := Go.Proofs.Ytnemaolbmocncaa.del M.live c.txn } T).2)).2 := by
  have hd := h.del c.txn
  obtain ⟨i, a, hn, ha, had, has, haw⟩ := h.live c.txn T hT
  have hno : get (Go.Proofs.Ytnemaolbmocncaa.del M.live c.txn) ((i : Int) + 1) = none := by rw [get_del h.keys, if_pos hn.symm]
  unfold P.com
  split
  · rename_i hnow
    rw [of_one h rfl (by omega) hn ha, upd_cm hk]
    have hw : a.writes = [] := by rw [haw, hnow]; rfl
    have e : ({ a with done := true, commit := if 0 < a.writes.length then (tdOf c (P.ok T.start zb)).rts else a.commit } : Pst) = { a with done := true } := by rw [hw]; rfl
    rw [e]
    exact hd.still ha had hw hno
  · rename_i hnow
    split
    · rw [of_err (by show (8 : Int) ≠ 0; decide)]
      exact hd
    · split
      · rw [of_err (by show (7 : Int) ≠ 0; decide)]
        exact hd
      · rename_i hc
        rw [of_one h rfl (by omega) hn ha, upd_cm hk]
        have hw : 0 < a.writes.length := by
          rw [haw, List.length_map]
          exact List.length_pos_iff.2 hnow
        rw [if_pos hw]
        have hcf : ∀ p ∈ T.now, (at' M p.1 M.last).ts ≤ T.start := fun p hp => by
          refine Classical.byContradiction fun h9 => hc ?_
          rw [List.any_eq_true]
          exact ⟨p, hp, decide_eq_true (by show T.start < (at' M p.1 M.last).ts; omega)⟩
        exact hd.commit ha had has haw hnow hno hcf
theorem J.of (h : J M B L) (hst : ∀ x ∈ M.live, x.2.start ≤ M.last) (hkk : c.kind = 1 ∨ c.kind = 2 ∨ c.kind = 3 ∨ c.kind = 4) : J (P.of M c).1 (ofS (B, L) (tdOf c (P.of M c).2)).1 (ofS (B, L) (tdOf c (P.of M c).2)).2 := by
  unfold P.of
  split
  · rw [of_err (by show (1 : Int) ≠ 0; decide)]; exact h
  · split
    · rw [of_err (by show (9 : Int) ≠ 0; decide)]; exact h
    · rename_i T hT
      obtain ⟨i, a, hn, ha, had, has, haw⟩ := h.live c.txn T hT
      have hTs := hst _ (get_mem hT)
      have hmem : ∀ {p : Int}, p ∈ a.writes ↔ get T.now p ≠ none := fun {p} => by rw [haw]; exact mem_keys
      have wrC : ∀ b : Bd, c.kind = 2 → J (P.wr M c T b).1 (ofS (B, L) (tdOf c (P.wr M c T b).2)).1 (ofS (B, L) (tdOf c (P.wr M c T b).2)).2 := fun b h2 => by
        rw [of_one h rfl (by omega) hn ha]
        have hl : ∀ {t' : Tx} (k : Int) (t : Tx), get (put M.live c.txn t') k = some t → (k = c.txn ∧ t = t') ∨ (k ≠ c.txn ∧ get M.live k = some t) := fun {t'} k t hk => by
          rw [get_put] at hk
          split at hk
          · rename_i e
            exact .inl ⟨e, (Option.some.inj hk).symm⟩
          · rename_i e
            exact .inr ⟨e, hk⟩
        by_cases hp : c.page ∈ a.writes
        · rw [upd_wt' h2 hp]
          cases hg : get T.now c.page with
          | none => exact absurd hg (hmem.1 hp)
          | some v => exact h.goes ha had had rfl hn (t' := { T with now := put T.now c.page (cpy b c.off.toNat c.s) }) has (by show a.writes = (put T.now c.page _).map (·.1); rw [put_old hg, haw]) (fun v hv => h.reads i a ha v hv) (put_keys h.keys _ _) hl
        · rw [upd_wt h2 hp]
          have hg : get T.now c.page = none := Classical.byContradiction fun e => hp (hmem.2 e)
          exact h.goes ha had (a' := { a with writes := a.writes ++ [(tdOf c (P.wr M c T b).2).page] }) had rfl hn (t' := { T with now := put T.now c.page (cpy b c.off.toNat c.s) }) has (by show a.writes ++ [c.page] = (put T.now c.page _).map (·.1); rw [put_new hg, List.map_append, haw]; rfl) (fun v hv => h.reads i a ha v hv) (put_keys h.keys _ _) hl
      have same : J M B (L.set i a) := by rw [set_same ha]; exact h
      split
      · rename_i h1
        split
        · rename_i b hg
          rw [of_one h rfl (by omega) hn ha, upd_rd' h1 (hmem.2 (fun e => by rw [show (tdOf c (P.ok T.start b)).page = c.page from rfl, hg] at e; cases e))]
          exact same
        · rename_i hg
          rw [of_one h rfl (by omega) hn ha, upd_rd h1 (fun e => hmem.1 e hg)]
          have h9 := h.goes ha had (a' := { a with reads := a.reads ++ [(c.page, ((at' M c.page T.start).ts : Int))] }) had rfl hn has haw (fun v hv => by
            rcases List.mem_append.1 hv with hv | hv
            · exact h.reads i a ha v hv
            · rw [List.mem_singleton.1 hv, has]
              exact h.rdok c.page hTs) h.keys (fun k t hk => by
            by_cases e : k = c.txn
            · rw [e, hT] at hk
              exact .inl ⟨e, (Option.some.inj hk).symm⟩
            · exact .inr ⟨e, hk⟩)
          exact h9
      · rename_i h1
        split
        · rename_i h2
          split
          · exact wrC _ h2
          · split
            · rw [of_err (by show (10 : Int) ≠ 0; decide)]; exact h
            · exact wrC _ h2
        · rename_i h2
          split
          · rename_i h4
            rw [of_no (by omega) h1 h2 (by omega)]
            exact h.del c.txn
          · rename_i h4
            exact h.com (by omega) hT
theorem J.step (h : J M B L) (hst : ∀ x ∈ M.live, x.2.start ≤ M.last) (c : Cl) : J (P.step M c).1 (ofS (B, L) (tdOf c (P.step M c).2)).1 (ofS (B, L) (tdOf c (P.step M c).2)).2 := by
  unfold P.step
  split
  · rw [of_err (by show (12 : Int) ≠ 0; decide)]; exact h
  · split
    · rename_i h0
      split
      · rw [of_err (by show (10 : Int) ≠ 0; decide)]; exact h
      · have e : ofS (B, L) (tdOf c ⟨0, (M.count : Int) + 1, M.last, zb⟩) = (G.put B (0, (M.count : Int) + 1) L.length, L ++ [⟨M.last, 0, false, [], []⟩]) := by
          unfold ofS
          rw [if_pos (by unfold Td.cnt tdOf; rfl), if_pos (show (tdOf c ⟨0, (M.count : Int) + 1, M.last, zb⟩).kind = 0 from h0)]
          rfl
        rw [e]
        exact h.begin
    · rename_i h0
      split
      · rename_i hk
        exact h.of hst hk
      · rename_i hk
        have h1 : c.kind ≠ 1 ∧ c.kind ≠ 2 ∧ c.kind ≠ 3 := ⟨fun e => hk (.inl e), fun e => hk (.inr (.inl e)), fun e => hk (.inr (.inr (.inl e)))⟩
        split
        · rw [of_no h0 h1.1 h1.2.1 h1.2.2]; exact h
        · split
          · rw [of_no h0 h1.1 h1.2.1 h1.2.2]
            exact ⟨h.len, h.num, h.sorted, h.vpos, h.lo, h.live, h.keys, h.reads, h.wr, h.inj, h.ver, h.fc⟩
          · rw [of_err (by show (1 : Int) ≠ 0; decide)]; exact h
end
/-! ### What is shown -/
section
variable {M : Md} {B : List ((Int × Int) × Nat)} {L : List Pst}
theorem J.dep_sta (h : J M B L) {i k : Nat} (hd : dep L i k) : sta L i k := by
  obtain ⟨a, b, a1, a2, b1, b2⟩ := dep_live hd
  refine ⟨hd.1, a, b, a1, b1, a2, b2, ?_⟩
  rcases hd.2 with ⟨p, t, h1, t', h2, h3, _⟩ | ⟨v, h1, h2⟩
  · obtain ⟨z, z1, z2, z3, _, _⟩ := by_commit h1
    rw [a1] at z1
    obtain rfl := Option.some.inj z1
    obtain ⟨y, y1, _, y3, y4, y5⟩ := by_commit h2
    rw [b1] at y1
    obtain rfl := Option.some.inj y1
    have := h.fc p t i k b h1 b1 b2 y4 (by omega)
    unfold Pst.en
    rw [if_pos z2]; omega
  · obtain ⟨z, z1, z2, z3, _, _⟩ := by_commit h2
    rw [a1] at z1
    obtain rfl := Option.some.inj z1
    obtain ⟨y, y1, _, y3⟩ := h1
    rw [b1] at y1
    obtain rfl := Option.some.inj y1
    have := (h.reads k b b1 v y3).lo.2
    unfold Pst.en
    rw [if_pos z2]; omega
theorem J.en_ge (h : J M B L) {i : Nat} {a : Pst} (ha : L[i]? = some a) : a.start ≤ a.en := by
  unfold Pst.en
  split
  · rename_i hw
    have := (h.wr i a ha hw).1; omega
  · exact Int.le_refl _
theorem J.path (h : J M B L) {i k : Nat} (p : Path (fun x y => sta L x y ∨ dep L x y) i k) : ∃ a b, L[i]? = some a ∧ L[k]? = some b ∧ a.en ≤ b.start := by
  have one : ∀ {x y : Nat}, (sta L x y ∨ dep L x y) → ∃ a b, L[x]? = some a ∧ L[y]? = some b ∧ a.en ≤ b.start := fun {x y} e => by
    obtain ⟨_, a, b, h1, h2, _, _, h3⟩ := e.elim id h.dep_sta
    exact ⟨a, b, h1, h2, h3⟩
  induction p with
  | one e => exact one e
  | more _ e ih =>
    obtain ⟨a, b, h1, h2, h3⟩ := ih
    obtain ⟨b', d, h4, h5, h6⟩ := one e
    rw [h2] at h4
    obtain rfl := Option.some.inj h4
    have := h.en_ge h2
    exact ⟨a, d, h1, h5, by omega⟩
theorem dep_first {i k : Nat} (p : Path (dep L) i k) : ∃ j, dep L i j := by
  induction p with
  | one e => exact ⟨_, e⟩
  | more _ _ ih => exact ih
theorem J.shows (h : J M B L) : chk L = (0, 0) := by
  have hbad : ¬ bad L := fun hb => by
    obtain ⟨i, a, h1, h2, h3 | ⟨j, b, h3, h4, h5, h6⟩⟩ := bad_iff.1 hb
    · have := (h.wr i a h1 h2).1; omega
    · exact h3 (h.inj j i b a h4 h1 h5 h2 h6.symm)
  have habo : ¬ abo L := fun ⟨i, v, ⟨a, h1, _, h3⟩, h4, h5⟩ => by
    rcases (h.reads i a h1 v h3).there with e | e
    · omega
    · exact h4 e
  have hcir : ¬ cir L := fun ⟨i, p⟩ => by
    obtain ⟨a, b, h1, h2, h3⟩ := h.path (p.mono fun _ _ e => .inr e)
    rw [h1] at h2
    obtain rfl := Option.some.inj h2
    obtain ⟨j, hd⟩ := dep_first p
    have hw : a.wr = true := by
      rcases hd.2 with ⟨p, t, h4, _⟩ | ⟨v, _, h4⟩
      · obtain ⟨z, z1, z2, _⟩ := by_commit h4
        rw [h1] at z1
        obtain rfl := Option.some.inj z1
        exact z2
      · obtain ⟨z, z1, z2, _⟩ := by_commit h4
        rw [h1] at z1
        obtain rfl := Option.some.inj z1
        exact z2
    have := (h.wr i a h1 hw).1
    unfold Pst.en at h3
    rw [if_pos hw] at h3
    omega
  have hitf : ¬ itf L := fun ⟨i, k, h1, h2⟩ => h2 (h.dep_sta h1)
  have hmis : ¬ mis L := fun ⟨i, k, ⟨_, v, ⟨a, a1, _, a3⟩, _, t', h2, h3, _⟩, p⟩ => by
    obtain ⟨b, a', b1, b2, b3⟩ := h.path p
    rw [a1] at b2
    obtain rfl := Option.some.inj b2
    obtain ⟨z, z1, z2, z3, _⟩ := by_commit h2
    rw [b1] at z1
    obtain rfl := Option.some.inj z1
    unfold Pst.en at b3
    rw [if_pos z2] at b3
    have := (h.reads i a a1 v a3).top t' k h2 (by omega)
    omega
  exact chk_ok hbad (a := false) (b := false) (c := false) (d := false) ⟨fun e => (by cases e), fun e => absurd e habo⟩ ⟨fun e => (by cases e), fun e => absurd e hcir⟩ ⟨fun e => (by cases e), fun e => absurd e hitf⟩ ⟨fun e => (by cases e), fun e => absurd e hmis⟩
end
end Go.Proofs.Ytnemaolbmocncaa.P
