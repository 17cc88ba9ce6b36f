/- The document's machine: one step more; what is counted. -/
import Derived.Test.YtjaecdcddmohoaaRefP
namespace Go.Proofs.Ytjaecdcddmohoaa.P
open Go.Proofs.Ytjaecdcddmohoaa
theorem sim_step {M : Md} {m : Nat} {log : List De} (h : Sim M m log) {c : Cl} (hp : 0 ≤ c.page) : Sim (step M c).1 (m + 1) (log ++ [(c, (step M c).2)]) := by
  have hk9 : ∀ (e : Int), e ≠ 0 → (c.kind = 0 ∨ c.kind = 1 ∨ c.kind = 2 ∨ e = 9 ∨ 4 < c.kind ∨ c.kind < 0 ∨ M.shut = true) → Sim M (m + 1) (log ++ [(c, err e)]) := fun e he hh =>
    sim_inert h (fun a => he a.2) (fun a => he a.2) (fun a => he a.2) (fun a => he a.2) (fun hs a => by
      show e = 9
      have a' : c.kind = 3 ∨ c.kind = 4 := a
      rcases hh with x | x | x | x | x | x | x
      · omega
      · omega
      · omega
      · exact x
      · omega
      · omega
      · rw [hs] at x; cases x)
  unfold step
  split
  · rename_i hs
    exact hk9 12 (by decide) (by simp [hs])
  · rename_i hs
    split
    · rename_i hk
      split
      · exact hk9 10 (by decide) (.inl hk)
      · rename_i h8
        have ok' := ok_step h.ok c
        unfold step at ok'
        rw [if_neg hs, if_pos hk, if_neg h8] at ok'
        exact sim_begin h (d := (c, ⟨0, M.count + 1, M.last, zb⟩)) hk rfl rfl rfl h8 ok'
    · rename_i hk0
      split
      · rename_i hk14
        have ok' := ok_step h.ok c
        unfold step at ok'
        rw [if_neg hs, if_neg hk0, if_pos hk14] at ok'
        unfold of at ok' ⊢
        split
        · rename_i hb
          refine hk9 1 (by decide) ?_
          rcases hb with ⟨hb, _⟩ | ⟨hb, _⟩
          · rcases hb with hb | hb
            · exact .inr (.inl hb)
            · exact .inr (.inr (.inl hb))
          · exact .inr (.inr (.inl hb))
        · rename_i hb
          rw [if_neg hb] at ok'
          cases hT : get M.live c.txn with
          | none => exact hk9 9 (by decide) (.inr (.inr (.inr (.inl rfl))))
          | some T =>
            rw [hT] at ok'
            simp only [] at ok' ⊢
            split
            · rename_i h1
              refine sim_inert h (by simp [h1]) (by simp [h1]) (by simp [h1]) (by simp [h1]) (fun _ a => ?_)
              have a' : c.kind = 3 ∨ c.kind = 4 := a
              omega
            · rename_i h1
              rw [if_neg h1] at ok'
              split
              · rename_i h2
                rw [if_pos h2] at ok'
                have hpg : 0 ≤ c.page ∧ c.page < M.pages := ⟨hp, by
                  refine Int.not_le.1 fun e => hb (.inl ⟨.inr h2, e⟩)⟩
                have ho : 0 ≤ c.off ∧ c.off ≤ 64 ∧ (c.s.size : Int) ≤ 64 - c.off := by
                  refine ⟨?_, ?_, ?_⟩
                  · exact Int.not_lt.1 fun e => hb (.inr ⟨h2, .inl e⟩)
                  · exact Int.not_lt.1 fun e => hb (.inr ⟨h2, .inr (.inl e)⟩)
                  · exact Int.not_lt.1 fun e => hb (.inr ⟨h2, .inr (.inr e)⟩)
                cases hg : get T.now c.page with
                | some b =>
                  rw [hg] at ok'
                  have := sim_write h (d := (c, P.ok 0 zb)) (T := T) h2 rfl hT hpg ho (by show Ok _ _; rw [hg]; exact ok')
                  simp only [hg, Option.getD_some] at this
                  exact this
                | none =>
                  rw [hg] at ok'
                  simp only [] at ok' ⊢
                  split
                  · exact hk9 10 (by decide) (.inr (.inr (.inl h2)))
                  · rename_i h4
                    rw [if_neg h4] at ok'
                    have := sim_write h (d := (c, P.ok 0 zb)) (T := T) h2 rfl hT hpg ho (by show Ok _ _; rw [hg]; exact ok')
                    simp only [hg, Option.getD_none] at this
                    exact this
              · rename_i h2
                rw [if_neg h2] at ok'
                split
                · rename_i h4
                  exact sim_del h (d := (c, P.ok 0 zb)) (T := T) (.inr h4) (by simp [P.ok]) hT (fun e => by have e' : c.kind = 3 := e; omega)
                · rename_i h4
                  rw [if_neg h4] at ok'
                  have hk3 : c.kind = 3 := by omega
                  unfold com at ok' ⊢
                  split
                  · exact sim_del h (d := (c, P.ok T.start zb)) (T := T) (.inl hk3) (by simp [P.ok]) hT (fun _ _ => rfl)
                  · rename_i hn
                    rw [if_neg hn] at ok'
                    split
                    · exact sim_del h (d := (c, err 8)) (T := T) (.inl hk3) (by simp [err]) hT (fun _ e => absurd e (by simp [err]))
                    · rename_i hl
                      rw [if_neg hl] at ok'
                      split
                      · exact sim_del h (d := (c, err 7)) (T := T) (.inl hk3) (by simp [err]) hT (fun _ e => absurd e (by simp [err]))
                      · rename_i ha
                        rw [if_neg ha] at ok'
                        exact sim_commit h (d := (c, P.ok (M.last + 1) zb)) (T := T) hk3 rfl hT rfl ok'
      · rename_i hk14
        split
        · rename_i h56
          exact sim_inert h (fun a => by have a' : c.kind = 0 := a.1; omega) (fun a => by have a' : c.kind = 2 := a.1; omega) (fun a => by have a' : c.kind = 3 := a.1; omega) (fun a => by have a' : c.kind = 7 := a.1; omega)
            (fun _ a => by have a' : c.kind = 3 ∨ c.kind = 4 := a; omega)
        · rename_i h56
          split
          · rename_i h7
            exact sim_shut h (d := (c, P.ok 0 zb)) h7 rfl
          · refine hk9 1 (by decide) ?_
            omega
theorem len_filter_mem {l k : List Int} (hl : l.Nodup) (hk : k.Nodup) (hs : ∀ x ∈ k, x ∈ l) : (l.filter fun x => decide (x ∈ k)).length = k.length := by
  refine List.Perm.length_eq ((List.perm_ext_iff_of_nodup (hl.filter _) hk).2 fun x => ?_)
  rw [List.mem_filter]
  constructor
  · exact fun h => of_decide_eq_true h.2
  · exact fun h => ⟨hs x h, decide_eq_true h⟩
theorem livF_eq {M : Md} {m : Nat} {log : List De} (h : Sim M m log) (hs : M.shut = false) : livF log = (M.live.length, M.count) := by
  have key : ∀ (l : List De) (s : Nat × Nat), l.foldl (livS log) s =
      (s.1 + ((l.filterMap fun d => if d.1.kind = 0 ∧ d.2.e = 0 then some d.2.txn else none).filter fun n => (begF log n).2).length, s.2 + (l.filter fun d => decide (d.1.kind = 0 ∧ d.2.e = 0)).length) := by
    intro l
    induction l with
    | nil => intro s; rfl
    | cons d l ih =>
      intro s
      show l.foldl (livS log) (livS log s d) = _
      rw [ih]
      unfold livS
      by_cases hd : d.1.kind = 0 ∧ d.2.e = 0
      · have f2 : ((d :: l).filter fun d => decide (d.1.kind = 0 ∧ d.2.e = 0)) = d :: l.filter fun d => decide (d.1.kind = 0 ∧ d.2.e = 0) := List.filter_cons_of_pos (p := fun d : De => decide (d.1.kind = 0 ∧ d.2.e = 0)) (decide_eq_true hd)
        rw [if_pos hd, List.filterMap_cons, if_pos hd, f2]
        simp only [List.length_cons]
        by_cases hb : (begF log d.2.txn).2 = true
        · have f3 := List.filter_cons_of_pos (p := fun n => (begF log n).2) (l := l.filterMap fun d => if d.1.kind = 0 ∧ d.2.e = 0 then some d.2.txn else none) hb
          rw [if_pos hb, f3, List.length_cons, Prod.mk.injEq]
          omega
        · have f3 := List.filter_cons_of_neg (p := fun n => (begF log n).2) (l := l.filterMap fun d => if d.1.kind = 0 ∧ d.2.e = 0 then some d.2.txn else none) hb
          rw [if_neg hb, f3, Prod.mk.injEq]
          omega
      · rw [if_neg hd, List.filterMap_cons, if_neg hd, List.filter_cons_of_neg (p := fun d : De => decide (d.1.kind = 0 ∧ d.2.e = 0)) (by simpa using hd)]
  unfold livF
  rw [key, h.cnt]
  simp only [Nat.zero_add, Prod.mk.injEq, and_true]
  have hmem : ∀ n ∈ (log.filterMap fun d => if d.1.kind = 0 ∧ d.2.e = 0 then some d.2.txn else none), (begF log n).2 = decide (n ∈ M.live.map (·.1)) := fun n _ => by
    rw [(h.beg hs n).1]
    cases hg : get M.live n with
    | some T => exact (decide_eq_true (List.mem_map.2 ⟨_, get_mem hg, rfl⟩)).symm
    | none =>
      symm
      refine decide_eq_false fun e => ?_
      obtain ⟨x, hx, rfl⟩ := List.mem_map.1 e
      rw [get_of_mem h.ok.keys (b := x.2) hx] at hg
      cases hg
  rw [List.filter_congr hmem, len_filter_mem h.dist h.ok.keys, List.length_map]
  intro x hx
  obtain ⟨y, hy, rfl⟩ := List.mem_map.1 hx
  have hk := h.ok.key y hy
  obtain ⟨d, hd, hb⟩ := h.has y.1 hk.1 hk.2
  have hb' := of_decide_eq_true hb
  exact List.mem_filterMap.2 ⟨d, hd, by rw [if_pos ⟨hb'.1, hb'.2.1⟩, hb'.2.2]⟩
theorem wr_flag {M : Md} {m : Nat} {log : List De} (h : Sim M m log) {n : Int} {T : Tx} (hT : get M.live n = some T) (p : Int) (b : Bd) : (wrF log n p b).2 = (get T.now p).isSome := by
  rw [wrF_flag log n p b (at' M p T.start).b, h.wr n T hT p]
theorem cntF_eq {M : Md} {m : Nat} {log : List De} (h : Sim M m log) {n : Int} {T : Tx} (hT : get M.live n = some T) : cntF M.pages.toNat log n = T.now.length := by
  obtain ⟨_, hnd⟩ := h.ok.few _ (get_mem hT)
  have hnd' : (T.now.map (·.1)).Nodup := hnd
  have hinj : ((List.range M.pages.toNat).map fun (p : Nat) => (p : Int)).Nodup := by
    refine List.pairwise_map.2 (List.nodup_range.imp fun h e => h (by omega))
  unfold cntF
  have e1 : ((List.range M.pages.toNat).filter fun (p : Nat) => (wrF log n (p : Int) zb).2).length = (((List.range M.pages.toNat).map fun (p : Nat) => (p : Int)).filter fun p => decide (p ∈ T.now.map (·.1))).length := by
    rw [List.filter_map, List.length_map]
    congr 1
    refine List.filter_congr fun p _ => ?_
    rw [wr_flag h hT]
    show _ = decide ((p : Int) ∈ T.now.map (·.1))
    cases hg : get T.now (p : Int) with
    | some b => exact (decide_eq_true (List.mem_map.2 ⟨_, get_mem hg, rfl⟩)).symm
    | none =>
      symm
      refine decide_eq_false fun e => ?_
      obtain ⟨x, hx, e2⟩ := List.mem_map.1 e
      have := get_of_mem hnd' (k := x.1) (b := x.2) hx
      rw [e2, hg] at this
      cases this
  rw [e1, len_filter_mem hinj hnd', List.length_map]
  intro x hx
  obtain ⟨y, hy, rfl⟩ := List.mem_map.1 hx
  have := h.pg n T hT y hy
  exact List.mem_map.2 ⟨y.1.toNat, List.mem_range.2 (by omega), by omega⟩
/-- What a conflict is, page by page. -/
theorem conf_iff {M : Md} {m : Nat} {log : List De} (h : Sim M m log) {n : Int} {T : Tx} (hT : get M.live n = some T) :
    (T.now.any (fun p => decide (T.start < (at' M p.1 M.last).ts)) = true) ↔ ∃ p : Nat, p < M.pages.toNat ∧ (wrF log n (p : Int) zb).2 = true ∧ T.start < (at' M (p : Int) M.last).ts := by
  obtain ⟨_, hnd⟩ := h.ok.few _ (get_mem hT)
  have hnd' : (T.now.map (·.1)).Nodup := hnd
  rw [List.any_eq_true]
  constructor
  · rintro ⟨x, hx, e⟩
    have hp := h.pg n T hT x hx
    refine ⟨x.1.toNat, by omega, ?_⟩
    rw [show ((x.1.toNat : Nat) : Int) = x.1 by omega, wr_flag h hT, get_of_mem hnd' (k := x.1) (b := x.2) hx]
    exact ⟨rfl, of_decide_eq_true e⟩
  · rintro ⟨p, hp, e1, e2⟩
    rw [wr_flag h hT] at e1
    cases hg : get T.now (p : Int) with
    | none => rw [hg] at e1; cases e1
    | some b => exact ⟨_, get_mem hg, decide_eq_true e2⟩
def begC1 (n : Int) (d : De) : Bool := decide (d.1.kind = 0 ∧ d.2.e = 0 ∧ d.2.txn = n ∧ 0 < n)
def begC2 (n : Int) (d : De) : Bool := decide ((d.1.kind = 3 ∨ d.1.kind = 4) ∧ d.1.txn = n ∧ d.2.e ≠ 9)
theorem begS_eq (n : Int) (s : Nat × Bool) (d : De) : begS n s d = if begC2 n d = true then ((begS1 n s d).1, false) else begS1 n s d := by
  unfold begS begC2
  by_cases h : (d.1.kind = 3 ∨ d.1.kind = 4) ∧ d.1.txn = n ∧ d.2.e ≠ 9
  · rw [if_pos h, if_pos (decide_eq_true h)]
  · rw [if_neg h, if_neg (by simpa using h)]
theorem begS1_eq (n : Int) (s : Nat × Bool) (d : De) : begS1 n s d = if begC1 n d = true then (d.2.ts, true) else s := by
  unfold begS1 begC1
  by_cases h : d.1.kind = 0 ∧ d.2.e = 0 ∧ d.2.txn = n ∧ 0 < n
  · rw [if_pos h, if_pos (decide_eq_true h)]
  · rw [if_neg h, if_neg (by simpa using h)]
end Go.Proofs.Ytjaecdcddmohoaa.P
