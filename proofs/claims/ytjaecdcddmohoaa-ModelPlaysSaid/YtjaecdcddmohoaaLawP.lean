/- Plain laws of the machine, call by call. -/
import Derived.Test.YtjaecdcddmohoaaNoneW
namespace Go.Proofs.Ytjaecdcddmohoaa.P
open Go.Proofs.Ytjaecdcddmohoaa
theorem pick_append (l : List Vr) (v : Vr) (ts : Nat) (u : Vr) : pick (l ++ [v]) ts u = if v.ts ≤ ts then v else pick l ts u := by
  unfold pick
  rw [List.foldl_append]
  rfl
/-- What a call leaves as it is. -/
structure Kept (M M' : Md) : Prop where
  pages : M'.pages = M.pages
  max : M'.max = M.max
  last : M.last ≤ M'.last ∧ M'.last ≤ M.last + 1
  at_ : ∀ p s, s ≤ M.last → at' M' p s = at' M p s
  cnt : M.count ≤ M'.count
theorem Kept.refl (M : Md) : Kept M M := ⟨rfl, rfl, ⟨Nat.le_refl _, Nat.le_succ _⟩, fun _ _ _ => rfl, Nat.le_refl _⟩
theorem kept_com (M : Md) (t : Tx) : Kept M (com M t).1 := by
  unfold com
  split
  · exact Kept.refl M
  · split
    · exact Kept.refl M
    · split
      · exact Kept.refl M
      · refine ⟨rfl, rfl, ⟨Nat.le_succ _, Nat.le_refl _⟩, fun p s hs => ?_, Nat.le_refl _⟩
        show pick (M.old p ++ _) s ⟨0, zb⟩ = pick (M.old p) s ⟨0, zb⟩
        split
        · rw [pick_append, if_neg (by show ¬ M.last + 1 ≤ s; omega)]
        · rw [List.append_nil]
theorem kept_live (M : Md) (l : List (Int × Tx)) : Kept M { M with live := l } := ⟨rfl, rfl, ⟨Nat.le_refl _, Nat.le_succ _⟩, fun _ _ _ => rfl, Nat.le_refl _⟩
theorem Kept.of_live {M M' : Md} {l : List (Int × Tx)} (h : Kept { M with live := l } M') : Kept M M' := ⟨h.pages, h.max, h.last, h.at_, h.cnt⟩
theorem kept_step (M : Md) (c : Cl) : Kept M (step M c).1 := by
  unfold step
  split
  · exact Kept.refl M
  · split
    · split
      · exact Kept.refl M
      · exact ⟨rfl, rfl, ⟨Nat.le_refl _, Nat.le_succ _⟩, fun _ _ _ => rfl, Nat.le_succ _⟩
    · split
      · unfold of
        split
        · exact Kept.refl M
        · split
          · exact Kept.refl M
          · split
            · exact Kept.refl M
            · split
              · split
                · exact kept_live M _
                · split
                  · exact Kept.refl M
                  · exact kept_live M _
              · split
                · exact kept_live M _
                · exact (kept_com _ _).of_live
      · split
        · exact Kept.refl M
        · split
          · exact ⟨rfl, rfl, ⟨Nat.le_refl _, Nat.le_succ _⟩, fun _ _ _ => rfl, Nat.le_refl _⟩
          · exact Kept.refl M
theorem com_live (M : Md) (t : Tx) : (com M t).1.live = M.live ∧ (com M t).1.shut = M.shut := by
  unfold com
  split
  · exact ⟨rfl, rfl⟩
  · split
    · exact ⟨rfl, rfl⟩
    · split <;> exact ⟨rfl, rfl⟩
theorem shut_step {M : Md} {c : Cl} (h : M.shut = false) (hk : c.kind < 7) : (step M c).1.shut = false := by
  unfold step
  rw [if_neg (by rw [h]; simp)]
  split
  · split <;> exact h
  · split
    · unfold of
      split
      · exact h
      · split
        · exact h
        · split
          · exact h
          · split
            · split
              · exact h
              · split <;> exact h
            · split
              · exact h
              · rw [(com_live _ _).2]; exact h
    · split
      · exact h
      · rw [if_neg (by omega)]; exact h
/-- A transaction that a call does not name stays as it is. -/
theorem live_step {M : Md} {m : Nat} (ok : Ok M m) {c : Cl} {n : Int} (hn : n ≤ M.count) (hc : c.txn ≠ n) : get (step M c).1.live n = get M.live n := by
  unfold step
  split
  · rfl
  · split
    · split
      · rfl
      · show get (put M.live _ _) n = _
        rw [get_put, if_neg (by omega)]
    · split
      · unfold of
        split
        · rfl
        · split
          · rfl
          · split
            · rfl
            · split
              · split
                · show get (put M.live _ _) n = _
                  rw [get_put, if_neg (fun e => hc e.symm)]
                · split
                  · rfl
                  · show get (put M.live _ _) n = _
                    rw [get_put, if_neg (fun e => hc e.symm)]
              · split
                · show get (del M.live _) n = _
                  rw [get_del ok.keys, if_neg (fun e => hc e.symm)]
                · rw [(com_live _ _).1]
                  show get (del M.live _) n = _
                  rw [get_del ok.keys, if_neg (fun e => hc e.symm)]
      · split
        · rfl
        · split <;> rfl
section
variable {M : Md} {m : Nat} {n page : Int} {T : Tx} {s : ByteArray}
theorem begin_many (h : M.shut = false) (h8 : M.live.length = 8) (t p o : Int) (s : ByteArray) : step M ⟨0, t, p, o, s⟩ = (M, err 10) := by
  unfold step
  rw [if_neg (by rw [h]; simp), if_pos rfl, if_pos h8]
theorem begin_ok (h : M.shut = false) (h8 : M.live.length ≠ 8) (t p o : Int) (s : ByteArray) : step M ⟨0, t, p, o, s⟩ = ({ M with count := M.count + 1, live := put M.live (M.count + 1) ⟨M.last, []⟩ }, ⟨0, M.count + 1, M.last, zb⟩) := by
  unfold step
  rw [if_neg (by rw [h]; simp), if_pos rfl, if_neg h8]
theorem read_none (h : M.shut = false) (hp : page < M.pages) (hT : get M.live n = some T) (hg : get T.now page = none) (o : Int) : step M ⟨1, n, page, o, s⟩ = (M, ok (at' M page T.start).ts (at' M page T.start).b) := by
  unfold step of
  rw [if_neg (by rw [h]; simp), if_neg (by simp), if_pos (.inl rfl), if_neg (by
    rintro (⟨_, h⟩ | ⟨h, _⟩)
    · have : M.pages ≤ page := h
      omega
    · cases h)]
  simp only [hT, hg]
  rfl
theorem read_some {b : Bd} (h : M.shut = false) (hp : page < M.pages) (hT : get M.live n = some T) (hg : get T.now page = some b) (o : Int) : step M ⟨1, n, page, o, s⟩ = (M, ok T.start b) := by
  unfold step of
  rw [if_neg (by rw [h]; simp), if_neg (by simp), if_pos (.inl rfl), if_neg (by
    rintro (⟨_, h⟩ | ⟨h, _⟩)
    · have : M.pages ≤ page := h
      omega
    · cases h)]
  simp only [hT, hg]
  rfl
theorem write_first (h : M.shut = false) (hp : page < M.pages) (hT : get M.live n = some T) (hg : T.now = []) (hs : s.size ≤ 64) :
    step M ⟨2, n, page, 0, s⟩ = ({ M with live := put M.live n ⟨T.start, [(page, cpy (at' M page T.start).b 0 s)]⟩ }, ok 0 zb) := by
  unfold step of
  rw [if_neg (by rw [h]; simp), if_neg (by simp), if_pos (.inr (.inl rfl)), if_neg (by
    rintro (⟨_, h⟩ | ⟨_, h | h | h⟩)
    · have : M.pages ≤ page := h
      omega
    · exact absurd h (by simp)
    · exact absurd h (by simp)
    · have : (64 : Int) - 0 < s.size := h
      omega)]
  simp only [hT, hg]
  rw [if_neg (by decide), if_pos trivial]
  simp only [get, List.length_nil]
  rw [if_neg (by decide)]
  unfold wr
  rw [hg]
  rfl
theorem end_none (h : M.shut = false) (hT : get M.live n = none) (k p o : Int) (hk : k = 3 ∨ k = 4) : step M ⟨k, n, p, o, s⟩ = (M, err 9) := by
  unfold step of
  rw [if_neg (by rw [h]; simp), if_neg (by show ¬ k = 0; omega), if_pos (by show k = 1 ∨ k = 2 ∨ k = 3 ∨ k = 4; omega), if_neg (by
    rintro (⟨h, _⟩ | ⟨h, _⟩)
    · have : k = 1 ∨ k = 2 := h
      omega
    · have : k = 2 := h
      omega)]
  simp only [hT]
theorem write_none (h : M.shut = false) (hp : page < M.pages) (hs : s.size ≤ 64) (hT : get M.live n = none) : step M ⟨2, n, page, 0, s⟩ = (M, err 9) := by
  unfold step of
  rw [if_neg (by rw [h]; simp), if_neg (by simp), if_pos (.inr (.inl rfl)), if_neg (by
    rintro (⟨_, h⟩ | ⟨_, h | h | h⟩)
    · have : M.pages ≤ page := h
      omega
    · exact absurd h (by simp)
    · exact absurd h (by simp)
    · have : (64 : Int) - 0 < s.size := h
      omega)]
  simp only [hT]
theorem abort_ok (h : M.shut = false) (hT : get M.live n = some T) (p o : Int) : step M ⟨4, n, p, o, s⟩ = ({ M with live := del M.live n }, ok 0 zb) := by
  unfold step of
  rw [if_neg (by rw [h]; simp), if_neg (by simp), if_pos (by simp), if_neg (by
    rintro (⟨h, _⟩ | ⟨h, _⟩)
    · simp at h
    · simp at h)]
  simp only [hT]
  rfl
theorem commit_to (h : M.shut = false) (hT : get M.live n = some T) (p o : Int) : step M ⟨3, n, p, o, s⟩ = com { M with live := del M.live n } T := by
  unfold step of
  rw [if_neg (by rw [h]; simp), if_neg (by simp), if_pos (by simp), if_neg (by
    rintro (⟨h, _⟩ | ⟨h, _⟩)
    · simp at h
    · simp at h)]
  simp only [hT]
  rfl
theorem com_empty (h : T.now = []) : com M T = (M, ok T.start zb) := by unfold com; rw [if_pos h]
theorem com_one {b : Bd} (ok : Ok M m) (hs : T.start = M.last) (hn : T.now = [(page, b)]) (hm : M.last ≠ M.max) :
    com M T = ({ M with last := M.last + 1, old := fun p => M.old p ++ (if page = p then [⟨M.last + 1, b⟩] else []) }, P.ok (M.last + 1) zb) := by
  unfold com
  rw [if_neg (by rw [hn]; simp), if_neg hm, if_neg (by
    rw [hn]
    simp only [List.any_cons, List.any_nil, Bool.or_false, decide_eq_true_eq]
    have := at_le ok page M.last
    omega)]
  congr 2
  funext p
  rw [hn]
  by_cases e : page = p
  · simp [get, e]
  · simp [get, e]
theorem com_conf1 {b : Bd} (hs : T.start < (at' M page M.last).ts) (hn : T.now = [(page, b)]) (hm : M.last ≠ M.max) : com M T = (M, err 7) := by
  unfold com
  rw [if_neg (by rw [hn]; simp), if_neg hm, if_pos (by rw [hn]; simp [hs])]
end
end Go.Proofs.Ytjaecdcddmohoaa.P
