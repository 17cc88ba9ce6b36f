/- The plain theory of the machine: what each call does and answers. -/
import Derived.Test.YtnemaolbmocncaaMapA
namespace Go.Proofs.Ytnemaolbmocncaa.P
open Go.Proofs.Ytnemaolbmocncaa
abbrev Bd := Nat → BitVec 8
structure Vr where
  ts : Nat
  b : Bd
structure Tx where
  start : Nat
  now : List (Int × Bd)
structure Md where
  pages : Int
  last : Nat
  max : Nat
  count : Nat
  old : Int → List Vr
  live : List (Int × Tx)
  shut : Bool
structure Cl where
  kind : Int
  txn : Int
  page : Int
  off : Int
  s : ByteArray
structure Rp where
  e : Int
  txn : Int
  ts : Nat
  b : Bd
def zb : Bd := fun _ => 0#8
def err (e : Int) : Rp := ⟨e, 0, 0, zb⟩
def ok (ts : Nat) (b : Bd) : Rp := ⟨0, 0, ts, b⟩
def pick (l : List Vr) (ts : Nat) (v : Vr) : Vr := l.foldl (fun out v => if v.ts ≤ ts then v else out) v
def at' (M : Md) (p : Int) (ts : Nat) : Vr := pick (M.old p) ts ⟨0, zb⟩
def sb (s : ByteArray) (j : Nat) : BitVec 8 := (s.data.getD j 0).toBitVec
def cpy (b : Bd) (o : Nat) (s : ByteArray) : Bd := fun j => if o ≤ j ∧ j < o + s.size then sb s (j - o) else b j
def com (M : Md) (t : Tx) : Md × Rp :=
  if t.now = [] then (M, ok t.start zb)
  else if M.last = M.max then (M, err 8)
  else if t.now.any (fun p => decide (t.start < (at' M p.1 M.last).ts)) = true then (M, err 7)
  else ({ M with last := M.last + 1, old := fun p => M.old p ++ (match get t.now p with | some b => [⟨M.last + 1, b⟩] | none => []) }, ok (M.last + 1) zb)
def wr (M : Md) (c : Cl) (t : Tx) (b : Bd) : Md × Rp := ({ M with live := put M.live c.txn { t with now := put t.now c.page (cpy b c.off.toNat c.s) } }, ok 0 zb)
def badC (M : Md) (c : Cl) : Prop := ((c.kind = 1 ∨ c.kind = 2) ∧ M.pages ≤ c.page) ∨ (c.kind = 2 ∧ (c.off < 0 ∨ 64 < c.off ∨ 64 - c.off < c.s.size))
open Classical in
noncomputable def of (M : Md) (c : Cl) : Md × Rp :=
  if badC M c then (M, err 1)
  else match get M.live c.txn with
    | none => (M, err 9)
    | some t =>
      if c.kind = 1 then (M, match get t.now c.page with | some b => ok t.start b | none => ok (at' M c.page t.start).ts (at' M c.page t.start).b)
      else if c.kind = 2 then
        match get t.now c.page with
        | some b => wr M c t b
        | none => if t.now.length = 4 then (M, err 10) else wr M c t (at' M c.page t.start).b
      else if c.kind = 4 then ({ M with live := del M.live c.txn }, ok 0 zb)
      else com { M with live := del M.live c.txn } t
noncomputable def step (M : Md) (c : Cl) : Md × Rp :=
  if M.shut = true then (M, err 12)
  else if c.kind = 0 then
    if M.live.length = 8 then (M, err 10)
    else ({ M with count := M.count + 1, live := put M.live (M.count + 1) ⟨M.last, []⟩ }, ⟨0, M.count + 1, M.last, zb⟩)
  else if c.kind = 1 ∨ c.kind = 2 ∨ c.kind = 3 ∨ c.kind = 4 then of M c
  else if c.kind = 5 ∨ c.kind = 6 then (M, ok 0 zb)
  else if c.kind = 7 then ({ M with shut := true }, ok 0 zb)
  else (M, err 1)
def new (pages : Int) (max : Nat) : Md := ⟨pages, 0, max, 0, fun _ => [], [], false⟩
/-- What holds of every machine that was made and has done m calls. -/
structure Ok (M : Md) (m : Nat) : Prop where
  lm : M.last ≤ M.max
  mx : M.max < 4294967296
  cnt : M.count ≤ m
  keys : (M.live.map (·.1)).Nodup
  key : ∀ x ∈ M.live, 1 ≤ x.1 ∧ x.1 ≤ M.count
  start : ∀ x ∈ M.live, x.2.start ≤ M.last
  pos : 1 ≤ M.pages ∧ M.pages ≤ 16
  ver : ∀ p, ∀ v ∈ M.old p, v.ts ≤ M.last
  few : ∀ x ∈ M.live, x.2.now.length ≤ 4 ∧ (x.2.now.map (·.1)).Nodup
  many : ∀ p, (M.old p).length ≤ M.last
theorem ok_new {pages : Int} {max : Nat} (hp : 1 ≤ pages ∧ pages ≤ 16) (hm : max < 4294967296) : Ok (new pages max) 0 :=
  ⟨Nat.zero_le _, hm, Nat.le_refl _, List.nodup_nil, fun x hx => (by cases hx), fun x hx => (by cases hx), hp, fun p v hv => (by cases hv), fun x hx => (by cases hx), fun p => Nat.le_refl _⟩
theorem Ok.mono {M : Md} {m m' : Nat} (h : Ok M m) (hm : m ≤ m') : Ok M m' := { h with cnt := Nat.le_trans h.cnt hm }
theorem mem_putA {β : Type} {l : List (Int × β)} {k : Int} {b : β} {x : Int × β} (h : x ∈ put l k b) : x = (k, b) ∨ x ∈ l := by
  induction l with
  | nil => exact .inl (by simpa [put] using h)
  | cons p l ih =>
    unfold put at h
    split at h
    · rcases List.mem_cons.1 h with e | e
      · exact .inl e
      · exact .inr (List.mem_cons_of_mem _ e)
    · rcases List.mem_cons.1 h with e | e
      · exact .inr (by rw [e]; exact List.mem_cons_self)
      · rcases ih e with e | e
        · exact .inl e
        · exact .inr (List.mem_cons_of_mem _ e)
theorem put_len {β : Type} (l : List (Int × β)) (k : Int) (b : β) : (put l k b).length = if (get l k).isSome then l.length else l.length + 1 := by
  induction l with
  | nil => rfl
  | cons p l ih =>
    unfold put get
    split
    · simp
    · simp only [List.length_cons, ih]
      split <;> rfl
theorem ok_del {M : Md} {m : Nat} (h : Ok M m) (k : Int) : Ok { M with live := del M.live k } (m + 1) :=
  ⟨h.lm, h.mx, Nat.le_succ_of_le h.cnt, del_keys h.keys k, fun x hx => h.key x (mem_del hx), fun x hx => h.start x (mem_del hx), h.pos, h.ver, fun x hx => h.few x (mem_del hx), h.many⟩
theorem ok_wr {M : Md} {m : Nat} (h : Ok M m) {c : Cl} {t : Tx} (ht : get M.live c.txn = some t) (b : Bd) (hn : (get t.now c.page).isSome = true ∨ t.now.length ≠ 4) : Ok (wr M c t b).1 (m + 1) := by
  have hm := get_mem ht
  obtain ⟨h1, h2⟩ := h.few _ hm
  refine ⟨h.lm, h.mx, Nat.le_succ_of_le h.cnt, put_keys h.keys _ _, ?_, ?_, h.pos, h.ver, ?_, h.many⟩
  · intro x hx
    rcases mem_putA hx with rfl | hx
    · have := h.key _ hm; exact this
    · exact h.key x hx
  · intro x hx
    rcases mem_putA hx with rfl | hx
    · have := h.start _ hm; exact this
    · exact h.start x hx
  · intro x hx
    rcases mem_putA hx with rfl | hx
    · refine ⟨?_, put_keys h2 _ _⟩
      show (put t.now c.page _).length ≤ 4
      rw [put_len]
      have h1' : t.now.length ≤ 4 := h1
      split
      · exact h1'
      · rename_i hs
        rcases hn with e | e
        · exact absurd e hs
        · omega
    · exact h.few x hx
theorem ok_com {M : Md} {m : Nat} (h : Ok M m) (t : Tx) : Ok (com M t).1 m := by
  unfold com
  split
  · exact h
  · split
    · exact h
    · split
      · exact h
      · have hl := h.lm
        refine ⟨by show M.last + 1 ≤ M.max; omega, h.mx, h.cnt, h.keys, h.key, fun x hx => Nat.le_succ_of_le (h.start x hx), h.pos, ?_, h.few, ?_⟩
        · intro p v hv
          rcases List.mem_append.1 hv with hv | hv
          · exact Nat.le_succ_of_le (h.ver p v hv)
          · split at hv
            · obtain rfl : v = _ := by simpa using hv
              exact Nat.le_refl _
            · cases hv
        · intro p
          show (M.old p ++ _).length ≤ M.last + 1
          rw [List.length_append]
          have := h.many p
          split <;> simp <;> omega
theorem ok_step {M : Md} {m : Nat} (h : Ok M m) (c : Cl) : Ok (step M c).1 (m + 1) := by
  have h1 := h.mono (Nat.le_succ m)
  unfold step
  split
  · exact h1
  · split
    · split
      · exact h1
      · refine ⟨h.lm, h.mx, Nat.succ_le_succ h.cnt, put_keys h.keys _ _, ?_, ?_, h.pos, h.ver, ?_, h.many⟩
        · intro x hx
          rcases mem_putA hx with rfl | hx
          · show 1 ≤ (M.count : Int) + 1 ∧ (M.count : Int) + 1 ≤ ((M.count + 1 : Nat) : Int); omega
          · have := h.key x hx
            show 1 ≤ x.1 ∧ x.1 ≤ ((M.count + 1 : Nat) : Int); omega
        · intro x hx
          rcases mem_putA hx with rfl | hx
          · exact Nat.le_refl _
          · exact h.start x hx
        · intro x hx
          rcases mem_putA hx with rfl | hx
          · exact ⟨Nat.zero_le _, List.nodup_nil⟩
          · exact h.few x hx
    · split
      · unfold of
        split
        · exact h1
        · split
          · exact h1
          · rename_i t ht
            split
            · exact h1
            · split
              · split
                · rename_i b hb
                  exact ok_wr h ht b (.inl (by rw [hb]; rfl))
                · split
                  · exact h1
                  · rename_i hn
                    exact ok_wr h ht _ (.inr hn)
              · split
                · exact ok_del h _
                · exact ok_com (ok_del h _) t
      · split
        · exact h1
        · split
          · exact ⟨h.lm, h.mx, Nat.le_succ_of_le h.cnt, h.keys, h.key, h.start, h.pos, h.ver, h.few, h.many⟩
          · exact h1
end Go.Proofs.Ytnemaolbmocncaa.P
