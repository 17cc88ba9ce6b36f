/- The machine in memory: its transactions begin, write and end. -/
import Derived.Test.YtnemaolbmocncaaMdCom
import Derived.Lib.BufferWrite
namespace Go.Proofs.Ytnemaolbmocncaa
open Go.RowKit
set_option linter.unusedSimpArgs false
set_option linter.unusedVariables false
theorem map_put {α β : Type} (f : α → β) (k : Int) (v : α) : ∀ l : List (Int × α), (put l k v).map (fun x => (x.1, f x.2)) = put (l.map fun x => (x.1, f x.2)) k (f v) := fun l => by
  induction l with
  | nil => rfl
  | cons x l ih =>
    simp only [List.map_cons]
    unfold put
    split
    · rfl
    · rw [List.map_cons, ih]
theorem map_del {α β : Type} (f : α → β) (k : Int) : ∀ l : List (Int × α), (del l k).map (fun x => (x.1, f x.2)) = del (l.map fun x => (x.1, f x.2)) k := fun l => by
  induction l with
  | nil => rfl
  | cons x l ih =>
    simp only [List.map_cons]
    unfold del
    split
    · rfl
    · rw [List.map_cons, ih]
theorem put_same {α : Type} {l : List (Int × α)} {k : Int} {v : α} (h : get l k = some v) : put l k v = l := by
  induction l with
  | nil => cases h
  | cons x l ih =>
    unfold get at h
    unfold put
    split at h
    · rename_i e
      rw [if_pos e]
      have : x = (k, v) := Prod.ext e (by simpa using h)
      rw [this]
    · rename_i e
      rw [if_neg e, ih h]
theorem MS.txkeys {base : Nat} {w : World} {m : MW} {M : P.Md} (h : MS base w m M) : (m.txs.map (·.1)).Nodup := by
  have := h.l.keys
  rw [List.map_map] at this
  exact this
theorem mem_put_keys {α : Type} {l : List (Int × α)} (keys : (l.map (·.1)).Nodup) {k : Int} {v : α} {x : Int × α} (hx : x ∈ put l k v) : x = (k, v) ∨ (x ∈ l ∧ x.1 ≠ k) := by
  rcases P.mem_putA hx with e | e
  · exact .inl e
  · by_cases hp : x.1 = k
    · have h1 := get_of_mem (put_keys keys k v) (k := x.1) (b := x.2) hx
      rw [get_put, if_pos hp] at h1
      exact .inl (Prod.ext hp (Option.some.inj h1).symm)
    · exact .inr ⟨e, hp⟩
/-- A page is laid into a transaction's map. -/
theorem MS.putNow {base : Nat} {w w' : World} {m : MW} {M : P.Md} (h : MS base w m M) {k : Int} {t n : Nat} {T : P.Tx} (hg : get m.txs k = some (t, n, T)) (f : Fr (fun i => i = n) w w') (p : Int) (b : P.Bd)
    (hn : MapAt w' n .u16 (put (T.now.map fun p => (p.1, Value.agg (row 64 p.2))) p (.agg (row 64 b)))) :
    ∃ m', m'.c = m.c ∧ MS base w' m' { M with live := put M.live k { T with now := put T.now p b } } ∧ ∀ b, m'.own b → m.own b := by
  have hm := get_mem hg
  have nS : ∀ lb b, m.at lb b → lb ≠ .nw k → ¬ b = n := fun lb b hb hne e => hne (h.nd _ _ b hb (e ▸ ⟨_, hm, rfl⟩))
  have keys := h.txkeys
  have atx : ∀ lb b', MW.at { m with txs := put m.txs k (t, n, { T with now := put T.now p b }) } lb b' → m.at lb b' := by
    intro lb b hb
    cases lb with
    | c => exact hb
    | o => exact hb
    | l => exact hb
    | row q => exact hb
    | tx q =>
      obtain ⟨x, hx, rfl⟩ := hb
      rcases mem_put_keys keys hx with e | ⟨e, _⟩
      · simp only [Prod.mk.injEq] at e
        obtain ⟨rfl, rfl⟩ := e
        exact ⟨_, hm, rfl⟩
      · exact ⟨x, e, rfl⟩
    | nw q =>
      obtain ⟨x, hx, rfl⟩ := hb
      rcases mem_put_keys keys hx with e | ⟨e, _⟩
      · simp only [Prod.mk.injEq] at e
        obtain ⟨rfl, rfl⟩ := e
        exact ⟨_, hm, rfl⟩
      · exact ⟨x, e, rfl⟩
  refine ⟨{ m with txs := put m.txs k (t, n, { T with now := put T.now p b }) }, rfl, ⟨h.c.fr f (nS .c _ rfl (by simp)), h.o.fr f (nS .o _ rfl (by simp)), fun x hx => own_fr (h.rows x hx) f fun b hb => nS (.row x.1) b ⟨x.2, hx, hb⟩ (by simp), h.old, ?_, ?_, ?_, fun lb lb' b h1 h2 => h.nd lb lb' b (atx _ _ h1) (atx _ _ h2), fun lb b hb => h.lo _ _ (atx _ _ hb)⟩, fun b ⟨lb, hb⟩ => ⟨lb, atx _ _ hb⟩⟩
  · show MapAt w' m.l .u64 ((put m.txs k _).map _)
    rw [map_put (fun x : Nat × Nat × P.Tx => Value.pointer (some ⟨x.1, 0, none⟩)), put_same]
    · exact h.l.fr f (nS .l _ rfl (by simp))
    · rw [get_map m.txs (fun x : Nat × Nat × P.Tx => Value.pointer (some ⟨x.1, 0, none⟩)), hg]; rfl
  · show put M.live k _ = (put m.txs k _).map _
    rw [map_put (fun x : Nat × Nat × P.Tx => x.2.2), h.live]
  · intro x hx
    rcases mem_put_keys keys hx with rfl | ⟨e, e2⟩
    · refine ⟨(h.tx _ hm).t.fr f (nS (.tx k) _ ⟨_, hm, rfl⟩ (by simp)), ?_⟩
      show MapAt w' n .u16 ((put T.now p b).map _)
      rw [map_put (fun x : P.Bd => Value.agg (row 64 x))]
      exact hn
    · exact (h.tx x e).fr f (nS (.tx x.1) _ ⟨x.2, e, rfl⟩ (by simp)) (nS (.nw x.1) _ ⟨x.2, e, rfl⟩ (by simpa using e2))
/-- A transaction is struck. -/
theorem MS.delTx {base : Nat} {w w' : World} {m : MW} {M : P.Md} (h : MS base w m M) {k : Int} {t n : Nat} {T : P.Tx} (hg : get m.txs k = some (t, n, T)) (f : Fr (fun i => i = m.l) w w')
    (hl : MapAt w' m.l .u64 (del (m.txs.map fun x => (x.1, Value.pointer (some ⟨x.2.1, 0, none⟩))) k)) :
    MS base w' { m with txs := del m.txs k } { M with live := del M.live k } ∧ TxAt w' t n T ∧ ¬ MW.own { m with txs := del m.txs k } t ∧ ¬ MW.own { m with txs := del m.txs k } n ∧ (∀ b, MW.own { m with txs := del m.txs k } b → m.own b) ∧ m.own t ∧ m.own n := by
  have hm := get_mem hg
  have keys := h.txkeys
  have nS : ∀ lb b, m.at lb b → lb ≠ .l → ¬ b = m.l := fun lb b hb hne e => hne (h.nd _ _ b hb e)
  have gone : ∀ x, x ∈ del m.txs k → x ∈ m.txs ∧ x.1 ≠ k := fun x hx => ⟨mem_del hx, fun e => by
    have h1 := get_of_mem (del_keys keys k) (k := x.1) (b := x.2) hx
    rw [get_del keys, if_pos e] at h1
    cases h1⟩
  have atx : ∀ lb b, MW.at { m with txs := del m.txs k } lb b → m.at lb b ∧ lb ≠ .tx k ∧ lb ≠ .nw k := by
    intro lb b hb
    cases lb with
    | c => exact ⟨hb, by simp, by simp⟩
    | o => exact ⟨hb, by simp, by simp⟩
    | l => exact ⟨hb, by simp, by simp⟩
    | row q => exact ⟨hb, by simp, by simp⟩
    | tx q =>
      obtain ⟨x, hx, rfl⟩ := hb
      obtain ⟨e, e2⟩ := gone _ hx
      exact ⟨⟨x, e, rfl⟩, by simpa using e2, by simp⟩
    | nw q =>
      obtain ⟨x, hx, rfl⟩ := hb
      obtain ⟨e, e2⟩ := gone _ hx
      exact ⟨⟨x, e, rfl⟩, by simp, by simpa using e2⟩
  refine ⟨⟨h.c.fr f (nS .c _ rfl (by simp)), h.o.fr f (nS .o _ rfl (by simp)), fun x hx => own_fr (h.rows x hx) f fun b hb => nS (.row x.1) b ⟨x.2, hx, hb⟩ (by simp), h.old, ?_, ?_, ?_, fun lb lb' b h1 h2 => h.nd lb lb' b (atx _ _ h1).1 (atx _ _ h2).1, fun lb b hb => h.lo _ _ (atx _ _ hb).1⟩,
    (h.tx _ hm).fr f (nS (.tx k) _ ⟨_, hm, rfl⟩ (by simp)) (nS (.nw k) _ ⟨_, hm, rfl⟩ (by simp)), ?_, ?_, fun b ⟨lb, hb⟩ => ⟨lb, (atx _ _ hb).1⟩, (MW.mem_tx hm).1, (MW.mem_tx hm).2⟩
  · show MapAt w' m.l .u64 ((del m.txs k).map _)
    rw [map_del (fun x : Nat × Nat × P.Tx => Value.pointer (some ⟨x.1, 0, none⟩))]
    exact hl
  · show del M.live k = (del m.txs k).map _
    rw [map_del (fun x : Nat × Nat × P.Tx => x.2.2), h.live]
  · intro x hx
    obtain ⟨e, _⟩ := gone _ hx
    exact (h.tx x e).fr f (nS (.tx x.1) _ ⟨x.2, e, rfl⟩ (by simp)) (nS (.nw x.1) _ ⟨x.2, e, rfl⟩ (by simp))
  · rintro ⟨lb, hb⟩
    obtain ⟨h1, h2, h3⟩ := atx _ _ hb
    exact h2 (h.nd _ _ t h1 ⟨_, hm, rfl⟩)
  · rintro ⟨lb, hb⟩
    obtain ⟨h1, h2, h3⟩ := atx _ _ hb
    exact h3 (h.nd _ _ n h1 ⟨_, hm, rfl⟩)
/-- A transaction begins: its block and its map are new. -/
theorem MS.addTx {base : Nat} {w w' : World} {m : MW} {M : P.Md} (h : MS base w m M) {k : Int} {t n : Nat} {T : P.Tx} (hk : get m.txs k = none) (f : Fr (fun i => i = m.l) w w')
    (hl : MapAt w' m.l .u64 (put (m.txs.map fun x => (x.1, Value.pointer (some ⟨x.2.1, 0, none⟩))) k (.pointer (some ⟨t, 0, none⟩)))) (hT : TxAt w' t n T) (ht : ¬ m.own t) (hn : ¬ m.own n) (htn : t ≠ n) (lt : base ≤ t) (ln : base ≤ n) :
    ∃ m', m'.c = m.c ∧ MS base w' m' { M with live := put M.live k T } ∧ ∀ b, m'.own b → m.own b ∨ b = t ∨ b = n := by
  have keys := h.txkeys
  have nS : ∀ lb b, m.at lb b → lb ≠ .l → ¬ b = m.l := fun lb b hb hne e => hne (h.nd _ _ b hb e)
  have atx : ∀ lb b, MW.at { m with txs := put m.txs k (t, n, T) } lb b → (m.at lb b ∧ lb ≠ .tx k ∧ lb ≠ .nw k) ∨ (lb = .tx k ∧ b = t) ∨ (lb = .nw k ∧ b = n) := by
    intro lb b hb
    cases lb with
    | c => exact .inl ⟨hb, by simp, by simp⟩
    | o => exact .inl ⟨hb, by simp, by simp⟩
    | l => exact .inl ⟨hb, by simp, by simp⟩
    | row q => exact .inl ⟨hb, by simp, by simp⟩
    | tx q =>
      obtain ⟨x, hx, rfl⟩ := hb
      rcases mem_put_keys keys hx with e | ⟨e, e2⟩
      · simp only [Prod.mk.injEq] at e
        obtain ⟨rfl, rfl⟩ := e
        exact .inr (.inl ⟨rfl, rfl⟩)
      · exact .inl ⟨⟨x, e, rfl⟩, by simpa using e2, by simp⟩
    | nw q =>
      obtain ⟨x, hx, rfl⟩ := hb
      rcases mem_put_keys keys hx with e | ⟨e, e2⟩
      · simp only [Prod.mk.injEq] at e
        obtain ⟨rfl, rfl⟩ := e
        exact .inr (.inr ⟨rfl, rfl⟩)
      · exact .inl ⟨⟨x, e, rfl⟩, by simp, by simpa using e2⟩
  refine ⟨{ m with txs := put m.txs k (t, n, T) }, rfl, ⟨h.c.fr f (nS .c _ rfl (by simp)), h.o.fr f (nS .o _ rfl (by simp)), fun x hx => own_fr (h.rows x hx) f fun b hb => nS (.row x.1) b ⟨x.2, hx, hb⟩ (by simp), h.old, ?_, ?_, ?_, ?_, ?_⟩, ?_⟩
  · show MapAt w' m.l .u64 ((put m.txs k _).map _)
    rw [map_put (fun x : Nat × Nat × P.Tx => Value.pointer (some ⟨x.1, 0, none⟩))]
    exact hl
  · show put M.live k _ = (put m.txs k _).map _
    rw [map_put (fun x : Nat × Nat × P.Tx => x.2.2), h.live]
  · intro x hx
    rcases mem_put_keys keys hx with rfl | ⟨e, e2⟩
    · exact hT
    · exact (h.tx x e).fr f (nS (.tx x.1) _ ⟨x.2, e, rfl⟩ (by simp)) (nS (.nw x.1) _ ⟨x.2, e, rfl⟩ (by simp))
  · intro lb lb' b h1 h2
    rcases atx _ _ h1 with ⟨e1, _⟩ | ⟨rfl, rfl⟩ | ⟨rfl, rfl⟩
    · rcases atx _ _ h2 with ⟨e2, _⟩ | ⟨rfl, rfl⟩ | ⟨rfl, rfl⟩
      · exact h.nd _ _ b e1 e2
      · exact absurd ⟨_, e1⟩ ht
      · exact absurd ⟨_, e1⟩ hn
    · rcases atx _ _ h2 with ⟨e2, _⟩ | ⟨rfl, _⟩ | ⟨rfl, e⟩
      · exact absurd ⟨_, e2⟩ ht
      · rfl
      · exact absurd e htn
    · rcases atx _ _ h2 with ⟨e2, _⟩ | ⟨rfl, e⟩ | ⟨rfl, _⟩
      · exact absurd ⟨_, e2⟩ hn
      · exact absurd e.symm htn
      · rfl
  · intro lb b hb
    rcases atx _ _ hb with ⟨e, _⟩ | ⟨_, rfl⟩ | ⟨_, rfl⟩
    · exact h.lo _ _ e
    · exact lt
    · exact ln
  · rintro b ⟨lb, hb⟩
    rcases atx _ _ hb with ⟨e, _⟩ | ⟨_, e⟩ | ⟨_, e⟩
    · exact .inl ⟨_, e⟩
    · exact .inr (.inl e)
    · exact .inr (.inr e)
theorem size5 : (Try.prog.info? 5).map (·.size) = some 1 := by kernel_rfl
theorem byteCells_row (s : ByteArray) : Lib.byteCells s.data.toList = rowL s.size (P.sb s) := by
  apply List.ext_getElem?
  intro j
  by_cases hj : j < s.size
  · have h' : j < s.data.toList.length := by rw [Array.length_toList]; exact hj
    rw [rowL_get hj]
    simp only [Lib.byteCells, List.getElem?_map, List.getElem?_eq_getElem h', Option.map_some, P.sb]
    have : s.data.getD j 0 = s.data.toList[j] := by
      have hj' : j < s.data.size := hj
      rw [Array.getD_eq_getD_getElem?, Array.getElem?_eq_getElem hj', Array.getElem_toList]
      rfl
    rw [this]
    rfl
  · rw [List.getElem?_eq_none (by rw [Lib.byteCells_length, Array.length_toList]; exact Nat.le_of_not_lt hj), List.getElem?_eq_none (by rw [rowL_length]; omega)]
/-- 'copy(b[off:], s)'. -/
theorem slice_copy {V : World} {bx : Nat} {b : P.Bd} {off : Int} {s : ByteArray} (hb : Blk V bx (row 64 b) 54) (h0 : 0 ≤ off) (h1 : off ≤ 64) (h2 : (s.size : Int) ≤ 64 - off) (ty : TypeId) :
    ∃ sv, (∀ w, (Instr.sliceAt 54 (.pointer (some ⟨bx, 0, none⟩)) (some (.int .i64 off)) none none).run Try.prog w = .ok sv w) ∧
      ∃ w9, (Builtin.copy_ #[40, 9] ty #[sv, .string s]).run Try.prog V = .ok (goInt s.size) w9 ∧ Blk w9 bx (row 64 (P.cpy b off.toNat s)) 54 ∧ Fr (fun i => i = bx) V w9 := by
  obtain ⟨a, rfl⟩ := Int.eq_ofNat_of_zero_le h0
  rw [Int.toNat_natCast]
  by_cases ha : a < 64
  · refine ⟨_, fun w => run_slice_l (P := Try.prog) Try.underlying54 size5 (b := bx) (lo := a) (kl := .i64) (L := (a : Int)) rfl ha w, V.setRow bx (row 64 (P.cpy b a s)), ?_, hb.setRow _, (Fr.refl _ _).setRow _ _ fun _ => rfl⟩
    rw [Lib.run_copy_row_string V 40 9 ty 5 bx a (64 - a) (64 - a) s (row 64 b) 54 Try.underlying40 size5 hb (by omega) (by rw [row_size]; omega)]
    congr 2
    rw [byteCells_row, List.append_assoc]
    show ((rowL 64 b).take a ++ (rowL s.size _ ++ (rowL 64 b).drop (a + s.size))).toArray = _
    have := rowL_splice (n := 64) (f := b) (o := a) (m := s.size) (g := P.sb s) (s := 0) (by omega)
    simp only [Nat.zero_add] at this
    rw [this]
    refine congrArg List.toArray (rowL_congr fun j hj => ?_)
    unfold lay P.cpy
    simp
  · obtain rfl : a = 64 := by omega
    have hs0 : s.size = 0 := by omega
    refine ⟨.slice (some ⟨bx, 0, none⟩) 0 0, fun w => ?_, V, ?_, ?_, Fr.refl _ _⟩
    · obtain ⟨i, hi', hz⟩ := Option.map_eq_some_iff.1 size5
      have e2 := fun code w => bound_in (P := Try.prog) (k := .i64) (x := ((64 : Nat) : Int)) (y := 64) (z := 64) (code := code) (w := w) rfl (Nat.le_refl _)
      have e3 : ∀ code w, (Instr.sliceBound (.int .i64 64) 64 code).run Try.prog w = .ok 64 w := e2
      simp [Instr.sliceAt, Instr.sureAddr, Instr.sliceBounds, run_underlying Try.underlying54, e3, sizeOf, typeInfo, hi', hz, add_at]
    · rw [Lib.run_copy_empty_string V 40 9 ty 5 _ 0 0 s Try.underlying40 (by rw [size5]; rfl) hs0, hs0]
      rfl
    · rw [show row 64 (P.cpy b 64 s) = row 64 b from row_congr fun j hj => by unfold P.cpy; rw [if_neg (by omega)]]
      exact hb
end Go.Proofs.Ytnemaolbmocncaa
