/- The state of the document's Of; counts. -/
import Derived.Test.YtnemaolbmocncaaOfW
import Derived.Test.YtnemaolbmocncaaReaQ
namespace Go.Proofs.Ytnemaolbmocncaa
open Go.RowKit
set_option linter.unusedSimpArgs false
set_option linter.unusedVariables false
attribute [local irreducible] wpList
section
attribute [local irreducible] tdL
set_option maxRecDepth 100000 in
set_option maxHeartbeats 4000000 in
theorem rcounts_any (x : Tr) (w : World) : Calls Try.prog 31 #[.agg (tdL x).toArray] w fun e w' => e = .returned (.bool x.t.cnt) ∧ Below w.heap.size w w' := by
  have hbx : Blk (w.alloc (.cells (tdL x).toArray 61)) w.heap.size (tdL x).toArray 61 := Blk.alloc_new _ _ _
  have al := (Below.refl w.heap.size w).alloc (Nat.le_refl _) (.cells (tdL x).toArray 61)
  go_enter Try.func31, Try.ntmps31
  go_upto_region 1 with (fail)
  generalize w.alloc (.cells (tdL x).toArray 61) = V at *
  have f9 := to_ hbx
  have f10 := te hbx
  cases hop : x.t.opn with
  | true =>
    have HR : Hid (x.t.cnt = false) := by unfold Hid P.Td.cnt; rw [hop]; rfl
    rw [hop] at f9
    clear hop
    refine no_implicit_lambda% (wp_region_lit ?_)
    refine no_implicit_lambda% (wpl_val ?_ rfl ?_ ?_)
    rotate_left
    · (go_simp; (try with_reducible rfl))
    (try simp only [Act.put, Z1, Z2, Z4, Z5, Z6])
    refine no_implicit_lambda% (wpl_val ?_ rfl ?_ ?_)
    rotate_left
    · (have c0 := f9; go_simp; (try with_reducible rfl))
    (try simp only [Act.put, Z1, Z2, Z3, Z4, Z5, Z6])
    iterate 2
      refine no_implicit_lambda% (wpl_val ?_ rfl ?_ ?_)
      rotate_left
      · (go_simp; (try with_reducible rfl))
      (try simp only [Act.put, Z1, Z2, Z3, Z4, Z5, Z6])
    iterate 4
      refine no_implicit_lambda% (wpl_skip rfl ?_)
      (try simp only [Act.put, Z1, Z2, Z3, Z4, Z5, Z6])
    iterate 2
      refine no_implicit_lambda% (wpl_val ?_ rfl ?_ ?_)
      rotate_left
      · (go_simp; (try with_reducible rfl))
      (try simp only [Act.put, Z1, Z2, Z3, Z4, Z5, Z6])
    refine no_implicit_lambda% (wpList_nil ?_)
    go_wp2_with fail
    go_ret
    rw [HR.out]
    exact ⟨rfl, al⟩
  | false =>
    have HR : Hid (x.t.cnt = (x.t.err == 0)) := by unfold Hid P.Td.cnt; rw [hop]; simp
    rw [hop] at f9
    clear hop
    refine no_implicit_lambda% (wp_region_lit ?_)
    refine no_implicit_lambda% (wpl_val ?_ rfl ?_ ?_)
    rotate_left
    · (go_simp; (try with_reducible rfl))
    (try simp only [Act.put, Z1, Z2, Z4, Z5, Z6])
    refine no_implicit_lambda% (wpl_val ?_ rfl ?_ ?_)
    rotate_left
    · (have c0 := f9; go_simp; (try with_reducible rfl))
    (try simp only [Act.put, Z1, Z2, Z3, Z4, Z5, Z6])
    iterate 4
      refine no_implicit_lambda% (wpl_val ?_ rfl ?_ ?_)
      rotate_left
      · (go_simp; (try with_reducible rfl))
      (try simp only [Act.put, Z1, Z2, Z3, Z4, Z5, Z6])
    refine no_implicit_lambda% (wpl_val ?_ rfl ?_ ?_)
    rotate_left
    · (have c0 := f10; go_simp; (try with_reducible rfl))
    (try simp only [Act.put, Z1, Z2, Z3, Z4, Z5, Z6])
    iterate 3
      refine no_implicit_lambda% (wpl_val ?_ rfl ?_ ?_)
      rotate_left
      · (go_simp; (try with_reducible rfl))
      (try simp only [Act.put, Z1, Z2, Z3, Z4, Z5, Z6])
    refine no_implicit_lambda% (wpList_nil ?_)
    go_wp2_with fail
    go_ret
    rw [HR.out]
    exact ⟨rfl, al⟩
end
/-- What stands while a transaction is gathered: nothing from block bx on but its own. -/
structure QO (w W : World) (l : Value) (Rl : List Rec) (bx : Nat) : Prop where
  below : Below w.heap.size w W
  own : OwnH w.heap.size W l Rl
  lo : w.heap.size ≤ bx ∧ bx ≤ W.heap.size
  lt : (∀ b, l.ownBlock = some b → b < bx) ∧ ∀ x ∈ Rl, ∀ b, vblk x.2.1 = some b ∨ vblk x.2.2 = some b → b < bx
section
variable {w W W' : World} {l : Value} {Rl : List Rec} {bx : Nat}
theorem QO.gen (h : QO w W l Rl bx) {S : Nat → Prop} (k : Fr S W W') (hS : ∀ i, S i → bx ≤ i) : QO w W' l Rl bx := by
  have hlo := h.lo
  exact ⟨Fr.below h.below k (Nat.le_refl _) fun i hi => by have := hS i hi; omega, ⟨own_fr h.own.own k fun b hb e => by have := h.lt.1 b hb; have := hS _ e; omega, fun x hx => (h.own.sub x hx).fr k fun b hb e => by have := h.lt.2 x hx b hb; have := hS _ e; omega, h.own.apart⟩, ⟨hlo.1, Nat.le_trans hlo.2 k.size⟩, h.lt⟩
theorem QO.go (h : QO w W l Rl bx) (k : Below W.heap.size W W') : QO w W' l Rl bx := h.gen (Fr.of_below k fun _ => False) fun _ e => e.elim
theorem QO.start (hb : Below w.heap.size w W) (ho : OwnH w.heap.size W l Rl) : QO w W l Rl W.heap.size :=
  ⟨hb, ho, ⟨hb.size, Nat.le_refl _⟩, fun b e => (ho.own.lt b e).2, fun x hx b e => (ho.sub x hx).lt e⟩
end
/-- .. and the box with its two rows, behind the box of the beginning. -/
structure QX (w W : World) (l : Value) (Rl : List Rec) (bx n5 : Nat) (x : Tr) (a : P.Pst) (rv wv : Value) : Prop where
  so : QO w W l Rl bx
  b5 : Blk W n5 (tdL x).toArray 61
  l5 : n5 < bx
  box : Blk W bx (pcA (a, rv, wv)) 36
  rd : W.ownsRow (bx + 1) 43 2 rv a.reads.length (a.reads.flatMap seC)
  wt : W.ownsRow (bx + 1) 41 1 wv a.writes.length (a.writes.flatMap pgC)
  ne : ∀ b, rv.ownBlock = some b → wv.ownBlock ≠ some b
section
variable {w W W' W1 : World} {l : Value} {Rl : List Rec} {bx n5 : Nat} {x : Tr} {a : P.Pst} {rv wv : Value}
theorem QX.go (h : QX w W l Rl bx n5 x a rv wv) (k : Below W.heap.size W W') : QX w W' l Rl bx n5 x a rv wv :=
  ⟨h.so.go k, h.b5.below k, h.l5, h.box.below k, own_fr h.rd (Fr.of_below k fun _ => False) (fun _ _ e => e), own_fr h.wt (Fr.of_below k fun _ => False) (fun _ _ e => e), h.ne⟩
theorem QX.putR (h : QX w W l Rl bx n5 x a rv wv) {rv' : Value} {u : Int × Int}
    (own : W1.ownsRow (bx + 1) 43 2 rv' (a.reads.length + 1) (a.reads.flatMap seC ++ seC u)) (gr : W.grownBy W1 rv.ownBlock) (hl : rv'.ownBlock = rv.ownBlock ∨ rv'.ownBlock = some W.heap.size) :
    QX w (W1.setCell ⟨bx, 3, none⟩ rv') l Rl bx n5 x { a with reads := a.reads ++ [u] } rv' wv := by
  have k1 := Fr.of_grown gr
  have k2 : Fr (fun i => i = bx) W1 (W1.setCell ⟨bx, 3, none⟩ rv') := (Fr.refl _ _).setCell _ _ fun _ => rfl
  have hr := fun b (hb : rv.ownBlock = some b) => (h.rd.lt b hb).1
  have hw := fun b (hb : wv.ownBlock = some b) => h.wt.lt b hb
  have hbx := h.box.lt
  have h5 := h.l5
  have hr' : ∀ b, rv'.ownBlock = some b → bx < b := fun b hb => by
    rcases hl with e | e
    · exact hr b (e ▸ hb)
    · rw [hb] at e; have := Option.some.inj e; omega
  refine ⟨(h.so.gen k1 fun i e => by have := hr i e; omega).gen k2 fun i e => by omega, (h.b5.fr k1 fun e => by have := hr n5 e; omega).fr k2 (by omega), h5, ?_, ?_, own_fr (own_fr h.wt k1 fun b hb e => h.ne b e hb) k2 fun b hb e => by have := (hw b hb).1; omega, fun b hb e => ?_⟩
  · exact box_set (h.box.fr k1 fun e => by have := hr bx e; omega) 3 rv'
  · show World.ownsRow _ _ _ _ _ (a.reads ++ [u]).length ((a.reads ++ [u]).flatMap seC)
    rw [List.length_append, List.flatMap_append]
    exact own_fr (by simpa using own) k2 fun b hb e => by have := hr' b hb; omega
  · rcases hl with e1 | e1
    · exact h.ne b (e1 ▸ hb) e
    · rw [hb] at e1; have := Option.some.inj e1; have := (hw b e).2; omega
theorem QX.putW (h : QX w W l Rl bx n5 x a rv wv) {wv' : Value} {u : Int}
    (own : W1.ownsRow (bx + 1) 41 1 wv' (a.writes.length + 1) (a.writes.flatMap pgC ++ pgC u)) (gr : W.grownBy W1 wv.ownBlock) (hl : wv'.ownBlock = wv.ownBlock ∨ wv'.ownBlock = some W.heap.size) :
    QX w (W1.setCell ⟨bx, 4, none⟩ wv') l Rl bx n5 x { a with writes := a.writes ++ [u] } rv wv' := by
  have k1 := Fr.of_grown gr
  have k2 : Fr (fun i => i = bx) W1 (W1.setCell ⟨bx, 4, none⟩ wv') := (Fr.refl _ _).setCell _ _ fun _ => rfl
  have hr := fun b (hb : rv.ownBlock = some b) => h.rd.lt b hb
  have hw := fun b (hb : wv.ownBlock = some b) => (h.wt.lt b hb).1
  have hbx := h.box.lt
  have h5 := h.l5
  have hw' : ∀ b, wv'.ownBlock = some b → bx < b := fun b hb => by
    rcases hl with e | e
    · exact hw b (e ▸ hb)
    · rw [hb] at e; have := Option.some.inj e; omega
  refine ⟨(h.so.gen k1 fun i e => by have := hw i e; omega).gen k2 fun i e => by omega, (h.b5.fr k1 fun e => by have := hw n5 e; omega).fr k2 (by omega), h5, ?_, own_fr (own_fr h.rd k1 fun b hb e => h.ne b hb e) k2 fun b hb e => by have := (hr b hb).1; omega, ?_, fun b hb e => ?_⟩
  · exact box_set (h.box.fr k1 fun e => by have := hw bx e; omega) 4 wv'
  · show World.ownsRow _ _ _ _ _ (a.writes ++ [u]).length ((a.writes ++ [u]).flatMap pgC)
    rw [List.length_append, List.flatMap_append]
    exact own_fr (by simpa using own) k2 fun b hb e => by have := hw' b hb; omega
  · rcases hl with e1 | e1
    · exact h.ne b hb (e1 ▸ e)
    · rw [e] at e1; have := Option.some.inj e1; have := (hr b hb).2; omega
theorem QX.set (h : QX w W l Rl bx n5 x a rv wv) (j : Nat) (u : Value) {a' : P.Pst} (hc : (pcA (a, rv, wv)).setIfInBounds j u = pcA (a', rv, wv)) (h1 : a'.reads = a.reads) (h2 : a'.writes = a.writes) :
    QX w (W.setCell ⟨bx, j, none⟩ u) l Rl bx n5 x a' rv wv := by
  have k2 : Fr (fun i => i = bx) W (W.setCell ⟨bx, j, none⟩ u) := (Fr.refl _ _).setCell _ _ fun _ => rfl
  have h5 := h.l5
  exact ⟨h.so.gen k2 fun i e => by omega, h.b5.fr k2 (by omega), h5, by rw [← hc]; exact box_set h.box j u, by rw [h1]; exact own_fr h.rd k2 fun b hb e => by have := (h.rd.lt b hb).1; omega,
    by rw [h2]; exact own_fr h.wt k2 fun b hb e => by have := (h.wt.lt b hb).1; omega, h.ne⟩
end
/-- The rest of a list of what was told. -/
theorem rest_row {W : World} {b o cap k : Nat} {T : List Tr} (h : RowAt W (some ⟨b, o, none⟩) 77 tdL T) (hc : T.length ≤ cap) : RowAt W (some ⟨b, (if cap = k + 1 then o else o + (k + 1) * 77), none⟩) 77 tdL (T.drop (k + 1)) := fun j x hx => by
  rw [List.getElem?_drop] at hx
  have hl := (List.getElem?_eq_some_iff.1 hx).1
  obtain ⟨b', o', e, h1, h2⟩ := h _ x hx
  injection e with e
  injection e with e1 e2
  subst e1; subst e2
  rw [if_neg (by omega)]
  refine ⟨_, _, rfl, h1, ?_⟩
  rw [show o + (k + 1) * 77 + j * 77 = o + (k + 1 + j) * 77 by omega]
  exact h2
theorem rof_drop {T : List Tr} {k : Nat} {x : Tr} (hx : T[k]? = some x) : P.rof (tds (T.drop k)) = if x.t.cnt = true ∧ x.t.kind = 0 then P.rgo x.t (tds (T.drop (k + 1))) :: P.rof (tds (T.drop (k + 1))) else P.rof (tds (T.drop (k + 1))) := by
  have hl := (List.getElem?_eq_some_iff.1 hx).1
  have e : T.drop k = x :: T.drop (k + 1) := by rw [List.drop_eq_getElem_cons hl, (List.getElem?_eq_some_iff.1 hx).2]
  rw [e]; rfl
theorem ral_drop {D : List Tr} {m : Nat} {y : Tr} (hy : D[m]? = some y) (b : P.Td) (s : P.Pst × Bool) : (tds (D.drop m)).foldl (P.ral b) s = (tds (D.drop (m + 1))).foldl (P.ral b) (P.ral b s y.t) := by
  have hl := (List.getElem?_eq_some_iff.1 hy).1
  have e : D.drop m = y :: D.drop (m + 1) := by rw [List.drop_eq_getElem_cons hl, (List.getElem?_eq_some_iff.1 hy).2]
  rw [e]; rfl
theorem ral_done (L : List P.Td) (b : P.Td) (a : P.Pst) : L.foldl (P.ral b) (a, true) = (a, true) := by
  induction L with
  | nil => rfl
  | cons t L ih => rw [List.foldl_cons, P.ral_end, ih]
end Go.Proofs.Ytnemaolbmocncaa
