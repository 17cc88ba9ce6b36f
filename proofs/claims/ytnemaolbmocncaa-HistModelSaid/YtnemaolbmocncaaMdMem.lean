/- The machine in memory. -/
import Derived.Test.YtnemaolbmocncaaProg
import Derived.WalkKit
import Derived.Outline
import Derived.IntWalk
import Derived.WalkLawsBesides
import Derived.LoopTactic
import Derived.Laws.MakeOwn
import Derived.Deep.DeepCutAuto
import Derived.BigQuiet
import Derived.Deep.MidRow
import Derived.Test.YtnemaolbmocncaaMdP
import Derived.Test.YtnemaolbmocncaaHM
import Derived.Test.YtnemaolbmocncaaRegK
import Derived.Test.YtnemaolbmocncaaMapI
import Derived.Great.BuildSlice
import Derived.Deep.LoopGhost
namespace Go.Proofs.Ytnemaolbmocncaa
open Go.RowKit
set_option linter.unusedSimpArgs false
set_option linter.unusedVariables false
/-! ### Versions and replies as cells -/
def verC (v : P.Vr) : List Value := .int .u32 v.ts :: rowL 64 v.b
def verA (v : P.Vr) : Array Value := (verC v).toArray
def rpA (r : P.Rp) : Array Value := (.int .i64 r.e :: .int .u64 r.txn :: .int .u32 r.ts :: rowL 64 r.b).toArray
def clA (c : P.Cl) : Array Value := #[.int .u8 c.kind, .int .u64 c.txn, .int .u16 c.page, .int .i64 c.off, .string c.s]
def flatV (l : List P.Vr) : List Value := l.flatMap verC
theorem verC_length (v : P.Vr) : (verC v).length = 65 := by simp [verC, rowL_length]
theorem verA_size (v : P.Vr) : (verA v).size = 65 := by simp [verA, verC_length]
theorem rpA_size (r : P.Rp) : (rpA r).size = 67 := by simp [rpA, rowL_length]
theorem verC_one (v : P.Vr) : ∀ u ∈ verC v, u.oneCell' = true := by
  intro u hu
  rcases List.mem_cons.1 hu with rfl | hu
  · rfl
  · exact rowL_one _ _ u hu
theorem verA_one (v : P.Vr) : (verA v).all (·.oneCell') = true := Array.all_eq_true_iff_forall_mem.2 fun u hu => verC_one v u (by simpa [verA] using hu)
theorem rpA_one (r : P.Rp) : (rpA r).all (·.oneCell') = true := Array.all_eq_true_iff_forall_mem.2 fun u hu => by
  have hu' : u ∈ (.int .i64 r.e :: .int .u64 r.txn :: .int .u32 r.ts :: rowL 64 r.b : List Value) := by simpa [rpA] using hu
  simp only [List.mem_cons] at hu'
  rcases hu' with rfl | rfl | rfl | hu'
  · rfl
  · rfl
  · rfl
  · exact rowL_one _ _ u hu'
theorem flatV_length (l : List P.Vr) : (flatV l).length = l.length * 65 := by
  induction l with
  | nil => rfl
  | cons v l ih => show (verC v ++ flatV l).length = _; rw [List.length_append, ih, verC_length]; simp; omega
theorem flatV_append (l l' : List P.Vr) : flatV (l ++ l') = flatV l ++ flatV l' := List.flatMap_append
theorem flatV_one (l : List P.Vr) : ∀ u ∈ flatV l, u.oneCell' = true := by
  intro u hu
  obtain ⟨v, _, hv⟩ := List.mem_flatMap.1 hu
  exact verC_one v u hv
theorem flatV_get {l : List P.Vr} {i : Nat} {v : P.Vr} (h : l[i]? = some v) {j : Nat} (hj : j < 65) : (flatV l)[i * 65 + j]? = (verC v)[j]? := by
  induction l generalizing i with
  | nil => cases h
  | cons x l ih =>
    show (verC x ++ flatV l)[i * 65 + j]? = _
    cases i with
    | zero =>
      obtain rfl : x = v := by simpa using h
      rw [List.getElem?_append_left (by rw [verC_length]; omega)]
      congr 1; omega
    | succ i =>
      rw [List.getElem?_append_right (by rw [verC_length]; omega), verC_length, show (i + 1) * 65 + j - 65 = i * 65 + j by omega]
      exact ih (by simpa using h)
theorem verA_eq {v u : P.Vr} : verA v = verA u ↔ v.ts = u.ts ∧ ∀ j, j < 64 → v.b j = u.b j := by
  constructor
  · intro h
    have h2 : verC v = verC u := by simpa [verA] using h
    simp only [verC, List.cons.injEq, Value.int.injEq, true_and] at h2
    exact ⟨by omega, rowL_inj h2.2⟩
  · rintro ⟨h1, h2⟩
    unfold verA verC
    rw [h1, rowL_congr h2]
theorem rpA_eq {r s : P.Rp} : rpA r = rpA s ↔ r.e = s.e ∧ r.txn = s.txn ∧ r.ts = s.ts ∧ ∀ j, j < 64 → r.b j = s.b j := by
  constructor
  · intro h
    have h2 : (Value.int .i64 r.e :: .int .u64 r.txn :: .int .u32 r.ts :: rowL 64 r.b : List Value) = .int .i64 s.e :: .int .u64 s.txn :: .int .u32 s.ts :: rowL 64 s.b := by simpa [rpA] using h
    simp only [List.cons.injEq, Value.int.injEq, true_and] at h2
    exact ⟨h2.1, h2.2.1, by omega, rowL_inj h2.2.2.2⟩
  · rintro ⟨h1, h2, h3, h4⟩
    unfold rpA
    rw [h1, h2, h3, rowL_congr h4]
/-! ### Facts of the program's table -/
theorem zero44' : (Try.prog.info? 99).map (fun i => (i.zero, i.size)) = some (some (.agg (verA ⟨0, P.zb⟩)), 65) := by kernel_rfl
theorem zero40' : (Try.prog.info? 56).map (fun i => (i.zero, i.size)) = some (some (.agg (rpA ⟨0, 0, 0, P.zb⟩)), 67) := by kernel_rfl
theorem zero38' : (Try.prog.info? 54).map (fun i => (i.zero, i.size)) = some (some (.agg (row 64 P.zb)), 64) := by kernel_rfl
theorem zero44 : (∀ w, (zeroValue 99).run Try.prog w = .ok (.agg (verA ⟨0, P.zb⟩)) w) ∧ (Try.prog.info? 99).map (·.size) = some 65 := zero_of_info zero44'
theorem zero40 : (∀ w, (zeroValue 56).run Try.prog w = .ok (.agg (rpA ⟨0, 0, 0, P.zb⟩)) w) ∧ (Try.prog.info? 56).map (·.size) = some 67 := zero_of_info zero40'
theorem zero38 : (∀ w, (zeroValue 54).run Try.prog w = .ok (.agg (row 64 P.zb)) w) ∧ (Try.prog.info? 54).map (·.size) = some 64 := zero_of_info zero38'
theorem zero65 : ∀ w, (zeroValue 102).run Try.prog w = .ok (.slice none 0 0) w := fun w => by kernel_rfl
theorem zero59 : ∀ w, (zeroValue 91).run Try.prog w = .ok (.pointer none) w := fun w => by kernel_rfl
theorem info44 : (Try.prog.info? 99).map (fun i => (i.zero, i.size, i.bytes)) = some (some (.agg (verA ⟨0, P.zb⟩)), 65, 68) := by kernel_rfl
/-! ### The machine -/
structure MW where
  c : Nat
  o : Nat
  l : Nat
  rows : List (Int × Value × List P.Vr)
  txs : List (Int × Nat × Nat × P.Tx)
inductive Lb where
  | c | o | l | row (p : Int) | tx (k : Int) | nw (k : Int)
/-- What block b is for. -/
def MW.at (m : MW) : Lb → Nat → Prop
  | .c, b => b = m.c
  | .o, b => b = m.o
  | .l, b => b = m.l
  | .row p, b => ∃ x, (p, x) ∈ m.rows ∧ x.1.ownBlock = some b
  | .tx k, b => ∃ x, (k, x) ∈ m.txs ∧ b = x.1
  | .nw k, b => ∃ x, (k, x) ∈ m.txs ∧ b = x.2.1
def MW.own (m : MW) (b : Nat) : Prop := ∃ lb, m.at lb b
structure TxAt (w : World) (t n : Nat) (T : P.Tx) : Prop where
  t : Blk w t #[.int .u32 T.start, .map (some n)] 94
  n : MapAt w n .u16 (T.now.map fun p => (p.1, .agg (row 64 p.2)))
structure MS (base : Nat) (w : World) (m : MW) (M : P.Md) : Prop where
  c : Blk w m.c #[.int .i64 M.pages, .int .u32 M.last, .int .u32 M.max, .int .u64 M.count, .map (some m.o), .map (some m.l), .bool M.shut] 90
  o : MapAt w m.o .u16 (m.rows.map fun x => (x.1, x.2.1))
  rows : ∀ x ∈ m.rows, w.ownsRow base 99 65 x.2.1 x.2.2.length (flatV x.2.2)
  old : ∀ p, M.old p = match get m.rows p with | some x => x.2 | none => []
  l : MapAt w m.l .u64 (m.txs.map fun x => (x.1, .pointer (some ⟨x.2.1, 0, none⟩)))
  live : M.live = m.txs.map fun x => (x.1, x.2.2.2)
  tx : ∀ x ∈ m.txs, TxAt w x.2.1 x.2.2.1 x.2.2.2
  nd : ∀ lb lb' b, m.at lb b → m.at lb' b → lb = lb'
  lo : ∀ lb b, m.at lb b → base ≤ b
section
variable {base : Nat} {w w' : World} {m : MW} {M : P.Md}
theorem TxAt.fr {t n : Nat} {T : P.Tx} (h : TxAt w t n T) {S : Nat → Prop} (k : Fr S w w') (h1 : ¬ S t) (h2 : ¬ S n) : TxAt w' t n T := ⟨h.t.fr k h1, h.n.fr k h2⟩
theorem MW.mem_row {x : Int × Value × List P.Vr} (hx : x ∈ m.rows) {b : Nat} (hb : x.2.1.ownBlock = some b) : m.own b := ⟨.row x.1, x.2, hx, hb⟩
theorem MW.mem_tx {x : Int × Nat × Nat × P.Tx} (hx : x ∈ m.txs) : m.own x.2.1 ∧ m.own x.2.2.1 := ⟨⟨.tx x.1, x.2, hx, rfl⟩, ⟨.nw x.1, x.2, hx, rfl⟩⟩
theorem MS.fr (h : MS base w m M) {S : Nat → Prop} (k : Fr S w w') (hn : ∀ b, m.own b → ¬ S b) : MS base w' m M :=
  ⟨h.c.fr k (hn _ ⟨.c, rfl⟩), h.o.fr k (hn _ ⟨.o, rfl⟩), fun x hx => own_fr (h.rows x hx) k fun b hb => hn b (MW.mem_row hx hb), h.old, h.l.fr k (hn _ ⟨.l, rfl⟩), h.live, fun x hx => (h.tx x hx).fr k (hn _ (MW.mem_tx hx).1) (hn _ (MW.mem_tx hx).2), h.nd, h.lo⟩
theorem MS.go (h : MS base w m M) (k : Below w.heap.size w w') : MS base w' m M := h.fr (Fr.of_below k fun _ => False) fun _ _ h => h
theorem MS.drew (h : MS base w m M) : MS base w.drew m M := h.go (Below.refl _ _).drew
theorem MS.alloc (h : MS base w m M) (o : Obj) : MS base (w.alloc o) m M := h.go ((Below.refl _ _).alloc (Nat.le_refl _) _)
theorem MS.lt (h : MS base w m M) : ∀ b, m.own b → b < w.heap.size := by
  rintro b ⟨lb, hb⟩
  cases lb with
  | c => obtain rfl := hb; exact h.c.lt
  | o => obtain rfl := hb; exact h.o.lt
  | l => obtain rfl := hb; exact h.l.lt
  | row p => obtain ⟨x, hx, hb⟩ := hb; exact ((h.rows _ hx).lt b hb).2
  | tx k => obtain ⟨x, hx, rfl⟩ := hb; exact (h.tx _ hx).t.lt
  | nw k => obtain ⟨x, hx, rfl⟩ := hb; exact (h.tx _ hx).n.lt
theorem MS.c0 (h : MS base w m M) : w.cell? ⟨m.c, 0, none⟩ = some (.int .i64 M.pages) := by rw [h.c.cell]; rfl
theorem MS.c1 (h : MS base w m M) : w.cell? ⟨m.c, 1, none⟩ = some (.int .u32 M.last) := by rw [h.c.cell]; rfl
theorem MS.c2 (h : MS base w m M) : w.cell? ⟨m.c, 2, none⟩ = some (.int .u32 M.max) := by rw [h.c.cell]; rfl
theorem MS.c3 (h : MS base w m M) : w.cell? ⟨m.c, 3, none⟩ = some (.int .u64 M.count) := by rw [h.c.cell]; rfl
theorem MS.c4 (h : MS base w m M) : w.cell? ⟨m.c, 4, none⟩ = some (.map (some m.o)) := by rw [h.c.cell]; rfl
theorem MS.c5 (h : MS base w m M) : w.cell? ⟨m.c, 5, none⟩ = some (.map (some m.l)) := by rw [h.c.cell]; rfl
theorem MS.c6 (h : MS base w m M) : w.cell? ⟨m.c, 6, none⟩ = some (.bool M.shut) := by rw [h.c.cell]; rfl
theorem get_map {α β : Type} (l : List (Int × α)) (f : α → β) (k : Int) : get (l.map fun x => (x.1, f x.2)) k = (get l k).map f := by
  induction l with
  | nil => rfl
  | cons p l ih =>
    simp only [List.map_cons]
    unfold get
    split
    · rfl
    · exact ih
end
/-- The versions of a page, looked up. -/
def MW.val (m : MW) (p : Int) : Value := match get m.rows p with | some x => x.1 | none => .slice none 0 0
theorem MS.look {base : Nat} {w : World} {m : MW} {M : P.Md} (h : MS base w m M) (p : Int) : (Instr.lookup 87 (.map (some m.o)) (.int .u16 p) false).run Try.prog w = .ok (m.val p) w := by
  have hl := run_lookupA (P := Try.prog) Try.underlying87 Try.underlying41 h.o p (zero65 w) false
  rw [get_map] at hl
  unfold MW.val
  cases hg : get m.rows p with
  | none => rw [hg] at hl; exact hl
  | some x => rw [hg] at hl; exact hl
theorem MS.val {base : Nat} {w : World} {m : MW} {M : P.Md} (h : MS base w m M) (p : Int) : w.ownsRow base 99 65 (m.val p) (M.old p).length (flatV (M.old p)) ∧ ∀ b, (m.val p).ownBlock = some b → m.at (.row p) b := by
  rw [h.old p]
  unfold MW.val
  cases hg : get m.rows p with
  | none => exact ⟨World.ownsRow_nil _ _ _ _, fun b hb => by cases hb⟩
  | some x =>
    have hm := get_mem hg
    exact ⟨h.rows _ hm, fun b hb => ⟨x, hm, hb⟩⟩
/-- A field of the machine's own block is written. -/
theorem MS.setC {base : Nat} {w : World} {m : MW} {M M' : P.Md} (h : MS base w m M) (i : Nat) (v : Value) (ho : M'.old = M.old) (hl : M'.live = M.live)
    (hc : (#[.int .i64 M.pages, .int .u32 M.last, .int .u32 M.max, .int .u64 M.count, .map (some m.o), .map (some m.l), .bool M.shut] : Array Value).setIfInBounds i v = #[.int .i64 M'.pages, .int .u32 M'.last, .int .u32 M'.max, .int .u64 M'.count, .map (some m.o), .map (some m.l), .bool M'.shut]) :
    MS base (w.setCell ⟨m.c, i, none⟩ v) m M' ∧ Fr (fun b => b = m.c) w (w.setCell ⟨m.c, i, none⟩ v) := by
  have k : Fr (fun b => b = m.c) w (w.setCell ⟨m.c, i, none⟩ v) := (Fr.refl _ _).setCell _ _ fun _ => rfl
  have nS : ∀ lb b, m.at lb b → lb ≠ .c → b ≠ m.c := fun lb b hb hne e => hne (h.nd _ _ b hb (show m.at .c b from e))
  refine ⟨⟨?_, h.o.fr k (nS .o _ rfl (by simp)), fun x hx => own_fr (h.rows x hx) k fun b hb => nS (.row x.1) b ⟨x.2, hx, hb⟩ (by simp), by rw [ho]; exact h.old, h.l.fr k (nS .l _ rfl (by simp)), by rw [hl]; exact h.live,
    fun x hx => (h.tx x hx).fr k (nS (.tx x.1) _ ⟨x.2, hx, rfl⟩ (by simp)) (nS (.nw x.1) _ ⟨x.2, hx, rfl⟩ (by simp)), h.nd, h.lo⟩, k⟩
  rw [h.c.setCell, hc]
  exact h.c.setRow _
section
variable {P : Program} {ops : Array Oper} {rest : List Oper} {o : Oper} {a : Act} {w : World} {Q : Exit → Act → World → Prop}
end
theorem size44 (v : P.Vr) : (Try.prog.info? 99).map (·.size) = some (verA v).size := by rw [verA_size]; exact zero44.2
theorem size40 (r : P.Rp) : (Try.prog.info? 56).map (·.size) = some (rpA r).size := by rw [rpA_size]; exact zero40.2
theorem size38 (b : P.Bd) : (Try.prog.info? 54).map (·.size) = some (row 64 b).size := by rw [row_size]; exact zero38.2
section
variable {P : Program} {ops : Array Oper} {rest : List Oper} {o : Oper} {a : Act} {w : World} {Q : Exit → Act → World → Prop}
end
theorem b40 : Try.prog.built 56 [] = some (rpA ⟨0, 0, 0, P.zb⟩) := by kernel_rfl
theorem b40_0 (x : Int) : Try.prog.built 56 [(0, .int .i64 x)] = some (rpA ⟨x, 0, 0, P.zb⟩) := by kernel_rfl
theorem b40_2 (x : Nat) : Try.prog.built 56 [(2, .int .u32 x)] = some (rpA ⟨0, 0, x, P.zb⟩) := by kernel_rfl
theorem b40_12 (x : Int) (y : Nat) : Try.prog.built 56 [(1, .int .u64 x), (2, .int .u32 y)] = some (rpA ⟨0, x, y, P.zb⟩) := by kernel_rfl
theorem b40_23 (y : Nat) (b : P.Bd) : Try.prog.built 56 [(2, .int .u32 y), (3, .agg (row 64 b))] = some (rpA ⟨0, 0, y, b⟩) := by kernel_rfl
theorem b44_01 (y : Nat) (b : P.Bd) : Try.prog.built 99 [(0, .int .u32 y), (1, .agg (row 64 b))] = some (verA ⟨y, b⟩) := by kernel_rfl
theorem b62_01 (y : Nat) (n : Nat) : Try.prog.built 94 [(0, .int .u32 y), (1, .map (some n))] = some #[.int .u32 y, .map (some n)] := by kernel_rfl
/-- A version is laid behind a page's. -/
theorem MS.putRow {base : Nat} {w w' : World} {m : MW} {M : P.Md} (h : MS base w m M) {S : Nat → Prop} (k : Fr S w w') (p : Int) {v v' : Value} {vs : List P.Vr}
    (hv : ∀ b, v.ownBlock = some b → m.at (.row p) b) (hS : ∀ b, S b → v.ownBlock = some b ∨ b = m.o)
    (ho : MapAt w' m.o .u16 (put (m.rows.map fun x => (x.1, x.2.1)) p v')) (hr : w'.ownsRow base 99 65 v' vs.length (flatV vs)) (hl : v'.ownBlock = v.ownBlock ∨ ∀ b, v'.ownBlock = some b → w.heap.size ≤ b) :
    MS base w' { m with rows := put m.rows p (v', vs) } { M with old := fun q => if q = p then vs else M.old q } ∧ ∀ b, MW.own { m with rows := put m.rows p (v', vs) } b → m.own b ∨ w.heap.size ≤ b := by
  have nS : ∀ lb b, m.at lb b → lb ≠ .row p → lb ≠ .o → ¬ S b := fun lb b hb h1 h2 hs => by
    rcases hS b hs with e | e
    · exact h1 (h.nd _ _ b hb (hv b e))
    · exact h2 (h.nd _ _ b hb e)
  have keys : (m.rows.map (·.1)).Nodup := by
    have := h.o.keys
    rw [List.map_map] at this
    exact this
  have mp : ∀ x, x ∈ put m.rows p (v', vs) → x = (p, v', vs) ∨ (x ∈ m.rows ∧ x.1 ≠ p) := by
    intro x hx
    rcases P.mem_putA hx with e | e
    · exact .inl e
    · by_cases hp : x.1 = p
      · have h1 := get_of_mem (put_keys keys p (v', vs)) (k := x.1) (b := x.2) hx
        rw [get_put, if_pos hp] at h1
        exact .inl (by rw [← hp, Option.some.inj h1])
      · exact .inr ⟨e, hp⟩
  have newAt : ∀ lb b, MW.at { m with rows := put m.rows p (v', vs) } lb b → m.at lb b ∨ (lb = .row p ∧ w.heap.size ≤ b) := by
    intro lb b hb
    cases lb with
    | c => exact .inl hb
    | o => exact .inl hb
    | l => exact .inl hb
    | tx k => exact .inl hb
    | nw k => exact .inl hb
    | row q =>
      obtain ⟨x, hx, hb⟩ := hb
      rcases mp _ hx with e | ⟨e, e2⟩
      · simp only [Prod.mk.injEq] at e
        obtain ⟨rfl, rfl⟩ := e
        rcases hl with e3 | e3
        · exact .inl (hv b (e3 ▸ hb))
        · exact .inr ⟨rfl, e3 b hb⟩
      · exact .inl ⟨x, e, hb⟩
  refine ⟨?_, fun b ⟨lb, hb⟩ => (newAt lb b hb).imp (fun e => ⟨lb, e⟩) fun e => e.2⟩
  refine ⟨h.c.fr k (nS .c _ rfl (by simp) (by simp)), ?_, ?_, ?_, h.l.fr k (nS .l _ rfl (by simp) (by simp)), h.live, fun x hx => (h.tx x hx).fr k (nS (.tx x.1) _ ⟨x.2, hx, rfl⟩ (by simp) (by simp)) (nS (.nw x.1) _ ⟨x.2, hx, rfl⟩ (by simp) (by simp)), ?_, ?_⟩
  · have key : ∀ l : List (Int × Value × List P.Vr), (put l p (v', vs)).map (fun x => (x.1, x.2.1)) = put (l.map fun x => (x.1, x.2.1)) p v' := fun l => by
      induction l with
      | nil => rfl
      | cons x l ih =>
        simp only [List.map_cons]
        unfold put
        split
        · rfl
        · rw [List.map_cons, ih]
    show MapAt w' m.o .u16 ((put m.rows p (v', vs)).map _)
    rw [key]; exact ho
  · intro x hx
    rcases mp x hx with rfl | ⟨e, e2⟩
    · exact hr
    · exact own_fr (h.rows x e) k fun b hb => nS (.row x.1) b ⟨x.2, e, hb⟩ (by simpa using e2) (by simp)
  · intro q
    show (if q = p then vs else M.old q) = _
    show _ = match get (put m.rows p (v', vs)) q with | some x => x.2 | none => []
    rw [get_put]
    split
    · rfl
    · exact h.old q
  · intro lb lb' b h1 h2
    rcases newAt _ _ h1 with e1 | ⟨rfl, e1⟩
    · rcases newAt _ _ h2 with e2 | ⟨rfl, e2⟩
      · exact h.nd _ _ b e1 e2
      · have := h.lt b ⟨_, e1⟩; omega
    · rcases newAt _ _ h2 with e2 | ⟨rfl, e2⟩
      · have := h.lt b ⟨_, e2⟩; omega
      · rfl
  · intro lb b hb
    rcases newAt _ _ hb with e | ⟨rfl, e⟩
    · exact h.lo _ _ e
    · have := h.c.lt; have := h.lo .c _ rfl; omega
section
variable {P : Program} {ops : Array Oper} {Q : Exit → Act → World → Prop} {S : World → Prop} {fuel : Nat} {listed : Array Bool} {a : Act} {w : World} {k : Nat}
end
theorem look_of {w : World} {m : MW} (h : MapAt w m.o .u16 (m.rows.map fun x => (x.1, x.2.1))) (p : Int) : (Instr.lookup 87 (.map (some m.o)) (.int .u16 p) false).run Try.prog w = .ok (m.val p) w := by
  have hl := run_lookupA (P := Try.prog) Try.underlying87 Try.underlying41 h p (zero65 w) false
  rw [get_map] at hl
  unfold MW.val
  cases hg : get m.rows p with
  | none => rw [hg] at hl; exact hl
  | some x => rw [hg] at hl; exact hl
end Go.Proofs.Ytnemaolbmocncaa
