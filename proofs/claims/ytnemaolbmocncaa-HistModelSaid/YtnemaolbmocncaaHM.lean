/- Histories in memory: rows that are read, maps of versions and of pairs. -/
import Derived.Test.YtnemaolbmocncaaHP
import Derived.Test.YtnemaolbmocncaaProg
import Derived.Test.YtnemaolbmocncaaPl
import Derived.Test.YtnemaolbmocncaaRowV
import Derived.Test.YtnemaolbmocncaaSpl
import Derived.Test.YtnemaolbmocncaaWl
import Derived.Outline
import Derived.IntWalk
import Derived.WalkLawsBesides
import Derived.LoopTactic
import Derived.Laws.MakeOwn
import Derived.Laws.StructEq
import Derived.Deep.DeepCutAuto
import Derived.Deep.MidRow
import Derived.Deep.LoopGhost
import Derived.Great.BuildSlice
import Derived.Great.Ranges
namespace Go.Proofs.Ytnemaolbmocncaa
open Go.RowKit
set_option linter.unusedSimpArgs false
set_option linter.unusedVariables false
/-! ### Rows that are read -/
/-- At ao lie the elements of L, each of sz cells. -/
def RowAt {α : Type} (w : World) (ao : Option Addr) (sz : Nat) (f : α → List Value) (L : List α) : Prop := ∀ i x, L[i]? = some x → ∃ b o, ao = some ⟨b, o, none⟩ ∧ b < w.heap.size ∧ w.rangeAt b (o + i * sz) (f x)
theorem RowAt.fr {α : Type} {w w' : World} {ao : Option Addr} {sz : Nat} {f : α → List Value} {L : List α} (h : RowAt w ao sz f L) {S : Nat → Prop} (k : Fr S w w') (hn : ∀ a, ao = some a → L ≠ [] → ¬ S a.block) : RowAt w' ao sz f L := fun i x hx => by
  obtain ⟨b, o, e, hl, hr⟩ := h i x hx
  have hne : L ≠ [] := fun e => by rw [e] at hx; cases hx
  refine ⟨b, o, e, Nat.lt_of_lt_of_le hl k.size, fun j u hu => ?_⟩
  have hb := k.block b hl (hn _ e hne)
  have := hr j u hu
  unfold World.cell? at this ⊢
  simp only [] at this ⊢
  rw [hb]
  exact this
theorem RowAt.below {α : Type} {w w' : World} {ao : Option Addr} {sz : Nat} {f : α → List Value} {L : List α} (h : RowAt w ao sz f L) (k : Below w.heap.size w w') : RowAt w' ao sz f L := h.fr (Fr.of_below k fun _ => False) fun _ _ _ e => e
theorem RowAt.take {α : Type} {w : World} {ao : Option Addr} {sz : Nat} {f : α → List Value} {L : List α} (h : RowAt w ao sz f L) (n : Nat) : RowAt w ao sz f (L.take n) := fun i x hx => by
  rw [List.getElem?_take] at hx
  split at hx
  · exact h i x hx
  · cases hx
theorem RowAt.at' {α : Type} {w : World} {b o : Nat} {sz : Nat} {f : α → List Value} {L : List α} (h : RowAt w (some ⟨b, o, none⟩) sz f L) {i : Nat} {x : α} (hx : L[i]? = some x) : b < w.heap.size ∧ w.rangeAt b (o + i * sz) (f x) := by
  obtain ⟨b', o', e, h1, h2⟩ := h i x hx
  simp only [Option.some.injEq, Addr.mk.injEq] at e
  obtain ⟨rfl, rfl, _⟩ := e
  exact ⟨h1, h2⟩
theorem RowAt.nil {α : Type} (w : World) (ao : Option Addr) (sz : Nat) (f : α → List Value) : RowAt w ao sz f [] := fun i x hx => by cases hx
/-- A row's value. -/
def RowIn {α : Type} (w : World) (v : Value) (sz : Nat) (f : α → List Value) (L : List α) : Prop := ∃ ao cap, v = .slice ao L.length cap ∧ (L.length ≤ cap ∧ (ao = none → cap = 0)) ∧ RowAt w ao sz f L
/-- The block of a row that isn't empty. -/
def vblk : Value → Option Nat
  | .slice (some a) (_ + 1) _ => some a.block
  | _ => none
theorem RowIn.fr {α : Type} {w w' : World} {v : Value} {sz : Nat} {f : α → List Value} {L : List α} (h : RowIn w v sz f L) {S : Nat → Prop} (k : Fr S w w') (hn : ∀ b, vblk v = some b → ¬ S b) : RowIn w' v sz f L := by
  obtain ⟨ao, cap, rfl, hc, hr⟩ := h
  refine ⟨ao, cap, rfl, hc, hr.fr k fun a e hne => hn _ ?_⟩
  rw [e]
  cases L with
  | nil => exact absurd rfl hne
  | cons x L => rfl
theorem RowIn.lt {α : Type} {w : World} {v : Value} {sz : Nat} {f : α → List Value} {L : List α} (h : RowIn w v sz f L) {b : Nat} (hb : vblk v = some b) : b < w.heap.size := by
  obtain ⟨ao, cap, rfl, hc, hr⟩ := h
  cases L with
  | nil => cases ao <;> cases hb
  | cons x L =>
    obtain ⟨b', o, e, hl, _⟩ := hr 0 x rfl
    subst e
    obtain rfl : b' = b := Option.some.inj hb
    exact hl
theorem RowIn.below {α : Type} {w w' : World} {v : Value} {sz : Nat} {f : α → List Value} {L : List α} (h : RowIn w v sz f L) (k : Below w.heap.size w w') : RowIn w' v sz f L := h.fr (Fr.of_below k fun _ => False) fun _ _ e => e
/-! ### Transactions as cells -/
def seC (v : Int × Int) : List Value := [.int .u16 v.1, .int .u32 v.2]
def pgC (p : Int) : List Value := [.int .u16 p]
abbrev Rec := P.Pst × Value × Value
def pcL (x : Rec) : List Value := [.int .u32 x.1.start, .int .u32 x.1.commit, .bool x.1.done, x.2.1, x.2.2]
def pcA (x : Rec) : Array Value := #[.int .u32 x.1.start, .int .u32 x.1.commit, .bool x.1.done, x.2.1, x.2.2]
def wU16 (x : Int) : Prop := (Lit.int .u16 x).wf = true
def wU32 (x : Int) : Prop := (Lit.int .u32 x).wf = true
theorem wU32.le {x : Int} (h : wU32 x) : 0 ≤ x := by
  unfold wU32 at h
  simp [Lit.wf, IntKind.min, IntKind.max, IntKind.bits, IntKind.signed] at h; omega
/-- What the numbers of a transaction are. -/
structure Pok (a : P.Pst) : Prop where
  start : wU32 a.start
  commit : wU32 a.commit
  reads : ∀ v ∈ a.reads, wU16 v.1 ∧ wU32 v.2
  writes : ∀ p ∈ a.writes, wU16 p
  rl : a.reads.length ≤ 1000
  wl : a.writes.length ≤ 1000
structure SubAt (w : World) (x : Rec) : Prop where
  rd : RowIn w x.2.1 2 seC x.1.reads
  wt : RowIn w x.2.2 1 pgC x.1.writes
  ok : Pok x.1
theorem SubAt.fr {w w' : World} {x : Rec} (h : SubAt w x) {S : Nat → Prop} (k : Fr S w w') (hn : ∀ b, vblk x.2.1 = some b ∨ vblk x.2.2 = some b → ¬ S b) : SubAt w' x := ⟨h.rd.fr k fun b hb => hn b (.inl hb), h.wt.fr k fun b hb => hn b (.inr hb), h.ok⟩
theorem SubAt.below {w w' : World} {x : Rec} (h : SubAt w x) (k : Below w.heap.size w w') : SubAt w' x := ⟨h.rd.below k, h.wt.below k, h.ok⟩
/-- A history that is read. -/
structure HAt (w : World) (ao : Option Addr) (R : List Rec) : Prop where
  row : RowAt w ao 5 pcL R
  sub : ∀ x ∈ R, SubAt w x
theorem HAt.below {w w' : World} {ao : Option Addr} {R : List Rec} (h : HAt w ao R) (k : Below w.heap.size w w') : HAt w' ao R := ⟨h.row.below k, fun x hx => (h.sub x hx).below k⟩
theorem HAt.take {w : World} {ao : Option Addr} {R : List Rec} (h : HAt w ao R) (n : Nat) : HAt w ao (R.take n) := ⟨h.row.take n, fun x hx => h.sub x (List.mem_of_mem_take hx)⟩
theorem HAt.some {w : World} {ao : Option Addr} {R : List Rec} (h : HAt w ao R) : 0 < R.length → ∃ b o, ao = .some ⟨b, o, none⟩ := fun h0 => by
  obtain ⟨b, o, e, _⟩ := h.row 0 R[0] (List.getElem?_eq_getElem h0)
  exact ⟨b, o, e⟩
/-- The history itself. -/
abbrev his (R : List Rec) : List P.Pst := R.map (·.1)
theorem his_get {R : List Rec} {i : Nat} {x : Rec} (h : R[i]? = some x) : (his R)[i]? = some x.1 := by rw [List.getElem?_map, h]; rfl
theorem his_length (R : List Rec) : (his R).length = R.length := List.length_map _
/-! ### Facts of the program's table -/
theorem zero36' : (Try.prog.info? 36).map (fun i => (i.zero, i.size)) = some (some (.agg (pcA (⟨0, 0, false, [], []⟩, .slice none 0 0, .slice none 0 0))), 5) := by kernel_rfl
def noR : Rec := (⟨0, 0, false, [], []⟩, .slice none 0 0, .slice none 0 0)
theorem zero36 : (∀ w, (zeroValue 36).run Try.prog w = .ok (.agg (pcA noR)) w) ∧ (Try.prog.info? 36).map (·.size) = some 5 := zero_of_info zero36'
theorem zero43' : (Try.prog.info? 43).map (fun i => (i.zero, i.size)) = some (some (.agg #[.int .u16 0, .int .u32 0]), 2) := by kernel_rfl
theorem zero43 : (∀ w, (zeroValue 43).run Try.prog w = .ok (.agg #[.int .u16 0, .int .u32 0]) w) ∧ (Try.prog.info? 43).map (·.size) = some 2 := zero_of_info zero43'
theorem zero72' : (Try.prog.info? 72).map (fun i => (i.zero, i.size)) = some (some (.agg #[.int .i64 0, .int .i64 0]), 2) := by kernel_rfl
theorem zero72 : (∀ w, (zeroValue 72).run Try.prog w = .ok (.agg #[.int .i64 0, .int .i64 0]) w) ∧ (Try.prog.info? 72).map (·.size) = some 2 := zero_of_info zero72'
theorem size36 (x : Rec) : (Try.prog.info? 36).map (·.size) = some (pcA x).size := zero36.2
theorem size36' (x : Rec) : (Try.prog.info? 36).map (·.size) = some (pcL x).length := zero36.2
theorem RowIn.one {α : Type} {w : World} {v : Value} {sz : Nat} {f : α → List Value} {L : List α} (h : RowIn w v sz f L) : v.oneCell' = true := by
  obtain ⟨ao, cap, rfl, _⟩ := h
  rfl
theorem SubAt.one {w : World} {x : Rec} (h : SubAt w x) : (pcA x).all (·.oneCell') = true := by
  have h1 := h.rd.one
  have h2 := h.wt.one
  refine Array.all_eq_true_iff_forall_mem.2 fun u hu => ?_
  simp only [pcA, List.mem_toArray, List.mem_cons, List.not_mem_nil, or_false] at hu
  rcases hu with rfl | rfl | rfl | rfl | rfl
  · rfl
  · rfl
  · rfl
  · exact h1
  · exact h2
/-! ### Maps -/
def encS (k : Int × Int) : Value := .agg #[.int .u16 k.1, .int .u32 k.2]
def encE (k : Int × Int) : Value := .agg #[.int .i64 k.1, .int .i64 k.2]
def DS (k : Int × Int) : Prop := wU16 k.1 ∧ wU32 k.2
def wI64 (x : Int) : Prop := (Lit.int .i64 x).wf = true
def DE (k : Int × Int) : Prop := wI64 k.1 ∧ wI64 k.2
theorem lits_int {t : TypeId} {q : IntKind} (hu : Try.prog.underlying t = some (.int q)) {n : Int} (h : (Lit.int q n).wf = true) (D : Nat) : Try.prog.keyLits (D + 1) t [.int q n] = some [.int q n] := by
  simp [Program.keyLits, hu, h]
theorem lits43 {a b : Int} (ha : wU16 a) (hb : wU32 b) : Try.prog.keyLits 2 43 [.int .u16 a, .int .u32 b] = some [.int .u16 a, .int .u32 b] := by
  have c43 : Try.prog.cellsOf 43 = 2 := by kernel_rfl
  have c41 : Try.prog.cellsOf 41 = 1 := by kernel_rfl
  have c32 : Try.prog.cellsOf 32 = 1 := by kernel_rfl
  have l1 := lits_int Try.underlying41 ha 0
  have l2 := lits_int Try.underlying32 hb 0
  unfold Program.keyLits
  rw [Try.underlying43]
  simp only [c43, c41, c32, List.length_cons, List.length_nil, List.mapM_cons, List.mapM_nil, List.drop_zero, List.take_succ_cons, List.take_zero, List.drop_succ_cons, l1, l2]
  rw [if_pos ⟨by decide, by decide +kernel⟩]
  simp
theorem lits72 {a b : Int} (ha : wI64 a) (hb : wI64 b) : Try.prog.keyLits 2 72 [.int .i64 a, .int .i64 b] = some [.int .i64 a, .int .i64 b] := by
  have c72 : Try.prog.cellsOf 72 = 2 := by kernel_rfl
  have c3 : Try.prog.cellsOf 3 = 1 := by kernel_rfl
  have l1 := lits_int Try.underlying3 ha 0
  have l2 := lits_int Try.underlying3 hb 0
  unfold Program.keyLits
  rw [Try.underlying72]
  simp [c72, c3, l1, l2, List.range, List.range.loop]
theorem eqS (a b : Int × Int) (w : World) (ha : DS a) (hb : DS b) : (Op.equal 43 (encS a) (encS b)).run Try.prog w = .ok (decide (a = b)) w := by
  have f : ∀ k : Int × Int, (encS k).formed Try.prog 43 = true := fun k => by kernel_rfl
  obtain ⟨r, h1, h2⟩ := run_equalIn_deep (P := Try.prog) 9998 2 43 (by kernel_rfl) w 2 2 (encS a) (encS b) _ _ (f a) (f b) (lits43 ha.1 ha.2) (lits43 hb.1 hb.2)
  have e : r = decide (a = b) := by
    have : (r = true) ↔ a = b := h2.trans (by simp [Prod.ext_iff])
    cases r <;> simp at this <;> simp [this]
  rw [← e]
  exact h1
theorem eqE (a b : Int × Int) (w : World) (ha : DE a) (hb : DE b) : (Op.equal 72 (encE a) (encE b)).run Try.prog w = .ok (decide (a = b)) w := by
  have f : ∀ k : Int × Int, (encE k).formed Try.prog 72 = true := fun k => by kernel_rfl
  obtain ⟨r, h1, h2⟩ := run_equalIn_deep (P := Try.prog) 9998 2 72 (by kernel_rfl) w 2 2 (encE a) (encE b) _ _ (f a) (f b) (lits72 ha.1 ha.2) (lits72 hb.1 hb.2)
  have e : r = decide (a = b) := by
    have : (r = true) ↔ a = b := h2.trans (by simp [Prod.ext_iff])
    cases r <;> simp at this <;> simp [this]
  rw [← e]
  exact h1
theorem lawS : G.KeyLaw Try.prog 43 encS DS where
  wide := by rw [Try.underlying43]
  inj := fun a b h => by simp [encS] at h; exact Prod.ext h.1 h.2
  eq := fun a b w ha hb => eqS a b w ha hb
  chk := fun a e w => by kernel_rfl
  stay := fun a w => by simp [Instr.keyThatStays, encS, Instr.sameBits]
theorem lawE : G.KeyLaw Try.prog 72 encE DE where
  wide := by rw [Try.underlying72]
  inj := fun a b h => by simp [encE] at h; exact Prod.ext h.1 h.2
  eq := fun a b w ha hb => eqE a b w ha hb
  chk := fun a e w => by kernel_rfl
  stay := fun a w => by simp [Instr.keyThatStays, encE, Instr.sameBits]
theorem zero3 : ∀ w, (zeroValue 3).run Try.prog w = .ok (.int .i64 0) w := fun w => by kernel_rfl
theorem zero4 : ∀ w, (zeroValue 4).run Try.prog w = .ok (.bool false) w := fun w => by kernel_rfl
/-- A set of pairs of places. -/
abbrev Ed := Nat × Nat
def eI (e : Ed) : Int × Int := (e.1, e.2)
def edg (S : List Ed) : List ((Int × Int) × Value) := S.map fun e => (eI e, .bool true)
def SetAt (w : World) (r : Nat) (S : List Ed) : Prop := G.MapAt w r encE (edg S) ∧ ∀ e ∈ S, e.1 ≤ 1000 ∧ e.2 ≤ 1000
theorem eI_inj {a b : Ed} (h : eI a = eI b) : a = b := by
  simp only [eI, Prod.mk.injEq] at h
  exact Prod.ext (by omega) (by omega)
theorem de_of {e : Ed} (h : e.1 ≤ 1000 ∧ e.2 ≤ 1000) : DE (eI e) := by
  constructor <;> (unfold wI64 eI; simp [Lit.wf, IntKind.min, IntKind.max, IntKind.bits, IntKind.signed]; omega)
theorem edg_get (S : List Ed) (e : Ed) : G.get (edg S) (eI e) = if e ∈ S then some (.bool true) else none := by
  induction S with
  | nil => rfl
  | cons a S ih =>
    show (if eI a = eI e then some (Value.bool true) else G.get (edg S) (eI e)) = _
    by_cases h : a = e
    · subst h; simp
    · rw [if_neg (fun h' => h (eI_inj h')), ih]
      simp [List.mem_cons, Ne.symm h]
theorem edg_put (S : List Ed) (e : Ed) : G.put (edg S) (eI e) (.bool true) = edg (P.ins S e) := by
  induction S with
  | nil => rfl
  | cons a S ih =>
    show (if eI a = eI e then (eI e, Value.bool true) :: edg S else (eI a, Value.bool true) :: G.put (edg S) (eI e) (.bool true)) = _
    by_cases h : a = e
    · subst h
      rw [if_pos rfl]
      unfold P.ins
      rw [if_pos (by simp)]
      rfl
    · rw [if_neg (fun h' => h (eI_inj h')), ih]
      unfold P.ins
      by_cases h2 : e ∈ S
      · rw [if_pos h2, if_pos (by simp [h2])]; rfl
      · rw [if_neg h2, if_neg (by simp [h2, Ne.symm h])]; rfl
theorem SetAt.fr {w w' : World} {r : Nat} {S : List Ed} (h : SetAt w r S) {T : Nat → Prop} (k : Fr T w w') (hn : ¬ T r) : SetAt w' r S := ⟨h.1.fr k hn, h.2⟩
theorem SetAt.below {w w' : World} {r : Nat} {S : List Ed} (h : SetAt w r S) (k : Below w.heap.size w w') : SetAt w' r S := h.fr (Fr.of_below k fun _ => False) id
theorem SetAt.lt {w : World} {r : Nat} {S : List Ed} (h : SetAt w r S) : r < w.heap.size := h.1.lt
theorem SetAt.dom {w : World} {r : Nat} {S : List Ed} (h : SetAt w r S) : ∀ p ∈ edg S, DE p.1 := fun p hp => by
  obtain ⟨e, he, rfl⟩ := List.mem_map.1 hp
  exact de_of (h.2 e he)
theorem SetAt.look {w : World} {r : Nat} {S : List Ed} (h : SetAt w r S) {i k : Nat} (hi : i ≤ 1000) (hk : k ≤ 1000) : (Instr.lookup 66 (.map (some r)) (.agg #[.int .i64 i, .int .i64 k]) false).run Try.prog w = .ok (.bool (decide ((i, k) ∈ S))) w := by
  have hl := G.run_lookupA (P := Try.prog) Try.underlying66 lawE h.1 h.dom (k := eI (i, k)) (de_of ⟨hi, hk⟩) (zero4 w) false
  rw [edg_get] at hl
  refine hl.trans ?_
  by_cases h2 : (i, k) ∈ S <;> simp [h2]
theorem SetAt.put {w : World} {r : Nat} {S : List Ed} (h : SetAt w r S) {i k : Nat} (hi : i ≤ 1000) (hk : k ≤ 1000) :
    ∃ w', (Instr.mapUpdate 66 (.map (some r)) (.agg #[.int .i64 i, .int .i64 k]) (.bool true)).run Try.prog w = .ok () w' ∧ SetAt w' r (P.ins S (i, k)) ∧ Fr (fun b => b = r) w w' := by
  obtain ⟨w', h1, h2, h3⟩ := G.run_updateA (P := Try.prog) Try.underlying66 lawE h.1 h.dom (k := eI (i, k)) (de_of ⟨hi, hk⟩) (.bool true)
  rw [edg_put] at h2
  refine ⟨w', h1, ⟨h2, fun e he => ?_⟩, h3⟩
  rcases P.mem_ins.1 he with e1 | rfl
  · exact h.2 e e1
  · exact ⟨hi, hk⟩
theorem SetAt.made (w : World) : SetAt (w.alloc (.map #[] 0)) w.heap.size [] := ⟨G.MapAt.made w encE, fun e he => by cases he⟩
theorem SetAt.nodup {w : World} {r : Nat} {S : List Ed} (h : SetAt w r S) : S.Nodup := by
  have := h.1.keys
  unfold edg at this
  rw [List.map_map] at this
  exact (List.pairwise_map.1 this).imp fun h e => h (by rw [e])
/-- Who has committed which version. -/
def idx (B : List ((Int × Int) × Nat)) : List ((Int × Int) × Value) := B.map fun x => (x.1, .int .i64 x.2)
def IdxAt (w : World) (r : Nat) (B : List ((Int × Int) × Nat)) : Prop := G.MapAt w r encS (idx B) ∧ (∀ x ∈ B, DS x.1) ∧ ∀ x ∈ B, x.2 ≤ 1000
theorem idx_get (B : List ((Int × Int) × Nat)) (k : Int × Int) : G.get (idx B) k = (G.get B k).map fun (i : Nat) => Value.int .i64 i := by
  induction B with
  | nil => rfl
  | cons a B ih =>
    show (if a.1 = k then some (Value.int .i64 a.2) else G.get (idx B) k) = (if a.1 = k then some a.2 else G.get B k).map _
    split
    · rfl
    · exact ih
theorem idx_put (B : List ((Int × Int) × Nat)) (k : Int × Int) (i : Nat) : G.put (idx B) k (.int .i64 i) = idx (G.put B k i) := by
  induction B with
  | nil => rfl
  | cons a B ih =>
    show (if a.1 = k then (k, Value.int .i64 i) :: idx B else (a.1, Value.int .i64 a.2) :: G.put (idx B) k (.int .i64 i)) = idx (if a.1 = k then (k, i) :: B else a :: G.put B k i)
    split
    · rfl
    · rw [ih]; rfl
theorem IdxAt.fr {w w' : World} {r : Nat} {B : List ((Int × Int) × Nat)} (h : IdxAt w r B) {T : Nat → Prop} (k : Fr T w w') (hn : ¬ T r) : IdxAt w' r B := ⟨h.1.fr k hn, h.2⟩
theorem IdxAt.below {w w' : World} {r : Nat} {B : List ((Int × Int) × Nat)} (h : IdxAt w r B) (k : Below w.heap.size w w') : IdxAt w' r B := h.fr (Fr.of_below k fun _ => False) id
theorem IdxAt.lt {w : World} {r : Nat} {B : List ((Int × Int) × Nat)} (h : IdxAt w r B) : r < w.heap.size := h.1.lt
theorem IdxAt.dom {w : World} {r : Nat} {B : List ((Int × Int) × Nat)} (h : IdxAt w r B) : ∀ p ∈ idx B, DS p.1 := fun p hp => by
  obtain ⟨e, he, rfl⟩ := List.mem_map.1 hp
  exact h.2.1 e he
theorem IdxAt.keys {w : World} {r : Nat} {B : List ((Int × Int) × Nat)} (h : IdxAt w r B) : (B.map (·.1)).Nodup := by
  have := h.1.keys
  unfold idx at this
  rw [List.map_map] at this
  exact this
theorem IdxAt.look {w : World} {r : Nat} {B : List ((Int × Int) × Nat)} (h : IdxAt w r B) {v : Int × Int} (hv : DS v) :
    (Instr.lookup 65 (.map (some r)) (.agg #[.int .u16 v.1, .int .u32 v.2]) true).run Try.prog w = .ok (.tuple #[.int .i64 ((G.get B v).getD 0 : Nat), .bool (G.get B v).isSome]) w := by
  have hl := G.run_lookupA (P := Try.prog) Try.underlying65 lawS h.1 h.dom hv (zero3 w) true
  rw [idx_get] at hl
  refine hl.trans ?_
  cases G.get B v <;> simp
theorem IdxAt.put {w : World} {r : Nat} {B : List ((Int × Int) × Nat)} (h : IdxAt w r B) {v : Int × Int} (hv : DS v) {i : Nat} (hi : i ≤ 1000) :
    ∃ w', (Instr.mapUpdate 65 (.map (some r)) (.agg #[.int .u16 v.1, .int .u32 v.2]) (.int .i64 i)).run Try.prog w = .ok () w' ∧ IdxAt w' r (G.put B v i) ∧ Fr (fun b => b = r) w w' := by
  obtain ⟨w', h1, h2, h3⟩ := G.run_updateA (P := Try.prog) Try.underlying65 lawS h.1 h.dom hv (.int .i64 i)
  rw [idx_put] at h2
  have hm : ∀ x ∈ G.put B v i, x = (v, i) ∨ x ∈ B := fun x hx => by
    clear h1 h2 h3 h
    induction B with
    | nil => exact .inl (by simpa [G.put] using hx)
    | cons p l ih =>
      unfold G.put at hx
      split at hx
      · rcases List.mem_cons.1 hx with e | e
        · exact .inl e
        · exact .inr (List.mem_cons_of_mem _ e)
      · rcases List.mem_cons.1 hx with e | e
        · exact .inr (by rw [e]; exact List.mem_cons_self)
        · rcases ih e with e | e
          · exact .inl e
          · exact .inr (List.mem_cons_of_mem _ e)
  refine ⟨w', h1, ⟨h2, fun x hx => ?_, fun x hx => ?_⟩, h3⟩
  · rcases hm x hx with rfl | e
    · exact hv
    · exact h.2.1 x e
  · rcases hm x hx with rfl | e
    · exact hi
    · exact h.2.2 x e
theorem IdxAt.made (w : World) : IdxAt (w.alloc (.map #[] 0)) w.heap.size [] := ⟨G.MapAt.made w encS, fun e he => (by cases he), fun e he => by cases he⟩
theorem map_eraseIdx {α γ : Type} (f : α → γ) (l : List α) (i : Nat) : (l.eraseIdx i).map f = (l.map f).eraseIdx i := by
  induction l generalizing i with
  | nil => rfl
  | cons a l ih => cases i with
    | zero => rfl
    | succ i => simp [ih]
theorem mem_eraseIdx_nd {α : Type} {l : List α} (hn : l.Nodup) {j : Nat} {q x : α} (hq : l[j]? = some q) : x ∈ l.eraseIdx j ↔ x ∈ l ∧ x ≠ q := by
  induction l generalizing j with
  | nil => cases hq
  | cons a l ih =>
    have hn' := List.nodup_cons.1 hn
    cases j with
    | zero =>
      obtain rfl : a = q := by simpa using hq
      simp only [List.eraseIdx_cons_zero, List.mem_cons]
      constructor
      · intro h; exact ⟨.inr h, fun e => hn'.1 (e ▸ h)⟩
      · rintro ⟨h | h, h2⟩
        · exact absurd h h2
        · exact h
    | succ j =>
      have hq' : l[j]? = some q := by simpa using hq
      simp only [List.eraseIdx_cons_succ, List.mem_cons, ih hn'.2 hq']
      have hqm := List.mem_of_getElem? hq'
      constructor
      · rintro (rfl | ⟨h1, h2⟩)
        · exact ⟨.inl rfl, fun e => hn'.1 (e ▸ hqm)⟩
        · exact ⟨.inr h1, h2⟩
      · rintro ⟨rfl | h1, h2⟩
        · exact .inl rfl
        · exact .inr ⟨h1, h2⟩
/-- A loop over the versions: T is still to come. -/
def IxIt (w : World) (i r : Nat) (B T : List ((Int × Int) × Nat)) : Prop := G.ItAt w i r encS (idx B) (idx T)
theorem IxIt.fr {w w' : World} {i r : Nat} {B T : List ((Int × Int) × Nat)} (h : IxIt w i r B T) {S : Nat → Prop} (k : Fr S w w') (hr : ¬ S r) (hi : ¬ S i) : IxIt w' i r B T := G.ItAt.fr h k hr hi
theorem IxIt.below {w w' : World} {i r : Nat} {B T : List ((Int × Int) × Nat)} (h : IxIt w i r B T) (k : Below w.heap.size w w') : IxIt w' i r B T := h.fr (Fr.of_below k fun _ => False) id id
theorem IdxAt.range {w : World} {r : Nat} {B : List ((Int × Int) × Nat)} (h : IdxAt w r B) : ∃ w', (Instr.range 65 (.map (some r))).run Try.prog w = .ok (.pointer (some ⟨w.heap.size, 0, none⟩)) w' ∧ IxIt w' w.heap.size r B B ∧ Below w.heap.size w w' ∧ w'.heap.size = w.heap.size + 1 := by
  obtain ⟨w', h1, h2, o, rfl⟩ := G.run_rangeA (P := Try.prog) Try.underlying65 h.1
  exact ⟨_, h1, h2, (Below.refl _ _).alloc (Nat.le_refl _) _, by simp⟩
theorem IxIt.next {w : World} {i r : Nat} {B T : List ((Int × Int) × Nat)} (h : IxIt w i r B T) (hne : i ≠ r) :
    (T = [] ∧ ∀ ty, (Instr.next (.pointer (some ⟨i, 0, none⟩)) false ty).run Try.prog w = .ok (.tuple #[.bool false]) w) ∨
    ∃ j q w', T[j]? = some q ∧ q ∈ B ∧ (∀ ty, (Instr.next (.pointer (some ⟨i, 0, none⟩)) false ty).run Try.prog w = .ok (.tuple #[.bool true, .agg #[.int .u16 q.1.1, .int .u32 q.1.2], .int .i64 q.2]) w') ∧ IxIt w' i r B (T.eraseIdx j) ∧ Fr (fun k => k = i) w w' ∧
      (Instr.entry (.pointer (some ⟨i, 0, none⟩))).run Try.prog w' = .ok (.tuple #[.agg #[.int .u16 q.1.1, .int .u32 q.1.2], .int .i64 q.2]) w' := by
  rcases G.run_nextA (P := Try.prog) lawS.inj h hne 0 with ⟨h0, hrun⟩ | ⟨j, p, w', hj, hpA, hrun, hI, hF, hent⟩
  · exact .inl ⟨by simpa [idx] using h0, fun ty => hrun⟩
  · unfold idx at hj
    rw [List.getElem?_map] at hj
    obtain ⟨q, h1, rfl⟩ := Option.map_eq_some_iff.1 hj
    refine .inr ⟨j, q, w', h1, ?_, fun ty => hrun, ?_, hF, hent⟩
    · obtain ⟨q', hq', e⟩ := List.mem_map.1 hpA
      simp only [Prod.mk.injEq, Value.int.injEq, true_and] at e
      obtain rfl : q' = q := Prod.ext e.1 (by omega)
      exact hq'
    · unfold IxIt idx
      rw [map_eraseIdx]
      exact hI
/-- A loop over a set of pairs. -/
def EdIt (w : World) (i r : Nat) (B T : List Ed) : Prop := G.ItAt w i r encE (edg B) (edg T)
theorem EdIt.fr {w w' : World} {i r : Nat} {B T : List Ed} (h : EdIt w i r B T) {S : Nat → Prop} (k : Fr S w w') (hr : ¬ S r) (hi : ¬ S i) : EdIt w' i r B T := G.ItAt.fr h k hr hi
theorem EdIt.below {w w' : World} {i r : Nat} {B T : List Ed} (h : EdIt w i r B T) (k : Below w.heap.size w w') : EdIt w' i r B T := h.fr (Fr.of_below k fun _ => False) id id
theorem SetAt.range {w : World} {r : Nat} {B : List Ed} (h : SetAt w r B) : ∃ w', (Instr.range 66 (.map (some r))).run Try.prog w = .ok (.pointer (some ⟨w.heap.size, 0, none⟩)) w' ∧ EdIt w' w.heap.size r B B ∧ Below w.heap.size w w' ∧ w'.heap.size = w.heap.size + 1 := by
  obtain ⟨w', h1, h2, o, rfl⟩ := G.run_rangeA (P := Try.prog) Try.underlying66 h.1
  exact ⟨_, h1, h2, (Below.refl _ _).alloc (Nat.le_refl _) _, by simp⟩
theorem EdIt.next {w : World} {i r : Nat} {B T : List Ed} (h : EdIt w i r B T) (hne : i ≠ r) :
    (T = [] ∧ ∀ ty, (Instr.next (.pointer (some ⟨i, 0, none⟩)) false ty).run Try.prog w = .ok (.tuple #[.bool false]) w) ∨
    ∃ j q w', T[j]? = some q ∧ q ∈ B ∧ (∀ ty, (Instr.next (.pointer (some ⟨i, 0, none⟩)) false ty).run Try.prog w = .ok (.tuple #[.bool true, .agg #[.int .i64 q.1, .int .i64 q.2], .bool true]) w') ∧ EdIt w' i r B (T.eraseIdx j) ∧ Fr (fun k => k = i) w w' ∧
      (Instr.entry (.pointer (some ⟨i, 0, none⟩))).run Try.prog w' = .ok (.tuple #[.agg #[.int .i64 q.1, .int .i64 q.2], .bool true]) w' := by
  rcases G.run_nextA (P := Try.prog) lawE.inj h hne 0 with ⟨h0, hrun⟩ | ⟨j, p, w', hj, hpA, hrun, hI, hF, hent⟩
  · exact .inl ⟨by simpa [edg] using h0, fun ty => hrun⟩
  · unfold edg at hj
    rw [List.getElem?_map] at hj
    obtain ⟨q, h1, rfl⟩ := Option.map_eq_some_iff.1 hj
    refine .inr ⟨j, q, w', h1, ?_, fun ty => hrun, ?_, hF, hent⟩
    · obtain ⟨q', hq', e⟩ := List.mem_map.1 hpA
      simp only [Prod.mk.injEq, and_true] at e
      exact eI_inj e ▸ hq'
    · unfold EdIt edg
      rw [map_eraseIdx]
      exact hI
theorem nodup_of_map {α γ : Type} {f : α → γ} {l : List α} (h : (l.map f).Nodup) : l.Nodup := (List.pairwise_map.1 h).imp fun h e => h (by rw [e])
theorem erase_len {α : Type} {l : List α} {j : Nat} {q : α} (hq : l[j]? = some q) : (l.eraseIdx j).length < l.length := by
  have := (List.getElem?_eq_some_iff.1 hq).1
  rw [List.length_eraseIdx, if_pos this]; omega
/-! ### The graph -/
/-- The graph g: its history lies in w0; its maps are newer. -/
structure GS (w0 w : World) (g : Nat) (ao : Option Addr) (cap : Nat) (R : List Rec) (rb rd ra : Nat) (B : List ((Int × Int) × Nat)) (D A : List Ed) : Prop where
  fh : HAt w0 ao R
  bl : Below w0.heap.size w0 w
  lo : w0.heap.size ≤ g ∧ w0.heap.size ≤ rb ∧ w0.heap.size ≤ rd ∧ w0.heap.size ≤ ra
  fg : Blk w g #[.slice ao R.length cap, .map (some rb), .map (some rd), .map (some ra)] 68
  fb : IdxAt w rb B
  fd : SetAt w rd D
  fa : SetAt w ra A
  ne : rb ≠ rd ∧ rb ≠ ra ∧ rd ≠ ra ∧ g ≠ rb ∧ g ≠ rd ∧ g ≠ ra
section
variable {w0 w w' : World} {g : Nat} {ao : Option Addr} {cap : Nat} {R : List Rec} {rb rd ra : Nat} {B : List ((Int × Int) × Nat)} {D A : List Ed}
theorem GS.fr (h : GS w0 w g ao cap R rb rd ra B D A) {S : Nat → Prop} (k : Fr S w w') (hS : ∀ i, S i → w0.heap.size ≤ i ∧ i ≠ g ∧ i ≠ rb ∧ i ≠ rd ∧ i ≠ ra) : GS w0 w' g ao cap R rb rd ra B D A :=
  ⟨h.fh, Fr.below h.bl k (Nat.le_refl _) fun i hi => (hS i hi).1, h.lo, h.fg.fr k fun e => (hS _ e).2.1 rfl, h.fb.fr k fun e => (hS _ e).2.2.1 rfl, h.fd.fr k fun e => (hS _ e).2.2.2.1 rfl, h.fa.fr k fun e => (hS _ e).2.2.2.2 rfl, h.ne⟩
theorem GS.below (h : GS w0 w g ao cap R rb rd ra B D A) (k : Below w.heap.size w w') : GS w0 w' g ao cap R rb rd ra B D A := h.fr (Fr.of_below k fun _ => False) fun _ e => e.elim
theorem GS.h (h : GS w0 w g ao cap R rb rd ra B D A) : HAt w ao R := h.fh.below h.bl
theorem GS.c0 (h : GS w0 w g ao cap R rb rd ra B D A) : w.cell? ⟨g, 0, none⟩ = some (.slice ao R.length cap) := by rw [h.fg.cell]; rfl
theorem GS.c1 (h : GS w0 w g ao cap R rb rd ra B D A) : w.cell? ⟨g, 1, none⟩ = some (.map (some rb)) := by rw [h.fg.cell]; rfl
theorem GS.c2 (h : GS w0 w g ao cap R rb rd ra B D A) : w.cell? ⟨g, 2, none⟩ = some (.map (some rd)) := by rw [h.fg.cell]; rfl
theorem GS.c3 (h : GS w0 w g ao cap R rb rd ra B D A) : w.cell? ⟨g, 3, none⟩ = some (.map (some ra)) := by rw [h.fg.cell]; rfl
theorem GS.lt (h : GS w0 w g ao cap R rb rd ra B D A) : g < w.heap.size ∧ rb < w.heap.size ∧ rd < w.heap.size ∧ ra < w.heap.size := ⟨h.fg.lt, h.fb.lt, h.fd.lt, h.fa.lt⟩
theorem GS.putB (h : GS w0 w g ao cap R rb rd ra B D A) {v : Int × Int} (hv : DS v) {i : Nat} (hi : i ≤ 1000) :
    ∃ w', (Instr.mapUpdate 65 (.map (some rb)) (.agg #[.int .u16 v.1, .int .u32 v.2]) (.int .i64 i)).run Try.prog w = .ok () w' ∧ GS w0 w' g ao cap R rb rd ra (G.put B v i) D A ∧ Fr (fun b => b = rb) w w' := by
  obtain ⟨w', h1, h2, h3⟩ := h.fb.put hv hi
  obtain ⟨n1, n2, n3, n4, n5, n6⟩ := h.ne
  exact ⟨w', h1, ⟨h.fh, Fr.below h.bl h3 (Nat.le_refl _) fun i hi => by have := h.lo; omega, h.lo, h.fg.fr h3 n4, h2, h.fd.fr h3 (Ne.symm n1), h.fa.fr h3 (Ne.symm n2), h.ne⟩, h3⟩
theorem GS.putD (h : GS w0 w g ao cap R rb rd ra B D A) {i k : Nat} (hi : i ≤ 1000) (hk : k ≤ 1000) :
    ∃ w', (Instr.mapUpdate 66 (.map (some rd)) (.agg #[.int .i64 i, .int .i64 k]) (.bool true)).run Try.prog w = .ok () w' ∧ GS w0 w' g ao cap R rb rd ra B (P.ins D (i, k)) A ∧ Fr (fun b => b = rd) w w' := by
  obtain ⟨w', h1, h2, h3⟩ := h.fd.put hi hk
  obtain ⟨n1, n2, n3, n4, n5, n6⟩ := h.ne
  exact ⟨w', h1, ⟨h.fh, Fr.below h.bl h3 (Nat.le_refl _) fun i hi => by have := h.lo; omega, h.lo, h.fg.fr h3 n5, h.fb.fr h3 n1, h2, h.fa.fr h3 (Ne.symm n3), h.ne⟩, h3⟩
theorem GS.putA (h : GS w0 w g ao cap R rb rd ra B D A) {i k : Nat} (hi : i ≤ 1000) (hk : k ≤ 1000) :
    ∃ w', (Instr.mapUpdate 66 (.map (some ra)) (.agg #[.int .i64 i, .int .i64 k]) (.bool true)).run Try.prog w = .ok () w' ∧ GS w0 w' g ao cap R rb rd ra B D (P.ins A (i, k)) ∧ Fr (fun b => b = ra) w w' := by
  obtain ⟨w', h1, h2, h3⟩ := h.fa.put hi hk
  obtain ⟨n1, n2, n3, n4, n5, n6⟩ := h.ne
  exact ⟨w', h1, ⟨h.fh, Fr.below h.bl h3 (Nat.le_refl _) fun i hi => by have := h.lo; omega, h.lo, h.fg.fr h3 n6, h.fb.fr h3 n2, h.fd.fr h3 n3, h2, h.ne⟩, h3⟩
end
end Go.Proofs.Ytnemaolbmocncaa
