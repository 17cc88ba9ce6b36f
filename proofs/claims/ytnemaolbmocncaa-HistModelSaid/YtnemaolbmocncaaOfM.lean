/- Memory of Of: what was told, numbers of transactions, histories that grow. -/
import Derived.Test.YtnemaolbmocncaaOfP
import Derived.Test.YtnemaolbmocncaaFewW
namespace Go.Proofs.Ytnemaolbmocncaa
open Go.RowKit
set_option linter.unusedSimpArgs false
set_option linter.unusedVariables false
attribute [local irreducible] wpList
/-! ### What was told -/
structure Tr where
  who : Value
  t : P.Td
  off : Value
  str : Value
  frm : Value
  til : Value
  bod : Nat → Value
def tdL (x : Tr) : List Value := .cons x.who (.cons (.int .u8 x.t.kind) (.cons (.int .u64 x.t.txn) (.cons (.int .u16 x.t.page) (.cons x.off (.cons x.str (.cons (.int .i64 x.t.life) (.cons x.frm (.cons x.til (.cons (.bool x.t.opn) (.cons (.int .i64 x.t.err) (.cons (.int .u64 x.t.rtxn) (.cons (.int .u32 x.t.rts) ((List.range 64).map x.bod)))))))))))))
def tdA (x : Tr) : Array Value := (tdL x).toArray
theorem tdL_length (x : Tr) : (tdL x).length = 77 := by unfold tdL; simp
theorem tdA_size (x : Tr) : (tdA x).size = 77 := by unfold tdA; rw [List.size_toArray, tdL_length]
def noT : Tr := ⟨.int .i64 0, ⟨0, 0, 0, 0, false, 0, 0, 0⟩, .int .i64 0, .string ⟨#[]⟩, .int .i64 0, .int .i64 0, fun _ => .int .u8 0⟩
theorem zero61' : (Try.prog.info? 61).map (fun i => (i.zero, i.size)) = some (some (.agg (tdA noT)), 77) := by kernel_rfl
theorem zero61 : (∀ w, (zeroValue 61).run Try.prog w = .ok (.agg (tdA noT)) w) ∧ (Try.prog.info? 61).map (·.size) = some 77 := zero_of_info zero61'
theorem size61 (x : Tr) : (Try.prog.info? 61).map (·.size) = some (tdA x).size := by rw [tdA_size]; exact zero61.2
theorem size61' (x : Tr) : (Try.prog.info? 61).map (·.size) = some (tdL x).length := by rw [tdL_length]; exact zero61.2
def wU64 (x : Int) : Prop := (Lit.int .u64 x).wf = true
structure TrOk (x : Tr) : Prop where
  one : ∀ u ∈ tdL x, u.oneCell' = true
  txn : wU64 x.t.txn
  page : wU16 x.t.page
  life : wI64 x.t.life
  rtxn : wU64 x.t.rtxn
  rts : wU32 x.t.rts
theorem TrOk.all {x : Tr} (h : TrOk x) : (tdA x).all (·.oneCell') = true := by
  rw [Array.all_eq_true_iff_forall_mem]
  intro u hu
  exact h.one u (by simpa [tdA] using hu)
/-- A list of what was told, that is read. -/
structure TAt (w : World) (ao : Option Addr) (T : List Tr) : Prop where
  row : RowAt w ao 77 tdL T
  ok : ∀ x ∈ T, TrOk x
theorem TAt.below {w w' : World} {ao : Option Addr} {T : List Tr} (h : TAt w ao T) (k : Below w.heap.size w w') : TAt w' ao T := ⟨h.row.below k, h.ok⟩
def tds (T : List Tr) : List P.Td := T.map (·.t)
/-! ### Who has which number -/
def encK (k : Int × Int) : Value := .agg #[.int .i64 k.1, .int .u64 k.2]
def DK (k : Int × Int) : Prop := wI64 k.1 ∧ wU64 k.2
theorem lits82 {a b : Int} (ha : wI64 a) (hb : wU64 b) : Try.prog.keyLits 2 82 [.int .i64 a, .int .u64 b] = some [.int .i64 a, .int .u64 b] := by
  have c82 : Try.prog.cellsOf 82 = 2 := by kernel_rfl
  have c3 : Try.prog.cellsOf 3 = 1 := by kernel_rfl
  have c52 : Try.prog.cellsOf 52 = 1 := by kernel_rfl
  have l1 := lits_int Try.underlying3 ha 0
  have l2 := lits_int Try.underlying52 hb 0
  unfold Program.keyLits
  rw [Try.underlying82]
  simp only [c82, c3, c52, List.length_cons, List.length_nil, List.mapM_cons, List.mapM_nil, List.drop_zero, List.take_succ_cons, List.take_zero, List.drop_succ_cons, l1, l2]
  rw [if_pos ⟨by decide, by decide +kernel⟩]
  simp
theorem eqK (a b : Int × Int) (w : World) (ha : DK a) (hb : DK b) : (Op.equal 82 (encK a) (encK b)).run Try.prog w = .ok (decide (a = b)) w := by
  have f : ∀ k : Int × Int, (encK k).formed Try.prog 82 = true := fun k => by kernel_rfl
  obtain ⟨r, h1, h2⟩ := run_equalIn_deep (P := Try.prog) 9998 2 82 (by kernel_rfl) w 2 2 (encK a) (encK b) _ _ (f a) (f b) (lits82 ha.1 ha.2) (lits82 hb.1 hb.2)
  have e : r = decide (a = b) := by
    have : (r = true) ↔ a = b := h2.trans (by simp [Prod.ext_iff])
    cases r <;> simp at this <;> simp [this]
  rw [← e]
  exact h1
theorem lawK : G.KeyLaw Try.prog 82 encK DK where
  wide := by rw [Try.underlying82]
  inj := fun a b h => by simp [encK] at h; exact Prod.ext h.1 h.2
  eq := fun a b w ha hb => eqK a b w ha hb
  chk := fun a e w => by kernel_rfl
  stay := fun a w => by simp [Instr.keyThatStays, encK, Instr.sameBits]
def KeyAt (w : World) (r : Nat) (B : List ((Int × Int) × Nat)) : Prop := G.MapAt w r encK (idx B) ∧ ∀ x ∈ B, DK x.1
section
variable {w w' : World} {r : Nat} {B : List ((Int × Int) × Nat)}
theorem KeyAt.fr (h : KeyAt w r B) {T : Nat → Prop} (k : Fr T w w') (hn : ¬ T r) : KeyAt w' r B := ⟨h.1.fr k hn, h.2⟩
theorem KeyAt.below (h : KeyAt w r B) (k : Below w.heap.size w w') : KeyAt w' r B := h.fr (Fr.of_below k fun _ => False) id
theorem KeyAt.lt (h : KeyAt w r B) : r < w.heap.size := h.1.lt
theorem KeyAt.dom (h : KeyAt w r B) : ∀ p ∈ idx B, DK p.1 := fun p hp => by
  obtain ⟨e, he, rfl⟩ := List.mem_map.1 hp
  exact h.2 e he
theorem KeyAt.look (h : KeyAt w r B) {v : Int × Int} (hv : DK v) :
    (Instr.lookup 80 (.map (some r)) (.agg #[.int .i64 v.1, .int .u64 v.2]) true).run Try.prog w = .ok (.tuple #[.int .i64 ((G.get B v).getD 0 : Nat), .bool (G.get B v).isSome]) w := by
  have hl := G.run_lookupA (P := Try.prog) Try.underlying80 lawK h.1 h.dom hv (zero3 w) true
  rw [idx_get] at hl
  refine hl.trans ?_
  cases G.get B v <;> simp
theorem mem_put' {v : Int × Int} {i : Nat} : ∀ {B : List ((Int × Int) × Nat)}, ∀ x ∈ G.put B v i, x = (v, i) ∨ x ∈ B := fun {B} x hx => by
  induction B with
  | nil => exact .inl (by simpa [G.put] using hx)
  | cons p l ih =>
    unfold G.put at hx
    split at hx
    · rcases List.mem_cons.1 hx with e | e
      · exact .inl e
      · exact .inr (List.mem_cons_of_mem _ e)
    · rcases List.mem_cons.1 hx with e | e
      · exact .inr (by rw [e]; exact List.mem_cons_self)
      · rcases ih e with e | e
        · exact .inl e
        · exact .inr (List.mem_cons_of_mem _ e)
theorem KeyAt.put (h : KeyAt w r B) {v : Int × Int} (hv : DK v) (i : Nat) :
    ∃ w', (Instr.mapUpdate 80 (.map (some r)) (.agg #[.int .i64 v.1, .int .u64 v.2]) (.int .i64 i)).run Try.prog w = .ok () w' ∧ KeyAt w' r (G.put B v i) ∧ Fr (fun b => b = r) w w' := by
  obtain ⟨w', h1, h2, h3⟩ := G.run_updateA (P := Try.prog) Try.underlying80 lawK h.1 h.dom hv (.int .i64 i)
  rw [idx_put] at h2
  refine ⟨w', h1, ⟨h2, fun x hx => ?_⟩, h3⟩
  rcases mem_put' x hx with rfl | e
  · exact hv
  · exact h.2 x e
theorem KeyAt.made (w : World) : KeyAt (w.alloc (.map #[] 0)) w.heap.size [] := ⟨G.MapAt.made w encK, fun e he => by cases he⟩
end
/-! ### A history that grows -/
def sel (c : Bool) (x : Rec) : Value := if c = true then x.2.2 else x.2.1
structure OT (base : Nat) (w : World) (v : Value) (R : List Rec) : Prop where
  own : w.ownsRow base 36 5 v R.length (R.flatMap pcL)
  rd : ∀ (i : Nat) (x : Rec), R[i]? = some x → w.ownsRow base 43 2 x.2.1 x.1.reads.length (x.1.reads.flatMap seC)
  wt : ∀ (i : Nat) (x : Rec), R[i]? = some x → w.ownsRow base 41 1 x.2.2 x.1.writes.length (x.1.writes.flatMap pgC)
  ne : ∀ (i j : Nat) (x y : Rec) (c d : Bool) (b : Nat), R[i]? = some x → R[j]? = some y → (sel c x).ownBlock = some b → (sel d y).ownBlock = some b → i = j ∧ c = d
  nv : ∀ (i : Nat) (x : Rec) (c : Bool) (b : Nat), R[i]? = some x → (sel c x).ownBlock = some b → v.ownBlock ≠ some b
  ok : ∀ x ∈ R, Pok x.1
section
variable {base : Nat} {w w' : World} {v : Value} {R : List Rec}
theorem OT.sub_lt (h : OT base w v R) {i : Nat} {x : Rec} (hx : R[i]? = some x) {c : Bool} {b : Nat} (hb : (sel c x).ownBlock = some b) : base ≤ b ∧ b < w.heap.size := by
  cases c with
  | true => exact (h.wt i x hx).lt b hb
  | false => exact (h.rd i x hx).lt b hb
theorem OT.fr (h : OT base w v R) {S : Nat → Prop} (k : Fr S w w') (hn : ∀ b, base ≤ b → b < w.heap.size → ¬ S b) : OT base w' v R :=
  ⟨own_fr h.own k fun b hb => hn b (h.own.lt b hb).1 (h.own.lt b hb).2, fun i x hx => own_fr (h.rd i x hx) k fun b hb => hn b ((h.rd i x hx).lt b hb).1 ((h.rd i x hx).lt b hb).2,
    fun i x hx => own_fr (h.wt i x hx) k fun b hb => hn b ((h.wt i x hx).lt b hb).1 ((h.wt i x hx).lt b hb).2, h.ne, h.nv, h.ok⟩
theorem OT.below (h : OT base w v R) (k : Below w.heap.size w w') : OT base w' v R := h.fr (Fr.of_below k fun _ => False) fun _ _ _ e => e
theorem OT.nil (base : Nat) (w : World) : OT base w (.slice none 0 0) [] := ⟨World.ownsRow_nil _ _ _ _, fun i x hx => (by cases hx), fun i x hx => (by cases hx), fun i j x y c d b hx => (by cases hx), fun i x c b hx => (by cases hx), fun x hx => by cases hx⟩
/-- As a history that is read. -/
theorem OT.ownH (h : OT base w v R) : OwnH base w v R := by
  refine ⟨h.own, fun x hx => ?_, fun x hx b hb => ?_⟩
  · obtain ⟨i, hi⟩ := List.mem_iff_getElem?.1 hx
    exact ⟨own_rowIn (f := seC) (sz := 2) (fun _ => rfl) (h.rd i x hi), own_rowIn (f := pgC) (sz := 1) (fun _ => rfl) (h.wt i x hi), h.ok x hx⟩
  · obtain ⟨i, hi⟩ := List.mem_iff_getElem?.1 hx
    rcases hb with hb | hb
    · exact h.nv i x false b hi (own_vblk (h.rd i x hi) hb)
    · exact h.nv i x true b hi (own_vblk (h.wt i x hi) hb)
/-- One more. -/
theorem OT.push (h : OT base w v R) {v' : Value} {a : P.Pst} (ha : a.reads = []) (hb : a.writes = []) (hok : Pok a) (own : w'.ownsRow base 36 5 v' (R.length + 1) (R.flatMap pcL ++ pcL (a, .slice none 0 0, .slice none 0 0))) (gr : w.grownBy w' v.ownBlock)
    (hl : v'.ownBlock = v.ownBlock ∨ v'.ownBlock = some w.heap.size) : OT base w' v' (R ++ [(a, .slice none 0 0, .slice none 0 0)]) := by
  have k := Fr.of_grown gr
  have hs : ∀ {i : Nat} {x : Rec}, (R ++ [(a, Value.slice none 0 0, Value.slice none 0 0)])[i]? = some x → R[i]? = some x ∨ x = (a, .slice none 0 0, .slice none 0 0) := fun {i x} hx => by
    by_cases hi : i < R.length
    · rw [List.getElem?_append_left hi] at hx; exact .inl hx
    · rw [List.getElem?_append_right (by omega)] at hx
      exact .inr (by simpa using List.mem_of_getElem? hx)
  have hno : ∀ (c : Bool) (b : Nat), (sel c (a, .slice none 0 0, .slice none 0 0)).ownBlock ≠ some b := fun c b e => by
    cases c <;> cases e
  refine ⟨by rw [List.length_append, List.flatMap_append]; simpa using own, fun i x hx => ?_, fun i x hx => ?_, fun i j x y c d b hx hy h1 h2 => ?_, fun i x c b hx h1 e => ?_, fun x hx => ?_⟩
  · rcases hs hx with hx | rfl
    · exact own_fr (h.rd i x hx) k fun b hb => h.nv i x false b hx hb
    · show w'.ownsRow base 43 2 (.slice none 0 0) a.reads.length (a.reads.flatMap seC)
      rw [ha]; exact World.ownsRow_nil _ _ _ _
  · rcases hs hx with hx | rfl
    · exact own_fr (h.wt i x hx) k fun b hb => h.nv i x true b hx hb
    · show w'.ownsRow base 41 1 (.slice none 0 0) a.writes.length (a.writes.flatMap pgC)
      rw [hb]; exact World.ownsRow_nil _ _ _ _
  · rcases hs hx with hx | rfl
    · rcases hs hy with hy | rfl
      · exact h.ne i j x y c d b hx hy h1 h2
      · exact absurd h2 (hno d b)
    · exact absurd h1 (hno c b)
  · rcases hs hx with hx | rfl
    · rcases hl with e1 | e1
      · exact h.nv i x c b hx h1 (e1 ▸ e)
      · have := (h.sub_lt hx h1).2
        rw [e1] at e
        have := Option.some.inj e
        omega
    · exact absurd h1 (hno c b)
  · rcases List.mem_append.1 hx with hx | hx
    · exact h.ok x hx
    · rw [List.mem_singleton.1 hx]; exact hok
theorem flat_set {α : Type} {f : α → List Value} {sz : Nat} (hf : ∀ x, (f x).length = sz) : ∀ {L : List α} {i : Nat} {x y : α} {j : Nat} {u : Value}, L[i]? = some x → f y = (f x).set j u → j < sz → (L.set i y).flatMap f = (L.flatMap f).set (i * sz + j) u
  | a :: L, 0, x, y, j, u, hx, hy, hj => by
    obtain rfl : a = x := by simpa using hx
    show f y ++ L.flatMap f = (f a ++ L.flatMap f).set (0 * sz + j) u
    rw [hy, Nat.zero_mul, Nat.zero_add, List.set_append_left _ _ (by rw [hf]; exact hj)]
  | a :: L, i + 1, x, y, j, u, hx, hy, hj => by
    show f a ++ (L.set i y).flatMap f = (f a ++ L.flatMap f).set ((i + 1) * sz + j) u
    rw [flat_set hf (by simpa using hx) hy hj, List.set_append_right _ _ (by rw [hf, Nat.succ_mul]; omega), hf]
    congr 2
    rw [Nat.succ_mul]; omega
/-- A cell of an own row is written. -/
theorem own_set {e : TypeId} {sz n g j : Nat} {xs : List Value} (h : w.ownsRow base e sz v n xs) (hv : v.ownBlock = some g) (hj : j < n * sz) (u : Value) : (w.setCell ⟨g, j, none⟩ u).ownsRow base e sz v n (xs.set j u) := by
  refine ⟨by rw [List.length_set]; exact h.1, ?_⟩
  rcases h.2 with ⟨rfl, rfl⟩ | ⟨g', cap, cur, rfl, h1, h2, h3, h4, h5, h6⟩
  · cases hv
  · obtain rfl := Option.some.inj hv
    refine .inr ⟨g', cap, cur.setIfInBounds j u, rfl, h1, ?_, h3, h4, by simpa using h5, ?_⟩
    · simp only [World.setCell, Array.getElem?_modify, if_true, h2]
      rfl
    · rw [Array.toList_setIfInBounds, ← h6, List.take_set]
/-- One of them is turned: one of its rows may have grown. -/
theorem OT.upd (h : OT base w v R) {i : Nat} {x : Rec} (hx : R[i]? = some x) (c : Bool) {w1 : World} (gr : w.grownBy w1 (sel c x).ownBlock) {y : Rec}
    (ho : sel (!c) y = sel (!c) x) (hr : w1.ownsRow base 43 2 y.2.1 y.1.reads.length (y.1.reads.flatMap seC)) (hw : w1.ownsRow base 41 1 y.2.2 y.1.writes.length (y.1.writes.flatMap pgC))
    (hl : (sel c y).ownBlock = (sel c x).ownBlock ∨ (sel c y).ownBlock = some w.heap.size) {j : Nat} {u : Value} (hc : pcL y = (pcL x).set j u) (hj : j < 5) (hok : Pok y.1) {g : Nat} (hg : v.ownBlock = some g) :
    OT base (w1.setCell ⟨g, i * 5 + j, none⟩ u) v (R.set i y) := by
  have k1 := Fr.of_grown gr
  have k2 : Fr (fun b => b = g) w1 (w1.setCell ⟨g, i * 5 + j, none⟩ u) := (Fr.refl _ _).setCell _ _ fun _ => rfl
  have hi := (List.getElem?_eq_some_iff.1 hx).1
  have hgl := (h.own.lt g hg).2
  have hs : ∀ {m : Nat} {z : Rec}, (R.set i y)[m]? = some z → (m = i ∧ z = y) ∨ (m ≠ i ∧ R[m]? = some z) := fun {m z} hz => by
    by_cases e : i = m
    · subst e
      rw [List.getElem?_set_self hi] at hz
      exact .inl ⟨rfl, (Option.some.inj hz).symm⟩
    · rw [List.getElem?_set_ne e] at hz
      exact .inr ⟨fun e2 => e e2.symm, hz⟩
  -- the blocks of what was turned
  have hyb : ∀ (d : Bool) (b : Nat), (sel d y).ownBlock = some b → (sel d x).ownBlock = some b ∨ (d = c ∧ b = w.heap.size) := fun d b hb => by
    by_cases e : d = c
    · subst e
      rcases hl with e1 | e1
      · exact .inl (e1 ▸ hb)
      · rw [hb] at e1; exact .inr ⟨rfl, Option.some.inj e1⟩
    · have e2 : d = !c := by cases d <;> cases c <;> simp at e <;> rfl
      rw [e2] at hb ⊢
      rw [ho] at hb
      exact .inl hb
  have hyg : ∀ (d : Bool) (b : Nat), (sel d y).ownBlock = some b → b ≠ g := fun d b hb e => by
    rcases hyb d b hb with h1 | ⟨_, h1⟩
    · exact h.nv i x d b hx h1 (e ▸ hg)
    · omega
  refine ⟨?_, fun m z hz => ?_, fun m z hz => ?_, fun m n z z' d d' b hz hz' h1 h2 => ?_, fun m z d b hz h1 e => ?_, fun z hz => ?_⟩
  · rw [List.length_set, flat_set pcL_length hx hc hj]
    exact own_set (own_fr h.own k1 fun b hb e => h.nv i x c b hx e hb) hg (by omega) u
  · rcases hs hz with ⟨rfl, rfl⟩ | ⟨hm, hz⟩
    · exact own_fr hr k2 fun b hb e => hyg false b hb e
    · refine own_fr (own_fr (h.rd m z hz) k1 fun b hb e => ?_) k2 fun b hb e => h.nv m z false b hz hb (e ▸ hg)
      exact hm (h.ne m i z x false c b hz hx hb e).1
  · rcases hs hz with ⟨rfl, rfl⟩ | ⟨hm, hz⟩
    · exact own_fr hw k2 fun b hb e => hyg true b hb e
    · refine own_fr (own_fr (h.wt m z hz) k1 fun b hb e => ?_) k2 fun b hb e => h.nv m z true b hz hb (e ▸ hg)
      exact hm (h.ne m i z x true c b hz hx hb e).1
  · rcases hs hz with ⟨rfl, rfl⟩ | ⟨hm, hz3⟩
    · rcases hs hz' with ⟨rfl, rfl⟩ | ⟨hn, hz'⟩
      · rcases hyb d b h1 with h3 | ⟨h3, h3'⟩
        · rcases hyb d' b h2 with h4 | ⟨h4, h4'⟩
          · exact ⟨rfl, (h.ne _ _ x x d d' b hx hx h3 h4).2⟩
          · have := (h.sub_lt hx h3).2; omega
        · rcases hyb d' b h2 with h4 | ⟨h4, h4'⟩
          · have := (h.sub_lt hx h4).2; omega
          · exact ⟨rfl, h3.trans h4.symm⟩
      · rcases hyb d b h1 with h3 | ⟨_, h3⟩
        · exact h.ne _ _ x z' d d' b hx hz' h3 h2
        · have := (h.sub_lt hz' h2).2; omega
    · rcases hs hz' with ⟨rfl, rfl⟩ | ⟨hn, hz4⟩
      · rcases hyb d' b h2 with h3 | ⟨_, h3⟩
        · exact h.ne _ _ z x d d' b hz3 hx h1 h3
        · have := (h.sub_lt hz3 h1).2; omega
      · exact h.ne m n z z' d d' b hz3 hz4 h1 h2
  · rcases hs hz with ⟨rfl, rfl⟩ | ⟨hm, hz⟩
    · rw [hg] at e
      exact hyg d b h1 (Option.some.inj e).symm
    · exact h.nv m z d b hz h1 e
  · rcases List.mem_or_eq_of_mem_set hz with hz | rfl
    · exact h.ok z hz
    · exact hok
end
end Go.Proofs.Ytnemaolbmocncaa
