/- Regions whose order is drawn, walked by hand: what yields the same in every world that meets S is taken first; calls and stores come as they must. Over any program. -/
import Derived.Test.YtnemaolbmocncaaArr
import Derived.OrdersHeld
import Derived.StillTailTactics
import Derived.BigQuiet
namespace Go.Proofs.Ytnemaolbmocncaa
open Go.RowKit
section
variable {P : Program} {ops : Array Oper} {Q : Exit → Act → World → Prop} {S : World → Prop} {fuel : Nat} {listed : Array Bool} {a : Act} {w : World}

/-- What needs no world. -/
theorem anyH_pure (i : Nat) (o : Oper) (v : Value) (hi : ops[i]? = some o) (hs : Region.noSelect ops = true) (hf : Region.free .any ops listed i = true) (hr : (Region.ready .any ops listed).contains i = true)
    (hQ : ∀ c a w, Q (.panic c) (a.put o.dst v) w → Q (.panic c) a w) (hw : Region.wanted o (yielded ops a.tmps) = true) (hv : ∀ w, (execOp a.eval o).run P w = .ok (.value v) w) (hS : S w)
    (h : wpAnyH P .any ops Q S fuel (listed.setIfInBounds i true) (a.put o.dst v) w) : wpAnyH P .any ops Q S (fuel + 1) listed a w :=
  wpAnyH_take hi hs hf hr hQ (.inl ⟨hw, fun w _ => hv w⟩) hS h
/-- What its guard shuts out. -/
theorem anyH_skip (i : Nat) (o : Oper) (hi : ops[i]? = some o) (hs : Region.noSelect ops = true) (hf : Region.free .any ops listed i = true) (hr : (Region.ready .any ops listed).contains i = true)
    (hQ : ∀ c a w, Q (.panic c) (a.put o.dst undef) w → Q (.panic c) a w) (hw : Region.wanted o (yielded ops a.tmps) = false) (hS : S w)
    (h : wpAnyH P .any ops Q S fuel (listed.setIfInBounds i true) (a.put o.dst undef) w) : wpAnyH P .any ops Q S (fuel + 1) listed a w :=
  wpAnyH_take hi hs hf hr hQ (.inr ⟨hw, rfl⟩) hS h
/-- A whole array that S tells. -/
theorem anyH_load_blk (i : Nat) (o : Oper) (ty : TypeId) (x : Operand) (g n : Nat) (f : Nat → BitVec 8) (t e : TypeId) (hS : S w) (hb : ∀ w, S w → Blk w g (row n f) t)
    (hu : P.underlying ty = some (.array n e)) (hsz : (P.info? ty).map (·.size) = some n)
    (hi : ops[i]? = some o) (ho : o.op = .load ty x) (hx : a.eval x = .pointer (some ⟨g, 0, none⟩))
    (hs : Region.noSelect ops = true) (hf : Region.free .any ops listed i = true) (hr : (Region.ready .any ops listed).contains i = true)
    (hQ : ∀ c a w, Q (.panic c) (a.put o.dst (.agg (row n f))) w → Q (.panic c) a w) (hw : Region.wanted o (yielded ops a.tmps) = true)
    (h : wpAnyH P .any ops Q S fuel (listed.setIfInBounds i true) (a.put o.dst (.agg (row n f))) w) : wpAnyH P .any ops Q S (fuel + 1) listed a w :=
  wpAnyH_take hi hs hf hr hQ (.inl ⟨hw, fun w hw' => by
    have hb' := hb w hw'
    unfold execOp
    simp only [ho, hx, Instr.loadAt, Instr.sureAddr, Sem.run_bind, Sem.run_pure, Result.andThen_ok, run_loadVar_row w g t ty (row n f) (0, 0) _ hb' hu rfl (by rw [row_size]; exact hsz)]⟩) hS h
/-- The one operation that may come up: a call. -/
theorem anyH_call (i : Nat) (o : Oper) (F : FuncId) (args : Array Value) (v : Value) (hr : Region.ready .any ops listed = [i]) (hi : ops[i]? = some o) (hw : Region.wanted o (yielded ops a.tmps) = true)
    (hrun : (execOp a.eval o).run P w = .ok (.enter F args) w) (hc : Calls P F args w fun e w' => e = .returned v ∧ S w')
    (h : ∀ w', S w' → wpAnyH P .any ops Q S fuel (listed.setIfInBounds i true) (a.put o.dst v) w') : wpAnyH P .any ops Q S (fuel + 1) listed a w := by
  refine wpAnyH_all hr (by simp) fun j hj => ?_
  obtain rfl : j = i := by simpa using hj
  unfold wpOp
  rw [hi]
  simp only [hw, if_true]
  refine .inl ?_
  unfold Oper.wp
  rw [hrun, Oper.upon_enter]
  exact hc.mono fun e w' ⟨he, hw'⟩ => by subst he; exact ⟨hw', h w' hw'⟩
/-- The one operation that may come up: whatever its law says of it. -/
theorem anyH_one (i : Nat) (o : Oper) (hr : Region.ready .any ops listed = [i]) (hi : ops[i]? = some o) (hw : Region.wanted o (yielded ops a.tmps) = true)
    (h : o.wp P a w (fun a' w' => S w' ∧ wpAnyH P .any ops Q S fuel (listed.setIfInBounds i true) a' w') Q) : wpAnyH P .any ops Q S (fuel + 1) listed a w := by
  refine wpAnyH_all hr (by simp) fun j hj => ?_
  obtain rfl : j = i := by simpa using hj
  unfold wpOp
  rw [hi]
  simp only [hw, if_true]
  exact .inl h
/-- The one operation that may come up: a whole array is stored. -/
theorem anyH_store_blk (i : Nat) (o : Oper) (ty : TypeId) (x y : Operand) (g n : Nat) (f f' : Nat → BitVec 8) (t : TypeId) (hb : Blk w g (row n f) t) (hsz : (P.info? ty).map (·.size) = some n)
    (hr : Region.ready .any ops listed = [i]) (hi : ops[i]? = some o) (ho : o.op = .store ty x y) (hx : a.eval x = .pointer (some ⟨g, 0, none⟩)) (hy : a.eval y = .agg (row n f')) (hw : Region.wanted o (yielded ops a.tmps) = true)
    (hS : S (w.setRow g (row n f'))) (h : wpAnyH P .any ops Q S fuel (listed.setIfInBounds i true) (a.put o.dst undef) (w.setRow g (row n f'))) : wpAnyH P .any ops Q S (fuel + 1) listed a w :=
  anyH_one i o hr hi hw (wp_store_row ty x y ho g (row n f') hx hy t (row n f) hb (by rw [row_size]; exact hsz) (by rw [row_size, row_size]) (row_one n f') ⟨hS, h⟩)
end
section
variable {P : Program} {ops : Array Oper} {w : World} {a : Act} {o : Oper} {rest : List Oper}
/-- A whole array, read in a plain region, behind a guard or not. -/
theorem wpList_load_g {Q : Exit → Act → World → Prop} (ty : TypeId) (x : Operand) (g n : Nat) (f : Nat → BitVec 8) (t e : TypeId) (hb : Blk w g (row n f) t) (hu : P.underlying ty = some (.array n e)) (hi : (P.info? ty).map (·.size) = some n)
    (ho : o.op = .load ty x) (hx : a.eval x = .pointer (some ⟨g, 0, none⟩)) (hw : Region.wanted o (yielded ops a.tmps) = true)
    (h : wpList P ops Q rest (a.put o.dst (.agg (row n f))) w) : wpList P ops Q (o :: rest) a w :=
  wpList_step fun _ hK => by
    rw [if_pos hw]
    exact wp_load_row ty x ho g hx t (row n f) (0, 0) _ hb hu rfl (by rw [row_size]; exact hi) (hK _ _ h)
/-- 'T{}' of an array. -/
theorem wpList_build0 {Q : Exit → Act → World → Prop} (hg : o.guard = none) (ty : TypeId) (ho : o.op = .build ty #[]) (cs : Array Value) (hz : P.built ty [] = some cs)
    (h : wpList P ops Q rest (a.put o.dst (.agg cs)) w) : wpList P ops Q (o :: rest) a w :=
  wpList_build hg ty #[] ho (by simp [hz]) (by simpa [hz] using h)
/-- A whole array, read at the head of a region whose end is forced. -/
theorem still_load_blk {Q : Act → Prop} (ty : TypeId) (x : Operand) (g n : Nat) (f : Nat → BitVec 8) (t e : TypeId) (hb : Blk w g (row n f) t) (hu : P.underlying ty = some (.array n e)) (hi : (P.info? ty).map (·.size) = some n)
    (ho : o.op = .load ty x) (hx : a.eval x = .pointer (some ⟨g, 0, none⟩)) (hw : Region.wanted o (yielded ops a.tmps) = true)
    (h : wpStill P ops w Q rest (a.put o.dst (.agg (row n f)))) : wpStill P ops w Q (o :: rest) a :=
  wpStill_step fun K hK => by
    rw [if_pos hw]
    have hrun : (execOp a.eval o).run P w = .ok (.value (.agg (row n f))) w := by
      unfold execOp
      simp only [ho, hx, Instr.loadAt, Instr.sureAddr, Sem.run_bind, Sem.run_pure, Result.andThen_ok, run_loadVar_row w g t ty (row n f) (0, 0) _ hb hu rfl (by rw [row_size]; exact hi)]
    unfold Oper.still
    rw [hrun, Oper.stillUpon_value]
    exact hK _ h
end
end Go.Proofs.Ytnemaolbmocncaa
