/- Walks' laws for rows, boxes and structs. Over any program. -/
import Derived.Test.YtnemaolbmocncaaPl
import Derived.Test.YtnemaolbmocncaaFr
import Derived.WalkKit
import Derived.WalkLawsBesides
import Derived.Laws.StructEq
import Derived.Deep.MidRow
import Derived.Great.BuildSlice
namespace Go.Proofs.Ytnemaolbmocncaa
open Go.RowKit
set_option linter.unusedSimpArgs false
set_option linter.unusedVariables false
section
variable {P : Program} {ops : Array Oper} {rest : List Oper} {o : Oper} {a : Act} {w : World} {Q : Exit → Act → World → Prop}
/-- A whole block is written, and the world behind it has no other name. -/
theorem wpList_store_fr (hgd : o.guard = none) (ty : TypeId) (x y : Operand) (ho : o.op = .store ty x y) (g : Nat) (cells : Array Value) (hx : a.eval x = .pointer (some ⟨g, 0, none⟩)) (hy : a.eval y = .agg cells)
    (t : TypeId) (old : Array Value) (hg : Blk w g old t) (hi : (P.info? ty).map (·.size) = some cells.size) (hold : old.size = cells.size) (h1 : cells.all (·.oneCell') = true)
    (h : ∀ w', Blk w' g cells t → Fr (fun i => i = g) w w' → wpList P ops Q rest (a.put o.dst undef) w') : wpList P ops Q (o :: rest) a w :=
  wpList_store_row hgd ty x y ho g cells hx hy t old hg hi hold h1 (h _ (hg.setRow _) ((Fr.refl _ _).setRow g _ fun _ => rfl))
theorem wpList_load_cs (hgd : o.guard = none) (ty : TypeId) (x : Operand) (ho : o.op = .load ty x) (g : Nat) (hx : a.eval x = .pointer (some ⟨g, 0, none⟩)) (t : TypeId) (cs : Array Value) (hg : Blk w g cs t)
    (d : TypeDesc) (hu : P.underlying ty = some d) (hd : (match d with | .struct _ | .array _ _ => true | _ => false) = true) (hi : (P.info? ty).map (·.size) = some cs.size)
    (h : wpList P ops Q rest (a.put o.dst (.agg cs)) w) : wpList P ops Q (o :: rest) a w :=
  wpList_load_row hgd ty x ho g hx t cs (0, 0) d hg hu hd hi h
theorem wpList_buildE (hg : o.guard = none) (t : TypeId) (parts : Array (Nat × Operand)) (ho : o.op = .build t parts) (cells : Array Value) (hb : P.built t (parts.map fun (i, x) => (i, a.eval x)).toList = some cells)
    (h : wpList P ops Q rest (a.put o.dst (.agg cells)) w) : wpList P ops Q (o :: rest) a w :=
  wpList_build hg t parts ho (by rw [hb]; rfl) (by rw [hb]; exact h)
theorem wpl_alloc (ty : TypeId) (cs : Array Value) (ho : o.op = .alloc ty) (hw : Region.wanted o (yielded ops a.tmps) = true) (hz : ∀ w, (zeroValue ty).run P w = .ok (.agg cs) w)
    (h : wpList P ops Q rest (a.put o.dst (.pointer (some ⟨w.heap.size, 0, none⟩))) (w.alloc (.cells cs ty))) : wpList P ops Q (o :: rest) a w :=
  wpl_run _ _ hw (by
    unfold execOp
    simp [ho, Instr.alloc, hz, newVar, newRow, Value.cells]) h
theorem run_opEq (t t2 : TypeId) (x y : Operand) (xs ys : Array Value) (b : Bool) (ho : o.op = .binOp .eql t x y t2) (hx : a.eval x = .agg xs) (hy : a.eval y = .agg ys) (hm : P.eqGuardType P.depth t = false)
    (hr : (Op.equalIn 10000 t (.agg xs) (.agg ys)).run P w = .ok b w) : (execOp a.eval o).run P w = .ok (.value (.bool b)) w := by
  unfold execOp
  simp [ho, hx, hy, run_eqGuard_agg w .eql t x y xs ys hm, binOp, Op.equal, Op.maxDepth, hr, Result.andThen]
theorem run_opNe (t t2 : TypeId) (x y : Operand) (xs ys : Array Value) (b : Bool) (ho : o.op = .binOp .neq t x y t2) (hx : a.eval x = .agg xs) (hy : a.eval y = .agg ys) (hm : P.eqGuardType P.depth t = false)
    (hr : (Op.equalIn 10000 t (.agg xs) (.agg ys)).run P w = .ok b w) : (execOp a.eval o).run P w = .ok (.value (.bool (!b))) w := by
  unfold execOp
  simp [ho, hx, hy, run_eqGuard_agg w .neq t x y xs ys hm, binOp, Op.equal, Op.maxDepth, hr, Result.andThen]
end
section
variable {P : Program} {ops : Array Oper} {Q : Exit → Act → World → Prop} {S : World → Prop} {fuel : Nat} {listed : Array Bool} {a : Act} {w : World} {k : Nat}
theorem wp_of_run {o : Oper} {v : Value} {w' : World} {K : Act → World → Prop} (h : (execOp a.eval o).run P w = .ok (.value v) w') (hk : K (a.put o.dst v) w') : o.wp P a w K Q := by
  unfold Oper.wp
  rw [h]
  exact hk
theorem run_load_cs {w : World} {o : Oper} {g : Nat} {cs : Array Value} {t ty : TypeId} {d : TypeDesc} {x : Operand} (ho : o.op = .load ty x) (hx : a.eval x = .pointer (some ⟨g, 0, none⟩)) (hb : Blk w g cs t)
    (hu : P.underlying ty = some d) (hd : (match d with | .struct _ | .array _ _ => true | _ => false) = true) (hi : (P.info? ty).map (·.size) = some cs.size) : (execOp a.eval o).run P w = .ok (.value (.agg cs)) w := by
  unfold execOp
  simp only [ho, hx, Instr.loadAt, Instr.sureAddr, Sem.run_bind, Sem.run_pure, Result.andThen_ok, run_loadVar_row w g t ty cs (0, 0) d hb hu hd hi]
theorem run_buildE {w : World} {o : Oper} {t : TypeId} {parts : Array (Nat × Operand)} (ho : o.op = .build t parts) {cells : Array Value} (hb : P.built t (parts.map fun (i, x) => (i, a.eval x)).toList = some cells) : (execOp a.eval o).run P w = .ok (.value (.agg cells)) w := by
  unfold execOp
  simp only [ho, Sem.run_bind, run_build w t _ cells hb, Result.andThen_ok]
  rfl
end
theorem src_blk {w : World} {b : Nat} {cs : List Value} {t : TypeId} (h : Blk w b cs.toArray t) {m k : Nat} : SrcAt w (.slice (some ⟨b, 0, none⟩) m k) m cs :=
  .inr ⟨_, _, rfl, fun j u hu => by rw [add_at, h.cell]; simpa using hu⟩
theorem wp_mapUpdateE {P : Program} {a : Act} {w w' : World} {o : Oper} {K : Act → World → Prop} {Q : Exit → Act → World → Prop} {t : TypeId} {m x v : Operand} {mv xv vv : Value} (ho : o.op = .mapUpdate t m x v) (hm : a.eval m = mv) (hx : a.eval x = xv) (hv : a.eval v = vv)
    (hrun : (Instr.mapUpdate t mv xv vv).run P w = .ok () w') (hk : K (a.put o.dst undef) w') : o.wp P a w K Q := by
  unfold Oper.wp
  simp [execOp, ho, hm, hx, hv, hrun, Result.andThen]
  exact hk
theorem run_load_midv {P : Program} {w : World} {a : Act} {o : Oper} {b k : Nat} {cs : List Value} {ty : TypeId} {d : TypeDesc} {x : Operand} (ho : o.op = .load ty x) (hx : a.eval x = .pointer (some ⟨b, k, none⟩)) (hc : w.rangeAt b k cs)
    (hu : P.underlying ty = some d) (hd : d.isRow = true) (hi : (P.info? ty).map (·.size) = some cs.length) : (execOp a.eval o).run P w = .ok (.value (.agg cs.toArray)) w := by
  unfold execOp
  simp only [ho, hx, Sem.run_bind, Sem.run_pure, Result.andThen_ok, run_loadAt_mid w b k ty cs d hc hu hd hi]
end Go.Proofs.Ytnemaolbmocncaa
