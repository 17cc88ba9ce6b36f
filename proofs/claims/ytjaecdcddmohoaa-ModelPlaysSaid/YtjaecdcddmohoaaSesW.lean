/- A machine in a law's hands: the blocks that the law keeps stand. -/
import Derived.Test.YtjaecdcddmohoaaEqW
import Derived.Test.YtjaecdcddmohoaaArg
import Derived.Laws.StructEq
namespace Go.Proofs.Ytjaecdcddmohoaa
open Go.RowKit
set_option linter.unusedSimpArgs false
set_option linter.unusedVariables false
/-- The machine M lies at c; it has done k calls; K: the law's own blocks. -/
structure SS (w0 w : World) (c : Nat) (M : P.Md) (k : Nat) (K : Nat → Prop) : Prop where
  ex : ∃ m : MW, m.c = c ∧ MS w0.heap.size w m M ∧ ∀ b, m.own b → ¬ K b
  ok : P.Ok M k
  below : Below w0.heap.size w0 w
  kb : ∀ b, K b → w0.heap.size ≤ b ∧ b < w.heap.size
section
variable {w0 w w' : World} {c : Nat} {M : P.Md} {k : Nat} {K : Nat → Prop}
theorem SS.start {w : World} {m : MW} {p : Int} {x : Nat} (h : MS w0.heap.size w m (P.new p x)) (b : Below w0.heap.size w0 w) (hp : 1 ≤ p ∧ p ≤ 16) (hx : x < 4294967296) : SS w0 w m.c (P.new p x) 0 (fun _ => False) :=
  ⟨⟨m, rfl, h, fun _ _ e => e⟩, P.ok_new hp hx, b, fun _ e => e.elim⟩
theorem SS.fr (h : SS w0 w c M k K) {S : Nat → Prop} (f : Fr S w w') (hS : ∀ b, S b → K b) : SS w0 w' c M k K := by
  obtain ⟨m, hm, hms, hd⟩ := h.ex
  exact ⟨⟨m, hm, hms.fr f fun b hb hs => hd b hb (hS b hs), hd⟩, h.ok, Fr.below h.below f (by have := h.below.size; omega) fun i hi => (h.kb i (hS i hi)).1, fun b hb => ⟨(h.kb b hb).1, Nat.lt_of_lt_of_le (h.kb b hb).2 f.size⟩⟩
theorem SS.go (h : SS w0 w c M k K) (f : Below w.heap.size w w') : SS w0 w' c M k K := h.fr (Fr.of_below f fun _ => False) fun _ e => e.elim
theorem SS.drew (h : SS w0 w c M k K) : SS w0 w.drew c M k K := h.go (Below.refl _ _).drew
theorem SS.alloc (h : SS w0 w c M k K) (o : Obj) : SS w0 (w.alloc o) c M k (fun b => K b ∨ b = w.heap.size) := by
  have h1 := h.go ((Below.refl _ _).alloc (Nat.le_refl _) o)
  obtain ⟨m, hm, hms, hd⟩ := h.ex
  obtain ⟨m1, hm1, hms1, hd1⟩ := h1.ex
  refine ⟨⟨m, hm, hms.alloc o, fun b hb e => ?_⟩, h.ok, h1.below, fun b hb => ?_⟩
  · rcases e with e | e
    · exact hd b hb e
    · have := hms.lt b hb; omega
  · rcases hb with e | e
    · exact h1.kb b e
    · have := h.below.size; rw [e]; exact ⟨this, by simp⟩
theorem SS.more (h : SS w0 w c M k K) {K' : Nat → Prop} (hK : ∀ b, K' b → K b) : SS w0 w c M k K' := by
  obtain ⟨m, hm, hms, hd⟩ := h.ex
  exact ⟨⟨m, hm, hms, fun b hb e => hd b hb (hK b e)⟩, h.ok, h.below, fun b hb => h.kb b (hK b hb)⟩
theorem SS.last (h : SS w0 w c M k K) : Calls Try.prog 14 #[.pointer (some ⟨c, 0, none⟩)] w fun e w' => e = .returned (.int .u32 M.last) ∧ w = w' := by
  obtain ⟨m, rfl, hms, hd⟩ := h.ex
  exact last_any hms
theorem SS.at_ (h : SS w0 w c M k K) (p : Int) (ts : Nat) : Calls Try.prog 16 #[.pointer (some ⟨c, 0, none⟩), .int .u16 p, .int .u32 ts] w fun e w' => e = .returned (.agg (verA (P.at' M p ts))) ∧ SS w0 w' c M k K ∧ Below w.heap.size w w' := by
  obtain ⟨m, hm, hms, hd⟩ := h.ex
  subst hm
  exact (at_any hms p ts).mono fun e w' ⟨h1, h2⟩ => ⟨h1, h.go h2, h2⟩
theorem SS.do_ (h : SS w0 w c M k K) (hk : k ≤ 1000) {cl : P.Cl} (hc : ClOk cl) : Calls Try.prog 12 #[.pointer (some ⟨c, 0, none⟩), .agg (clA cl)] w fun e w' => e = .returned (.agg (rpA (P.step M cl).2)) ∧ SS w0 w' c (P.step M cl).1 (k + 1) K ∧ Fr (fun b => ¬ K b) w w' := by
  obtain ⟨m, hm, hms, hd⟩ := h.ex
  subst hm
  refine (do_any hms h.ok hk hc).mono fun e w' ⟨h1, m', e', hms', hf, hown⟩ => ⟨h1, ⟨⟨m', e', hms', fun b hb e => ?_⟩, P.ok_step h.ok cl, ?_, fun b hb => ⟨(h.kb b hb).1, Nat.lt_of_lt_of_le (h.kb b hb).2 hf.size⟩⟩, hf.mono fun i _ hi => hd i hi⟩
  · rcases hown b hb with h2 | h2
    · exact hd b h2 e
    · have := (h.kb b e).2; omega
  · exact Fr.below h.below hf (by have := h.below.size; omega) fun i ⟨lb, hi⟩ => hms.lo _ _ hi
/-- A value of several cells is laid into a new block. -/
theorem SS.box (h : SS w0 w c M k K) (cs cs' : Array Value) (t : TypeId) : SS w0 ((w.alloc (.cells cs t)).setRow w.heap.size cs') c M k (fun b => K b ∨ b = w.heap.size) ∧ Blk ((w.alloc (.cells cs t)).setRow w.heap.size cs') w.heap.size cs' t ∧ Below w.heap.size w ((w.alloc (.cells cs t)).setRow w.heap.size cs') := by
  have h1 := h.alloc (.cells cs t)
  have hb := Blk.alloc_new w cs t
  have f : Fr (fun b => b = w.heap.size) (w.alloc (.cells cs t)) ((w.alloc (.cells cs t)).setRow w.heap.size cs') := (Fr.refl _ _).setRow _ _ fun _ => rfl
  exact ⟨h1.fr f fun b e => .inr e, hb.setRow _, Fr.below ((Below.refl _ _).alloc (Nat.le_refl _) _) f (Nat.le_refl _) fun i e => by omega⟩
end
section
variable {P : Program} {ops : Array Oper} {rest : List Oper} {o : Oper} {a : Act} {w : World} {Q : Exit → Act → World → Prop}
theorem wpl_alloc (ty : TypeId) (cs : Array Value) (ho : o.op = .alloc ty) (hw : Region.wanted o (yielded ops a.tmps) = true) (hz : ∀ w, (zeroValue ty).run P w = .ok (.agg cs) w)
    (h : wpList P ops Q rest (a.put o.dst (.pointer (some ⟨w.heap.size, 0, none⟩))) (w.alloc (.cells cs ty))) : wpList P ops Q (o :: rest) a w :=
  wpl_run _ _ hw (by
    unfold execOp
    simp [ho, Instr.alloc, hz, newVar, newRow, Value.cells]) h
theorem run_opEq (t t2 : TypeId) (x y : Operand) (xs ys : Array Value) (b : Bool) (ho : o.op = .binOp .eql t x y t2) (hx : a.eval x = .agg xs) (hy : a.eval y = .agg ys) (hm : P.eqGuardType P.depth t = false)
    (hr : (Op.equalIn 10000 t (.agg xs) (.agg ys)).run P w = .ok b w) : (execOp a.eval o).run P w = .ok (.value (.bool b)) w := by
  unfold execOp
  simp [ho, hx, hy, run_eqGuard_agg w .eql t x y xs ys hm, binOp, Op.equal, Op.maxDepth, hr, Result.andThen]
theorem run_opNe (t t2 : TypeId) (x y : Operand) (xs ys : Array Value) (b : Bool) (ho : o.op = .binOp .neq t x y t2) (hx : a.eval x = .agg xs) (hy : a.eval y = .agg ys) (hm : P.eqGuardType P.depth t = false)
    (hr : (Op.equalIn 10000 t (.agg xs) (.agg ys)).run P w = .ok b w) : (execOp a.eval o).run P w = .ok (.value (.bool (!b))) w := by
  unfold execOp
  simp [ho, hx, hy, run_eqGuard_agg w .neq t x y xs ys hm, binOp, Op.equal, Op.maxDepth, hr, Result.andThen]
end
theorem idx38 (b : P.Bd) (w : World) : (Instr.index 38 (.agg (row 64 b)) (.int .i64 1)).run Try.prog w = .ok (bv (b 1)) w := by kernel_rfl
end Go.Proofs.Ytjaecdcddmohoaa
