/- Drawn regions: every order, one after the other. Over any program. -/
import Derived.Test.YtnemaolbmocncaaRegK
namespace Go.Proofs.Ytnemaolbmocncaa
open Go.RowKit
section
variable {P : Program} {ops : Array Oper} {Q : Exit → Act → World → Prop} {S : World → Prop} {fuel : Nat} {listed : Array Bool} {a : Act} {w : World} {K : Act → World → Prop} {k : Nat}
theorem anyH_all1 (i : Nat) (hr : Region.ready .any ops listed = [i]) (h : wpOp P ops Q i (fun a' w' => S w' ∧ wpAnyH P .any ops Q S fuel (listed.setIfInBounds i true) a' w') a w) : wpAnyH P .any ops Q S (fuel + 1) listed a w :=
  wpAnyH_all hr (by simp) fun j hj => by obtain rfl : j = i := by simpa using hj
                                         exact h
theorem anyH_all2 (i k : Nat) (hr : Region.ready .any ops listed = [i, k]) (h : wpOp P ops Q i (fun a' w' => S w' ∧ wpAnyH P .any ops Q S fuel (listed.setIfInBounds i true) a' w') a w)
    (h2 : wpOp P ops Q k (fun a' w' => S w' ∧ wpAnyH P .any ops Q S fuel (listed.setIfInBounds k true) a' w') a w) : wpAnyH P .any ops Q S (fuel + 1) listed a w :=
  wpAnyH_all hr (by simp) fun j hj => by
    rcases (by simpa using hj : j = i ∨ j = k) with rfl | rfl
    · exact h
    · exact h2
theorem anyH_all3 (i k l : Nat) (hr : Region.ready .any ops listed = [i, k, l]) (h : wpOp P ops Q i (fun a' w' => S w' ∧ wpAnyH P .any ops Q S fuel (listed.setIfInBounds i true) a' w') a w)
    (h2 : wpOp P ops Q k (fun a' w' => S w' ∧ wpAnyH P .any ops Q S fuel (listed.setIfInBounds k true) a' w') a w) (h3 : wpOp P ops Q l (fun a' w' => S w' ∧ wpAnyH P .any ops Q S fuel (listed.setIfInBounds l true) a' w') a w) : wpAnyH P .any ops Q S (fuel + 1) listed a w :=
  wpAnyH_all hr (by simp) fun j hj => by
    rcases (by simpa using hj : j = i ∨ j = k ∨ j = l) with rfl | rfl | rfl
    · exact h
    · exact h2
    · exact h3
theorem wpOp_run (i : Nat) (o : Oper) (v : Value) (w' : World) (hi : ops[i]? = some o) (hw : Region.wanted o (yielded ops a.tmps) = true) (hrun : (execOp a.eval o).run P w = .ok (.value v) w')
    (h : K (a.put o.dst v) w') : wpOp P ops Q i K a w := by
  unfold wpOp
  rw [hi]
  simp only [hw, if_true]
  refine .inl ?_
  unfold Oper.wp
  rw [hrun]
  exact h
theorem wpOp_call (i : Nat) (o : Oper) (F : FuncId) (args : Array Value) (v : Value) (hi : ops[i]? = some o) (hw : Region.wanted o (yielded ops a.tmps) = true)
    (hrun : (execOp a.eval o).run P w = .ok (.enter F args) w) (R : World → Prop) (hc : Calls P F args w fun e w' => e = .returned v ∧ R w')
    (h : ∀ w', R w' → K (a.put o.dst v) w') : wpOp P ops Q i K a w := by
  unfold wpOp
  rw [hi]
  simp only [hw, if_true]
  refine .inl ?_
  unfold Oper.wp
  rw [hrun, Oper.upon_enter]
  exact hc.mono fun e w' ⟨he, hw'⟩ => by subst he; exact h w' hw'
theorem wpOp_alloc (i : Nat) (o : Oper) (ty : TypeId) (cs : Array Value) (hi : ops[i]? = some o) (ho : o.op = .alloc ty) (hw : Region.wanted o (yielded ops a.tmps) = true) (hz : ∀ w, (zeroValue ty).run P w = .ok (.agg cs) w)
    (h : K (a.put o.dst (.pointer (some ⟨w.heap.size, 0, none⟩))) (w.alloc (.cells cs ty))) : wpOp P ops Q i K a w := by
  unfold wpOp
  rw [hi]
  simp only [hw, if_true]
  refine .inl ?_
  unfold Oper.wp execOp
  simp [ho, Instr.alloc, hz, newVar, newRow, Value.cells, Oper.upon]
  exact h
theorem anyK_alls {l : List Nat} (hr : Region.ready .any ops listed = l) (hl : l ≠ []) (h : ∀ i ∈ l, wpOp P ops Q i (fun a' w' => S w' ∧ wpAnyK P .any ops Q S k fuel (listed.setIfInBounds i true) a' w') a w) : wpAnyK P .any ops Q S k (fuel + 1) listed a w :=
  ⟨fun h0 => absurd (hr.symm.trans h0) hl, fun i hi => by
    rw [hr] at hi
    exact wpOp_mono (fun a' w' h' => ⟨fun _ => h'.1, h'.2⟩) (h i hi)⟩
theorem anyK_all1 (i : Nat) (hr : Region.ready .any ops listed = [i]) (h : wpOp P ops Q i (fun a' w' => S w' ∧ wpAnyK P .any ops Q S k fuel (listed.setIfInBounds i true) a' w') a w) : wpAnyK P .any ops Q S k (fuel + 1) listed a w :=
  anyK_alls hr (by simp) fun j hj => by obtain rfl : j = i := by simpa using hj
                                        exact h
theorem anyK_all2 (i j : Nat) (hr : Region.ready .any ops listed = [i, j]) (h : wpOp P ops Q i (fun a' w' => S w' ∧ wpAnyK P .any ops Q S k fuel (listed.setIfInBounds i true) a' w') a w)
    (h2 : wpOp P ops Q j (fun a' w' => S w' ∧ wpAnyK P .any ops Q S k fuel (listed.setIfInBounds j true) a' w') a w) : wpAnyK P .any ops Q S k (fuel + 1) listed a w :=
  anyK_alls hr (by simp) fun l hl => by
    rcases (by simpa using hl : l = i ∨ l = j) with rfl | rfl
    · exact h
    · exact h2
end
end Go.Proofs.Ytnemaolbmocncaa
