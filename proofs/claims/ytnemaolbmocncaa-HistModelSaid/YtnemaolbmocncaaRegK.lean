/- Regions whose order is drawn, and that end in a store to what they load: what S tells is asked for only till number k has come up. Over any program. -/
import Derived.Test.YtnemaolbmocncaaReg
namespace Go.Proofs.Ytnemaolbmocncaa
open Go.RowKit
section
variable {P : Program} {ops : Array Oper} {Q : Exit → Act → World → Prop} {md : Region.Mode} {S : World → Prop} {k : Nat}
/-- Whatever order is picked: S holds behind every operation that is carried out ahead of number k. -/
def wpAnyK (P : Program) (md : Region.Mode) (ops : Array Oper) (Q : Exit → Act → World → Prop) (S : World → Prop) (k : Nat) : Nat → Array Bool → Act → World → Prop
  | 0, listed, a, w => Region.ready md ops listed = [] ∧ Q .normal a w
  | fuel + 1, listed, a, w =>
    (Region.ready md ops listed = [] → Q .normal a w) ∧
    ∀ i ∈ Region.ready md ops listed, wpOp P ops Q i (fun a' w' => ((listed.setIfInBounds i true).getD k true = false → S w') ∧ wpAnyK P md ops Q S k fuel (listed.setIfInBounds i true) a' w') a w
theorem wpAny_of_K : ∀ (fuel : Nat) (listed : Array Bool) (a : Act) (w : World), wpAnyK P md ops Q S k fuel listed a w → wpAny P md ops Q fuel listed a w
  | 0, _, _, _, h => h
  | fuel + 1, _, _, _, h => ⟨h.1, fun i hi => wpOp_mono (fun a' w' h' => wpAny_of_K fuel _ a' w' h'.2) (h.2 i hi)⟩
/-- Number k waits for number i. -/
def waits (md : Region.Mode) (ops : Array Oper) (k i : Nat) : Bool := match ops[k]? with | some o => o.after.any fun e => Region.binds md e && e.on == i | none => false
theorem waits_spec {i : Nat} (h : waits md ops k i = true) {ok : Oper} (hk : ops[k]? = some ok) : ∃ e ∈ ok.after, Region.binds md e = true ∧ e.on = i := by
  unfold waits at h
  rw [hk] at h
  simp only [Array.any_eq_true', Bool.and_eq_true, beq_iff_eq] at h
  obtain ⟨e, he, hb, ho⟩ := h
  exact ⟨e, he, hb, ho⟩
theorem wpAnyK_first {T : World → Prop} {i : Nat} {oi : Oper} {v : Value} (hi : ops[i]? = some oi) (hsel : ∀ (j : Nat) (o : Oper) cs b, ops[j]? = some o → o.op ≠ .select cs b)
    (hQ : ∀ c a w, Q (.panic c) (a.put oi.dst v) w → Q (.panic c) a w) (hik : i ≠ k) (hT : (∀ w, T w) ∨ ((∀ w, S w → T w) ∧ waits md ops k i = true)) :
    ∀ (fuel : Nat) (listed : Array Bool) (a : Act) (w : World),
      (∀ j oj, ops[j]? = some oj → j ≠ i → listed.getD j true = false → (∀ e ∈ oj.after, Region.binds md e = true → e.on ≠ i) → oi.apart ops oj = true) →
      i ∈ Region.ready md ops listed → YieldsIf P ops T oi v a → T w → ((∀ w, T w) ∨ listed.getD k true = false) →
      wpAnyK P md ops Q S k fuel (listed.setIfInBounds i true) (a.put oi.dst v) w → (listed.getD k true = false → S w) → wpAnyK P md ops Q S k (fuel + 1) listed a w := by
  intro fuel
  induction fuel with
  | zero =>
    intro listed a w _ hr hy hw hl H hSw
    refine ⟨fun h => (by rw [h] at hr; cases hr), fun j hj => ?_⟩
    by_cases hji : j = i
    · subst hji
      exact hy.wpOp hi hw ⟨fun h => hSw (by rwa [getD_set_ne true hik] at h), H⟩
    · have := ready_mono hj hji
      rw [H.1] at this
      cases this
  | succ fuel ih =>
    intro listed a w hfree hr hy hw hl H hSw
    refine ⟨fun h => (by rw [h] at hr; cases hr), fun j hj => ?_⟩
    by_cases hji : j = i
    · subst hji
      exact hy.wpOp hi hw ⟨fun h => hSw (by rwa [getD_set_ne true hik] at h), H⟩
    · have h1 := H.2 j (ready_mono hj hji)
      obtain ⟨hjun, oj, hoj, hall⟩ := mem_ready.1 hj
      have hnot : ∀ e ∈ oj.after, Region.binds md e = true → e.on ≠ i := fun e he hb heq => by
        have h1 := hall e he hb
        have h0 := (mem_ready.1 hr).1
        rw [heq] at h1
        rcases Nat.lt_or_ge i listed.size with h' | h'
        · simp [h'] at h0 h1; rw [h0] at h1; cases h1
        · simp [Array.getElem?_eq_none h'] at h1
      have h2 := wpOp_putIf hoj (hfree j oj hoj hji hjun hnot) (fun cs b => hsel i oi cs b hi) (fun cs b => hsel j oj cs b hoj) hQ hy h1
      have hfree' : ∀ k ok, ops[k]? = some ok → k ≠ i → (listed.setIfInBounds j true).getD k true = false →
          (∀ e ∈ ok.after, Region.binds md e = true → e.on ≠ i) → oi.apart ops ok = true := fun k ok hk hki hun hno => by
        refine hfree k ok hk hki ?_ hno
        by_cases hjk : j = k
        · subst hjk; exact hjun
        · rw [getD_set_ne true hjk] at hun; exact hun
      refine wpOp_mono (fun a' w' h3 => ?_) h2
      have hcomm : (listed.setIfInBounds i true).setIfInBounds j true = (listed.setIfInBounds j true).setIfInBounds i true := Array.setIfInBounds_comm _ _ (Ne.symm hji)
      have hS' : (listed.setIfInBounds j true).getD k true = false → S w' := fun h => h3.2.1 (by rw [hcomm, getD_set_ne true hik]; exact h)
      have hl' : (∀ w, T w) ∨ (listed.setIfInBounds j true).getD k true = false := by
        rcases hl with h | h
        · exact .inl h
        · rcases hT with hT | ⟨_, hwt⟩
          · exact .inl hT
          · refine .inr ?_
            have hjk : j ≠ k := fun e => by
              subst e
              obtain ⟨e, he, hb, ho⟩ := waits_spec hwt hoj
              exact hnot e he hb ho
            rw [getD_set_ne true hjk]; exact h
      have hT' : T w' := by
        rcases hl' with h | h
        · exact h _
        · rcases hT with hT | ⟨hST, _⟩
          · exact hT _
          · exact hST _ (hS' h)
      refine ⟨hS', ih (listed.setIfInBounds j true) a' w' hfree' (ready_mono hr (Ne.symm hji)) h3.1 hT' hl' ?_ hS'⟩
      rw [← hcomm]
      exact h3.2.2
variable {fuel : Nat} {listed : Array Bool} {a : Act} {w : World}
theorem anyK_pure (i : Nat) (o : Oper) (v : Value) (hi : ops[i]? = some o) (hs : Region.noSelect ops = true) (hf : Region.free .any ops listed i = true) (hr : (Region.ready .any ops listed).contains i = true)
    (hQ : ∀ c a w, Q (.panic c) (a.put o.dst v) w → Q (.panic c) a w) (hik : i ≠ k) (hw : Region.wanted o (yielded ops a.tmps) = true) (hv : ∀ w, (execOp a.eval o).run P w = .ok (.value v) w) (hS : S w)
    (h : wpAnyK P .any ops Q S k fuel (listed.setIfInBounds i true) (a.put o.dst v) w) : wpAnyK P .any ops Q S k (fuel + 1) listed a w :=
  wpAnyK_first (T := fun _ => True) hi (Region.noSelect_spec hs) hQ hik (.inl fun _ => trivial) fuel listed a w (Region.free_spec hi hf) (by simpa using hr) (.inl ⟨hw, fun w _ => hv w⟩) trivial (.inl fun _ => trivial) h fun _ => hS
theorem anyK_skip (i : Nat) (o : Oper) (hi : ops[i]? = some o) (hs : Region.noSelect ops = true) (hf : Region.free .any ops listed i = true) (hr : (Region.ready .any ops listed).contains i = true)
    (hQ : ∀ c a w, Q (.panic c) (a.put o.dst undef) w → Q (.panic c) a w) (hik : i ≠ k) (hw : Region.wanted o (yielded ops a.tmps) = false) (hS : S w)
    (h : wpAnyK P .any ops Q S k fuel (listed.setIfInBounds i true) (a.put o.dst undef) w) : wpAnyK P .any ops Q S k (fuel + 1) listed a w :=
  wpAnyK_first (T := fun _ => True) hi (Region.noSelect_spec hs) hQ hik (.inl fun _ => trivial) fuel listed a w (Region.free_spec hi hf) (by simpa using hr) (.inr ⟨hw, rfl⟩) trivial (.inl fun _ => trivial) h fun _ => hS
theorem anyK_if (i : Nat) (o : Oper) (v : Value) (hi : ops[i]? = some o) (hs : Region.noSelect ops = true) (hf : Region.free .any ops listed i = true) (hr : (Region.ready .any ops listed).contains i = true)
    (hQ : ∀ c a w, Q (.panic c) (a.put o.dst v) w → Q (.panic c) a w) (hik : i ≠ k) (hwt : waits .any ops k i = true) (hl : listed.getD k true = false) (hw : Region.wanted o (yielded ops a.tmps) = true)
    (hv : ∀ w, S w → (execOp a.eval o).run P w = .ok (.value v) w) (hS : S w)
    (h : wpAnyK P .any ops Q S k fuel (listed.setIfInBounds i true) (a.put o.dst v) w) : wpAnyK P .any ops Q S k (fuel + 1) listed a w :=
  wpAnyK_first (T := S) hi (Region.noSelect_spec hs) hQ hik (.inr ⟨fun _ h => h, hwt⟩) fuel listed a w (Region.free_spec hi hf) (by simpa using hr) (.inl ⟨hw, hv⟩) hS (.inr hl) h fun _ => hS
theorem anyK_one (i : Nat) (o : Oper) (hr : Region.ready .any ops listed = [i]) (hi : ops[i]? = some o) (hw : Region.wanted o (yielded ops a.tmps) = true)
    (h : o.wp P a w (fun a' w' => S w' ∧ wpAnyK P .any ops Q S k fuel (listed.setIfInBounds i true) a' w') Q) : wpAnyK P .any ops Q S k (fuel + 1) listed a w := by
  refine ⟨(fun h0 => by rw [hr] at h0; cases h0), fun j hj => ?_⟩
  rw [hr] at hj
  obtain rfl : j = i := by simpa using hj
  unfold wpOp
  rw [hi]
  simp only [hw, if_true]
  exact .inl (Oper.wp_mono (fun a' w' h' => ⟨fun _ => h'.1, h'.2⟩) h)
theorem anyK_last (o : Oper) (hr : Region.ready .any ops listed = [k]) (hi : ops[k]? = some o) (hk : k < listed.size) (hw : Region.wanted o (yielded ops a.tmps) = true)
    (h : o.wp P a w (fun a' w' => wpAnyK P .any ops Q S k fuel (listed.setIfInBounds k true) a' w') Q) : wpAnyK P .any ops Q S k (fuel + 1) listed a w := by
  refine ⟨(fun h0 => by rw [hr] at h0; cases h0), fun j hj => ?_⟩
  rw [hr] at hj
  obtain rfl : j = k := by simpa using hj
  unfold wpOp
  rw [hi]
  simp only [hw, if_true]
  exact .inl (Oper.wp_mono (fun a' w' h' => ⟨(fun h0 => by simp [hk] at h0), h'⟩) h)
theorem anyK_call (i : Nat) (o : Oper) (F : FuncId) (args : Array Value) (v : Value) (hr : Region.ready .any ops listed = [i]) (hi : ops[i]? = some o) (hw : Region.wanted o (yielded ops a.tmps) = true)
    (hrun : (execOp a.eval o).run P w = .ok (.enter F args) w) (R : World → Prop) (hc : Calls P F args w fun e w' => e = .returned v ∧ R w')
    (h : ∀ w', R w' → S w' ∧ wpAnyK P .any ops Q S k fuel (listed.setIfInBounds i true) (a.put o.dst v) w') : wpAnyK P .any ops Q S k (fuel + 1) listed a w := by
  refine anyK_one i o hr hi hw ?_
  unfold Oper.wp
  rw [hrun, Oper.upon_enter]
  exact hc.mono fun e w' ⟨he, hw'⟩ => by subst he; exact h w' hw'
/-- A call in a region without such an end; what the callee leaves is told outside S. -/
theorem anyH_callR (i : Nat) (o : Oper) (F : FuncId) (args : Array Value) (v : Value) (hr : Region.ready .any ops listed = [i]) (hi : ops[i]? = some o) (hw : Region.wanted o (yielded ops a.tmps) = true)
    (hrun : (execOp a.eval o).run P w = .ok (.enter F args) w) (R : World → Prop) (hc : Calls P F args w fun e w' => e = .returned v ∧ R w')
    (h : ∀ w', R w' → S w' ∧ wpAnyH P .any ops Q S fuel (listed.setIfInBounds i true) (a.put o.dst v) w') : wpAnyH P .any ops Q S (fuel + 1) listed a w := by
  refine anyH_one i o hr hi hw ?_
  unfold Oper.wp
  rw [hrun, Oper.upon_enter]
  exact hc.mono fun e w' ⟨he, hw'⟩ => by subst he; exact h w' hw'
theorem anyK_done {listed : Array Bool} {a : Act} {w : World} (hr : Region.ready .any ops listed = []) (h : Q .normal a w) : ∀ fuel, wpAnyK P .any ops Q S k fuel listed a w
  | 0 => ⟨hr, h⟩
  | _ + 1 => ⟨fun _ => h, by rw [hr]; simp⟩
theorem wp_region_K {id : Nat} {a : Act} {w : World} (hm : P.follows .mixedOrders = true)
    (h : wpAnyK P .any ops Q S k ops.size (Array.replicate ops.size false) a { w with drawn := w.drawn + 1 }) : (Code.region id ops true).wp P Q a w :=
  wp_region_any hm (wpAny_of_K _ _ _ _ h)
end
end Go.Proofs.Ytnemaolbmocncaa
