/- Rows of bools in memory; over any program. -/
import Derived.Test.YtlnfolikociodaaReg
namespace Go.Proofs.Ytlnfolikociodaa
open Go.RowKit
def rowT (n : Nat) (T : Nat → Bool) : Array Value := ((List.range n).map fun j => Value.bool (T j)).toArray
def updT (T : Nat → Bool) (i : Nat) (c : Bool) : Nat → Bool := fun j => if j = i then c else T j
theorem rowT_size (n : Nat) (T : Nat → Bool) : (rowT n T).size = n := by simp [rowT]
theorem rowT_get {n : Nat} {T : Nat → Bool} {j : Nat} (h : j < n) : (rowT n T)[j]? = some (.bool (T j)) := by unfold rowT; rw [List.getElem?_toArray]; simp [h]
theorem rowT_congr {n : Nat} {T U : Nat → Bool} (h : ∀ j, j < n → T j = U j) : rowT n T = rowT n U := by
  unfold rowT
  congr 1
  refine List.map_congr_left fun j hj => ?_
  rw [h j (by simpa using hj)]
theorem rowT_set {n : Nat} {T : Nat → Bool} {i : Nat} (c : Bool) : (rowT n T).setIfInBounds i (.bool c) = rowT n (updT T i c) := by
  apply Array.ext_getElem?
  intro j
  rw [Array.getElem?_setIfInBounds]
  by_cases hj : j < n
  · by_cases e : i = j
    · subst e; rw [if_pos rfl, if_pos (by rw [rowT_size]; exact hj), rowT_get hj]; simp [updT]
    · rw [if_neg e, rowT_get hj, rowT_get hj]; simp [updT, Ne.symm e]
  · rw [Array.getElem?_eq_none (xs := rowT n (updT T i c)) (by rw [rowT_size]; omega)]
    split
    · rw [if_neg (by rw [rowT_size]; omega)]
    · rw [Array.getElem?_eq_none (by rw [rowT_size]; omega)]
theorem rowT_one (n : Nat) (T : Nat → Bool) : (rowT n T).all (·.oneCell') = true :=
  Array.all_eq_true_iff_forall_mem.2 fun v hv => by
    have : v ∈ (List.range n).map fun j => Value.bool (T j) := by simpa [rowT] using hv
    obtain ⟨j, _, rfl⟩ := List.mem_map.1 this
    rfl
theorem rowT_zero (n : Nat) : rowT n (fun _ => false) = Array.replicate n (.bool false) := by
  apply Array.ext_getElem?
  intro j
  by_cases hj : j < n
  · rw [rowT_get hj]; simp [hj]
  · rw [Array.getElem?_eq_none (by rw [rowT_size]; omega), Array.getElem?_eq_none (by simp; omega)]
theorem Blk.bit {w : World} {b n : Nat} {T : Nat → Bool} {t : TypeId} (h : Blk w b (rowT n T) t) {j : Nat} (hj : j < n) : w.cell? ⟨b, j, none⟩ = some (.bool (T j)) := by
  rw [h.cell, rowT_get hj]
theorem zero_rowT {P : Program} {t : TypeId} {n : Nat} (h : (P.info? t).map (fun i => (i.zero, i.size)) = some (some (.agg (Array.replicate n (.bool false))), n)) :
    (∀ w, (zeroValue t).run P w = .ok (.agg (rowT n (fun _ => false))) w) ∧ (P.info? t).map (·.size) = some n := by
  rw [rowT_zero]; exact zero_of_info h
theorem wpList_load_rowT {P : Program} {w : World} {ops : Array Oper} {rest : List Oper} {o : Oper} {a : Act} {Q : Exit → Act → World → Prop} (hgd : o.guard = none) (ty : TypeId) (x : Operand) (ho : o.op = .load ty x)
    (g n : Nat) (T : Nat → Bool) (t : TypeId) (hb : Blk w g (rowT n T) t) (hx : a.eval x = .pointer (some ⟨g, 0, none⟩)) (e : TypeId)
    (hu : P.underlying ty = some (.array n e)) (hi : (P.info? ty).map (·.size) = some n)
    (h : wpList P ops Q rest (a.put o.dst (.agg (rowT n T))) w) : wpList P ops Q (o :: rest) a w :=
  wpList_load_row hgd ty x ho g hx t (rowT n T) (0, 0) _ hb hu rfl (by rw [rowT_size]; exact hi) h
theorem anyH_load_rowT {P : Program} {ops : Array Oper} {Q : Exit → Act → World → Prop} {S : World → Prop} {fuel : Nat} {listed : Array Bool} {a : Act} {w : World}
    (i : Nat) (o : Oper) (ty : TypeId) (x : Operand) (g n : Nat) (T : Nat → Bool) (t e : TypeId) (hS : S w) (hb : ∀ w, S w → Blk w g (rowT n T) t)
    (hu : P.underlying ty = some (.array n e)) (hsz : (P.info? ty).map (·.size) = some n)
    (hi : ops[i]? = some o) (ho : o.op = .load ty x) (hx : a.eval x = .pointer (some ⟨g, 0, none⟩))
    (hs : Region.noSelect ops = true) (hf : Region.free .any ops listed i = true) (hr : (Region.ready .any ops listed).contains i = true)
    (hQ : ∀ c a w, Q (.panic c) (a.put o.dst (.agg (rowT n T))) w → Q (.panic c) a w) (hw : Region.wanted o (yielded ops a.tmps) = true)
    (h : wpAnyH P .any ops Q S fuel (listed.setIfInBounds i true) (a.put o.dst (.agg (rowT n T))) w) : wpAnyH P .any ops Q S (fuel + 1) listed a w :=
  wpAnyH_take hi hs hf hr hQ (.inl ⟨hw, fun w hw' => by
    have hb' := hb w hw'
    unfold execOp
    simp only [ho, hx, Instr.loadAt, Instr.sureAddr, Sem.run_bind, Sem.run_pure, Result.andThen_ok, run_loadVar_row w g t ty (rowT n T) (0, 0) _ hb' hu rfl (by rw [rowT_size]; exact hsz)]⟩) hS h
end Go.Proofs.Ytlnfolikociodaa
