/- What SealTorn leans on: two blocks mixed; regions with two new variables. -/
import Derived.Test.YtkalbhddjpnnmaaOpensW
import Derived.Test.YtkalbhddjpnnmaaRegK
namespace Go.Proofs.Ytkalbhddjpnnmaa
open Go.RowKit
set_option linter.unusedSimpArgs false
theorem bit8 : ∀ kp : BitVec 8, ∀ i : Fin 4, bits BinOp.and IntKind.u8 (B kp / 2 ^ i.1) 1 = if kp.getLsbD i.1 then 1 else 0 := by decide +kernel
theorem bit8' (kp : BitVec 8) {i : Nat} (h : i < 4) : bits BinOp.and IntKind.u8 (B kp / 2 ^ i) 1 = if kp.getLsbD i then 1 else 0 := bit8 kp ⟨i, h⟩
theorem mod16 : ∀ kp : BitVec 8, (B kp % 16 == 0) = !(kp.getLsbD 0 || kp.getLsbD 1 || kp.getLsbD 2 || kp.getLsbD 3) ∧ (B kp % 16 == 15) = (kp.getLsbD 0 && kp.getLsbD 1 && kp.getLsbD 2 && kp.getLsbD 3) := by decide +kernel
def mixF (kp : BitVec 8) (f g : Nat → BitVec 8) (i : Nat) : Nat → BitVec 8 := fun j => if j < 64 * i ∧ kp.getLsbD (j / 64) = true then g j else f j
theorem mix_zero (kp : BitVec 8) (f g : Nat → BitVec 8) : mixF kp f g 0 = f := by funext j; simp [mixF]
theorem mix_no {kp : BitVec 8} {f g : Nat → BitVec 8} {i : Nat} (h : kp.getLsbD i = false) : mixF kp f g (i + 1) = mixF kp f g i := by
  funext j
  unfold mixF
  by_cases hj : j < 64 * i
  · have h1 : j < 64 * (i + 1) := by omega
    simp [hj, h1]
  · by_cases hj2 : j < 64 * (i + 1)
    · have e : j / 64 = i := by omega
      rw [e, h]; simp
    · simp [hj, hj2]
theorem mix_yes {kp : BitVec 8} {f g : Nat → BitVec 8} {i : Nat} (hi : i < 4) (h : kp.getLsbD i = true) : row 256 (layF (mixF kp f g i) i (cutF g i)) = row 256 (mixF kp f g (i + 1)) := by
  refine row_congr fun j hj => ?_
  unfold layF lay cutF mixF
  rw [if_pos (by omega)]
  by_cases h1 : 64 * i ≤ j ∧ j < 64 * i + 64
  · have e : j / 64 = i := by omega
    rw [show ((i : Int)).toNat = i from rfl, if_pos h1, if_pos (by omega), if_pos ⟨by omega, by rw [e]; exact h⟩]
    congr 1; omega
  · rw [show ((i : Int)).toNat = i from rfl, if_neg h1]
    by_cases h2 : j < 64 * i
    · have h3 : j < 64 * (i + 1) := by omega
      simp [h2, h3]
    · rw [if_neg (fun h => h2 h.1), if_neg (fun h => by omega)]
theorem mix_none {kp : BitVec 8} {f g : Nat → BitVec 8} (h : (kp.getLsbD 0 || kp.getLsbD 1 || kp.getLsbD 2 || kp.getLsbD 3) = false) : row 256 (mixF kp f g 4) = row 256 f := by
  simp only [Bool.or_eq_false_iff] at h
  refine row_congr fun j hj => ?_
  unfold mixF
  rw [if_neg]
  rintro ⟨_, hb⟩
  have : j / 64 = 0 ∨ j / 64 = 1 ∨ j / 64 = 2 ∨ j / 64 = 3 := by omega
  rcases this with e | e | e | e <;> rw [e] at hb <;> simp_all
theorem mix_all {kp : BitVec 8} {f g : Nat → BitVec 8} (h : (kp.getLsbD 0 && kp.getLsbD 1 && kp.getLsbD 2 && kp.getLsbD 3) = true) : row 256 (mixF kp f g 4) = row 256 g := by
  simp only [Bool.and_eq_true] at h
  refine row_congr fun j hj => ?_
  unfold mixF
  rw [if_pos]
  refine ⟨by omega, ?_⟩
  have : j / 64 = 0 ∨ j / 64 = 1 ∨ j / 64 = 2 ∨ j / 64 = 3 := by omega
  rcases this with e | e | e | e <;> rw [e] <;> simp_all
theorem stampOf_congr {f g : Nat → BitVec 8} {i : Nat} (hi : i < 4) (h : ∀ j, 64 * i ≤ j → j < 64 * i + 64 → f j = g j) : stampOf f i = stampOf g i := by
  have hl : ∀ (f g : Nat → BitVec 8) n, n ≤ 8 → (∀ k, k < 8 → f k = g k) → leN f n = leN g n := fun f g n => by
    induction n with
    | zero => intros; rfl
    | succ n ih =>
      intro hn h
      unfold leN
      rw [ih (by omega) h, h _ (by omega)]
  unfold stampOf
  exact hl _ _ 8 (by omega) fun k hk => h _ (by omega) (by omega)
theorem stamp_mix (kp : BitVec 8) (x y : BitVec 64) (p q : Nat → BitVec 8) {i : Nat} (hi : i < 4) : stampOf (mixF kp (sealF x p) (sealF y q) 4) i = if kp.getLsbD i then y else x := by
  have hb : ∀ j, 64 * i ≤ j → j < 64 * i + 64 → mixF kp (sealF x p) (sealF y q) 4 j = if kp.getLsbD i then sealF y q j else sealF x p j := fun j h1 h2 => by
    unfold mixF
    have e : j / 64 = i := by omega
    rw [e]
    cases kp.getLsbD i
    · simp
    · simp; omega
  cases h : kp.getLsbD i
  · rw [stampOf_congr hi (g := sealF x p) fun j h1 h2 => by rw [hb j h1 h2, h]; rfl, stampOf_sealF]; rfl
  · rw [stampOf_congr hi (g := sealF y q) fun j h1 h2 => by rw [hb j h1 h2, h]; rfl, stampOf_sealF]; rfl
theorem torn_whole {kp : BitVec 8} {x y : BitVec 64} {p q : Nat → BitVec 8} (h1 : (kp.getLsbD 0 || kp.getLsbD 1 || kp.getLsbD 2 || kp.getLsbD 3) = true) (h2 : (kp.getLsbD 0 && kp.getLsbD 1 && kp.getLsbD 2 && kp.getLsbD 3) = false) :
    Whole (mixF kp (sealF x p) (sealF y q) 4) ↔ x = y := by
  unfold Whole
  have hs := fun i (hi : i < 4) => stamp_mix kp x y p q hi
  constructor
  · intro h
    have e1 := h 1 (by omega); have e2 := h 2 (by omega); have e3 := h 3 (by omega)
    rw [hs 1 (by omega), hs 0 (by omega)] at e1
    rw [hs 2 (by omega), hs 0 (by omega)] at e2
    rw [hs 3 (by omega), hs 0 (by omega)] at e3
    cases b0 : kp.getLsbD 0 <;> cases b1 : kp.getLsbD 1 <;> cases b2 : kp.getLsbD 2 <;> cases b3 : kp.getLsbD 3 <;> simp_all
  · rintro rfl i hi
    rw [hs i hi, hs 0 (by omega)]
    cases kp.getLsbD i <;> cases kp.getLsbD 0 <;> rfl
theorem openV_congr {f g : Nat → BitVec 8} (h : row 256 f = row 256 g) : openV f = openV g := by
  have hj := row_inj h
  have hst : ∀ i, i < 4 → stampOf f i = stampOf g i := fun i hi => stampOf_congr hi fun j h1 h2 => hj j (by omega)
  have hw : Whole f ↔ Whole g := by
    unfold Whole
    constructor
    · intro hh i hi; rw [← hst i hi, ← hst 0 (by omega)]; exact hh i hi
    · intro hh i hi; rw [hst i hi, hst 0 (by omega)]; exact hh i hi
  by_cases hf : Whole f
  · rw [openV_yes hf, openV_yes (hw.1 hf), hst 0 (by omega), row_congr (n := 224) (f := openP f) (g := openP g) fun j hj' => hj _ (by omega)]
  · rw [openV_no hf, openV_no fun h => hf (hw.2 h)]
theorem openV_seal (x : BitVec 64) (p : Nat → BitVec 8) : openV (sealF x p) = .tuple #[.int .u64 (X x), .agg (row 224 p), .bool true] := by
  rw [openV_yes (whole_sealF x p), stampOf_sealF, row_congr (openP_sealF x p)]
section
variable {P : Program} {ops : Array Oper} {Q : Exit → Act → World → Prop} {S : World → Prop} {fuel : Nat} {listed : Array Bool} {a : Act} {w : World} {K : Act → World → Prop}
/-- A whole array that S tells, in a region that ends in a store to it. -/
theorem anyK_load_blk {k : Nat} (i : Nat) (o : Oper) (ty : TypeId) (x : Operand) (g n : Nat) (f : Nat → BitVec 8) (t e : TypeId) (hS : S w) (hb : ∀ w, S w → Blk w g (row n f) t)
    (hu : P.underlying ty = some (.array n e)) (hsz : (P.info? ty).map (·.size) = some n)
    (hi : ops[i]? = some o) (ho : o.op = .load ty x) (hx : a.eval x = .pointer (some ⟨g, 0, none⟩))
    (hs : Region.noSelect ops = true) (hf : Region.free .any ops listed i = true) (hr : (Region.ready .any ops listed).contains i = true)
    (hQ : ∀ c a w, Q (.panic c) (a.put o.dst (.agg (row n f))) w → Q (.panic c) a w) (hik : i ≠ k) (hwt : waits .any ops k i = true) (hl : listed.getD k true = false) (hw : Region.wanted o (yielded ops a.tmps) = true)
    (h : wpAnyK P .any ops Q S k fuel (listed.setIfInBounds i true) (a.put o.dst (.agg (row n f))) w) : wpAnyK P .any ops Q S k (fuel + 1) listed a w :=
  anyK_if i o _ hi hs hf hr hQ hik hwt hl hw (fun w hw' => by
    have hb' := hb w hw'
    unfold execOp
    simp only [ho, hx, Instr.loadAt, Instr.sureAddr, Sem.run_bind, Sem.run_pure, Result.andThen_ok, run_loadVar_row w g t ty (row n f) (0, 0) _ hb' hu rfl (by rw [row_size]; exact hsz)]) hS h
theorem anyH_all1 (i : Nat) (hr : Region.ready .any ops listed = [i]) (h : wpOp P ops Q i (fun a' w' => S w' ∧ wpAnyH P .any ops Q S fuel (listed.setIfInBounds i true) a' w') a w) : wpAnyH P .any ops Q S (fuel + 1) listed a w :=
  wpAnyH_all hr (by simp) fun j hj => by obtain rfl : j = i := by simpa using hj
                                         exact h
theorem anyH_all2 (i k : Nat) (hr : Region.ready .any ops listed = [i, k]) (h : wpOp P ops Q i (fun a' w' => S w' ∧ wpAnyH P .any ops Q S fuel (listed.setIfInBounds i true) a' w') a w)
    (h2 : wpOp P ops Q k (fun a' w' => S w' ∧ wpAnyH P .any ops Q S fuel (listed.setIfInBounds k true) a' w') a w) : wpAnyH P .any ops Q S (fuel + 1) listed a w :=
  wpAnyH_all hr (by simp) fun j hj => by
    rcases (by simpa using hj : j = i ∨ j = k) with rfl | rfl
    · exact h
    · exact h2
theorem anyH_all3 (i k l : Nat) (hr : Region.ready .any ops listed = [i, k, l]) (h : wpOp P ops Q i (fun a' w' => S w' ∧ wpAnyH P .any ops Q S fuel (listed.setIfInBounds i true) a' w') a w)
    (h2 : wpOp P ops Q k (fun a' w' => S w' ∧ wpAnyH P .any ops Q S fuel (listed.setIfInBounds k true) a' w') a w) (h3 : wpOp P ops Q l (fun a' w' => S w' ∧ wpAnyH P .any ops Q S fuel (listed.setIfInBounds l true) a' w') a w) : wpAnyH P .any ops Q S (fuel + 1) listed a w :=
  wpAnyH_all hr (by simp) fun j hj => by
    rcases (by simpa using hj : j = i ∨ j = k ∨ j = l) with rfl | rfl | rfl
    · exact h
    · exact h2
    · exact h3
theorem wpOp_call (i : Nat) (o : Oper) (F : FuncId) (args : Array Value) (v : Value) (hi : ops[i]? = some o) (hw : Region.wanted o (yielded ops a.tmps) = true)
    (hrun : (execOp a.eval o).run P w = .ok (.enter F args) w) (R : World → Prop) (hc : Calls P F args w fun e w' => e = .returned v ∧ R w')
    (h : ∀ w', R w' → K (a.put o.dst v) w') : wpOp P ops Q i K a w := by
  unfold wpOp
  rw [hi]
  simp only [hw, if_true]
  refine .inl ?_
  unfold Oper.wp
  rw [hrun, Oper.upon_enter]
  exact hc.mono fun e w' ⟨he, hw'⟩ => by subst he; exact h w' hw'
theorem wpOp_alloc (i : Nat) (o : Oper) (ty : TypeId) (cs : Array Value) (hi : ops[i]? = some o) (ho : o.op = .alloc ty) (hw : Region.wanted o (yielded ops a.tmps) = true) (hz : ∀ w, (zeroValue ty).run P w = .ok (.agg cs) w)
    (h : K (a.put o.dst (.pointer (some ⟨w.heap.size, 0, none⟩))) (w.alloc (.cells cs ty))) : wpOp P ops Q i K a w := by
  unfold wpOp
  rw [hi]
  simp only [hw, if_true]
  refine .inl ?_
  unfold Oper.wp execOp
  simp [ho, Instr.alloc, hz, newVar, newRow, Value.cells, Oper.upon]
  exact h
theorem wpList_build_g {rest : List Oper} {o : Oper} (t : TypeId) (ho : o.op = .build t #[]) (cs : Array Value) (hz : P.built t [] = some cs) (hw : Region.wanted o (yielded ops a.tmps) = true)
    (h : wpList P ops Q rest (a.put o.dst (.agg cs)) w) : wpList P ops Q (o :: rest) a w :=
  wpList_step fun _ hK => by
    rw [if_pos hw]
    exact wp_build t #[] ho (by simp [hz]) (hK _ _ (by simpa [hz] using h))
end
end Go.Proofs.Ytkalbhddjpnnmaa
