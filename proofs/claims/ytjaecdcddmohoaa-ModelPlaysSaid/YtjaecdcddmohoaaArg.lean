/- Arguments of the machine's laws: a slice of calls; a call. -/
import Derived.Test.YtjaecdcddmohoaaDoW
import Derived.Deep.Slices
import Derived.Deep.Strs
import Derived.WideShapes
import Derived.ChangeArms
namespace Go.Proofs.Ytjaecdcddmohoaa
open Go.RowKit Go.WideShapes Go.Deep Go.ChangeShapes
theorem trod_struct5 {H : Type} {enc : TypeId × Value → H} {P : Program} {w : World} {base : Nat} {spare : Nat → Bool} {held : Bool} {t : TypeId} {f0 f1 f2 f3 f4 : Field} {fuel : Nat} {cs : List Value} {x : DataW H × List MemPlace}
    (ht : P.underlying t = some (.struct #[f0, f1, f2, f3, f4])) (h : DataW.trod enc P w base spare held fuel t cs = some x) :
    ∃ y0 y1 y2 y3 y4 n, cs.length = P.cellsOf t ∧ DataW.trod enc P w base spare held n f0.type ((cs.drop f0.offset).take (P.cellsOf f0.type)) = some y0 ∧
      DataW.trod enc P w base spare held n f1.type ((cs.drop f1.offset).take (P.cellsOf f1.type)) = some y1 ∧ DataW.trod enc P w base spare held n f2.type ((cs.drop f2.offset).take (P.cellsOf f2.type)) = some y2 ∧
      DataW.trod enc P w base spare held n f3.type ((cs.drop f3.offset).take (P.cellsOf f3.type)) = some y3 ∧ DataW.trod enc P w base spare held n f4.type ((cs.drop f4.offset).take (P.cellsOf f4.type)) = some y4 := by
  obtain ⟨xs, n, _, rfl, hl, hlen, hf⟩ := DataW.trod_struct ht h
  match xs, hlen with
  | [y0, y1, y2, y3, y4], _ => exact ⟨y0, y1, y2, y3, y4, n, hl, by simpa using hf 0 f0 rfl, by simpa using hf 1 f1 rfl, by simpa using hf 2 f2 rfl, by simpa using hf 3 f3 rfl, by simpa using hf 4 f4 rfl⟩
theorem cells35 : Try.prog.cellsOf 35 = 5 := by kernel_rfl
theorem cells5 : Try.prog.cellsOf 5 = 1 := by kernel_rfl
theorem cells32 : Try.prog.cellsOf 32 = 1 := by kernel_rfl
theorem cells33 : Try.prog.cellsOf 33 = 1 := by kernel_rfl
theorem cells3 : Try.prog.cellsOf 3 = 1 := by kernel_rfl
theorem cells9 : Try.prog.cellsOf 9 = 1 := by kernel_rfl
theorem wf_u8 {x : Int} (h : (Lit.int .u8 x).wf = true) : 0 ≤ x ∧ x ≤ 255 := by
  simp [Lit.wf, IntKind.min, IntKind.max, IntKind.bits, IntKind.signed] at h; omega
theorem wf_u16 {x : Int} (h : (Lit.int .u16 x).wf = true) : 0 ≤ x ∧ x ≤ 65535 := by
  simp [Lit.wf, IntKind.min, IntKind.max, IntKind.bits, IntKind.signed] at h; omega
theorem wf_u64 {x : Int} (h : (Lit.int .u64 x).wf = true) : 0 ≤ x := by
  simp [Lit.wf, IntKind.min, IntKind.max, IntKind.bits, IntKind.signed] at h; omega
theorem call_cells {H : Type} {enc : TypeId × Value → H} {w : World} {fuel : Nat} {cs : List Value} {x : DataW H × List MemPlace} (h : DataW.trod enc Try.prog w 0 (fun _ => true) true fuel 35 cs = some x) :
    ∃ c : P.Cl, cs = (clA c).toList ∧ ClOk c ∧ (Lit.int .u64 c.txn).wf = true := by
  obtain ⟨y0, y1, y2, y3, y4, n, hl, h0, h1, h2, h3, h4⟩ := trod_struct5 Try.underlying35 h
  rw [cells35] at hl
  match cs, hl with
  | [v0, v1, v2, v3, v4], _ =>
    simp [cells5, cells32, cells33, cells3, cells9] at h0 h1 h2 h3 h4
    obtain ⟨k, hk, _, wk⟩ := DataW.trod_int Try.underlying5 h0
    obtain ⟨t, ht, _, wt⟩ := DataW.trod_int Try.underlying32 h1
    obtain ⟨p, hp, _, wp⟩ := DataW.trod_int Try.underlying33 h2
    obtain ⟨o, ho, _, wo⟩ := DataW.trod_int Try.underlying3 h3
    obtain ⟨s, hs, _, ws⟩ := DataW.trod_string Try.underlying9 h4
    simp at hk ht hp ho hs
    exact ⟨⟨k, t, p, o, s⟩, by rw [hk, ht, hp, ho, hs]; rfl, ⟨wf_u8 wk, wf_u16 wp, wf_u64 wt, wo, ws⟩, wt⟩
instance : Inhabited P.Cl := ⟨⟨0, 0, 0, 0, ByteArray.empty⟩⟩
/-- A slice of calls that came in. -/
structure OpsAt (w : World) (ao : Option Addr) (n : Nat) (C : Nat → P.Cl) : Prop where
  at_ : ∀ i, i < n → ∃ b o, ao = some ⟨b, o, none⟩ ∧ b < w.heap.size ∧ w.rangeAt b (o + i * 5) (clA (C i)).toList
  ok : ∀ i, i < n → ClOk (C i) ∧ (Lit.int .u64 (C i).txn).wf = true
def noCl : P.Cl := ⟨0, 0, 0, 0, ByteArray.empty⟩
theorem open_ops {H : Type} {enc : TypeId × Value → H} {w : World} {r : Reach} {b0 : Nat} {v : Value} {d : DataW H} {p : List MemPlace}
    (hv : Value.okWide Try.prog w r b0 23 v) (h : DataW.Trod enc Try.prog w 0 (fun _ => true) true 23 v d p) :
    ∃ ao n cap C, v = .slice ao n cap ∧ OpsAt w ao n C ∧ n ≤ maxLen ∧ n ≤ cap := by
  obtain ⟨ao, n, cap, rfl⟩ := okWide_slice Try.underlying23 hv
  obtain ⟨fuel, hf⟩ := h
  rcases open_slice Try.underlying23 hf with ⟨hc, hx⟩ | ⟨a, len, cap', m, k, D, Pl, hc, hcl, hl, hm, hmm, hx, hall⟩
  · have hc' : Value.slice ao n cap = .slice none 0 0 := by simpa [Value.cells] using hc
    injection hc' with h1 h2 h3
    subst h1; subst h2; subst h3
    exact ⟨none, 0, 0, fun _ => noCl, rfl, ⟨fun i hi => by omega, fun i hi => by omega⟩, by unfold maxLen; omega, Nat.le_refl _⟩
  · have hc' : Value.slice ao n cap = .slice (some a) len cap' := by simpa [Value.cells] using hc
    injection hc' with h1 h2 h3
    subst h1; subst h2; subst h3
    simp only [if_true] at hmm
    subst hmm
    have each : ∀ i, i < n → ∃ q : P.Cl, (∀ j v, (clA q).toList[j]? = some v → w.cell? (a.add (i * 5 + j)) = some v) ∧ ClOk q ∧ (Lit.int .u64 q.txn).wf = true := fun i hi => by
      obtain ⟨cs, h1, h2⟩ := hall i (by omega)
      obtain ⟨q, rfl, hq, hq2⟩ := call_cells h2
      rw [cells35] at h1
      obtain ⟨_, _, hcell⟩ := World.cells?_some h1
      refine ⟨q, fun j v hj => ?_, hq, hq2⟩
      have hjl : j < 5 := by have := (List.getElem?_eq_some_iff.1 hj).1; exact this
      have e0 := hcell j (by omega)
      rw [add_add] at e0
      rw [e0]; exact hj
    obtain ⟨q, hq⟩ := choose_lt each
    refine ⟨some a, n, _, q, rfl, ⟨fun i hi => ?_, fun i hi => (hq i hi).2⟩, by omega, by omega⟩
    obtain ⟨sb, so, spot⟩ := a
    have h0 := (hq 0 (by omega)).1 0 (.int .u8 (q 0).kind) rfl
    have hspot : spot = none := by simpa [Addr.add] using World.cell?_spot h0
    subst hspot
    have hb := (hq i hi).1 0 (.int .u8 (q i).kind) rfl
    rw [Addr.add_lit] at hb
    refine ⟨sb, so, rfl, World.block_lt_of_cell? w _ hb, fun j v hj => ?_⟩
    have := (hq i hi).1 j v hj
    rw [Addr.add_lit] at this
    rw [Nat.add_assoc]
    exact this
theorem open_call {H : Type} {enc : TypeId × Value → H} {w : World} {r : Reach} {b0 : Nat} {v : Value} {d : DataW H} {p : List MemPlace}
    (hv : Value.okWide Try.prog w r b0 35 v) (h : DataW.Trod enc Try.prog w 0 (fun _ => true) true 35 v d p) : ∃ c : P.Cl, v = .agg (clA c) ∧ ClOk c ∧ (Lit.int .u64 c.txn).wf = true := by
  obtain ⟨cs, rfl, _⟩ := okWide_struct Try.underlying35 hv
  obtain ⟨fuel, hf⟩ := h
  obtain ⟨c, hc, h1, h2⟩ := call_cells hf
  exact ⟨c, by congr 1; exact Array.ext' hc, h1, h2⟩
theorem OpsAt.load {w wr : World} {ao : Option Addr} {n : Nat} {C : Nat → P.Cl} (h : OpsAt w ao n C) (hb : Below w.heap.size w wr) {i : Nat} (hi : i < n) :
    ∃ b o, ao = some ⟨b, o, none⟩ ∧ wr.rangeAt b (o + i * 5) (clA (C i)).toList := by
  obtain ⟨b, o, e, hlt, hr⟩ := h.at_ i hi
  exact ⟨b, o, e, fun j v hj => by rw [hb.cell (p := ⟨b, o + i * 5 + j, none⟩) hlt]; exact hr j v hj⟩
end Go.Proofs.Ytjaecdcddmohoaa
