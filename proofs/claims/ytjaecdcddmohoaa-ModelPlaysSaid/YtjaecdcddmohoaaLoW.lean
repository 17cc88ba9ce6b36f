/- The laws' first loop: calls are done, none of which closes the machine. -/
import Derived.Test.YtjaecdcddmohoaaLawP
import Derived.Laws.IdiomStrings
namespace Go.Proofs.Ytjaecdcddmohoaa.P
open Go.Proofs.Ytjaecdcddmohoaa
/-- A machine of eight pages, open, behind j calls at most. -/
structure Iv (M : Md) (j : Nat) : Prop where
  pages : M.pages = 8
  max : M.max = 1073741824
  shut : M.shut = false
  last : M.last ≤ j
theorem Iv.new : Iv (new 8 1073741824) 0 := ⟨rfl, rfl, rfl, Nat.le_refl _⟩
theorem Iv.step {M : Md} {j : Nat} (h : Iv M j) {c : Cl} (hk : c.kind < 7) : Iv (step M c).1 (j + 1) := by
  have k := kept_step M c
  exact ⟨k.pages.trans h.pages, k.max.trans h.max, shut_step h.shut hk, by have := k.last.2; have := h.last; omega⟩
theorem Iv.room {M : Md} {j : Nat} (h : Iv M j) (hj : j ≤ 1000) : M.last ≠ M.max := by rw [h.max]; have := h.last; omega
end Go.Proofs.Ytjaecdcddmohoaa.P
namespace Go.Proofs.Ytjaecdcddmohoaa
open Go.RowKit
set_option linter.unusedSimpArgs false
set_option linter.unusedVariables false
theorem b35_s (k t p : Int) (s : ByteArray) : Try.prog.built 35 [(0, .int .u8 k), (1, .int .u64 t), (2, .int .u16 p), (4, .string s)] = some (clA ⟨k, t, p, 0, s⟩) := by kernel_rfl
theorem b35_3 (k t p : Int) : Try.prog.built 35 [(0, .int .u8 k), (1, .int .u64 t), (2, .int .u16 p)] = some (clA ⟨k, t, p, 0, P.es⟩) := by kernel_rfl
def clL (c : P.Cl) : List Value := [.int .u8 c.kind, .int .u64 c.txn, .int .u16 c.page, .int .i64 c.off, .string c.s]
theorem zero35' : (Try.prog.info? 35).map (fun i => (i.zero, i.size)) = some (some (.agg (clA ⟨0, 0, 0, 0, P.es⟩)), 5) := by kernel_rfl
theorem zero35 : (∀ w, (zeroValue 35).run Try.prog w = .ok (.agg (clA ⟨0, 0, 0, 0, P.es⟩)) w) ∧ (Try.prog.info? 35).map (·.size) = some 5 := zero_of_info zero35'
theorem size35 (c : P.Cl) : (Try.prog.info? 35).map (·.size) = some (clA c).size := zero35.2
theorem clA_one (c : P.Cl) : (clA c).all (·.oneCell') = true := by simp [clA, Value.oneCell']
/-- Behind the first k calls of a list. -/
def LpR (w0 : World) (c N : Nat) (i : Value) (wr : World) : Prop := ∃ (k : Nat) (M : P.Md) (j : Nat), i = .int .i64 k ∧ k ≤ N ∧ SS w0 wr c M j (fun _ => False) ∧ P.Iv M j ∧ j ≤ k
theorem OpsAt.mono {w w' : World} {ao : Option Addr} {n N : Nat} {C : Nat → P.Cl} (h : OpsAt w ao n C) (hb : Below w.heap.size w w') (hN : N ≤ n) : OpsAt w' ao N C :=
  ⟨fun i hi => by
    obtain ⟨b, o, e, hlt, hr⟩ := h.at_ i (by omega)
    exact ⟨b, o, e, Nat.lt_of_lt_of_le hlt hb.size, fun j v hj => by rw [hb.cell (p := ⟨b, o + i * 5 + j, none⟩) hlt]; exact hr j v hj⟩, fun i hi => h.ok i (by omega)⟩
theorem OpsAt.some {w : World} {ao : Option Addr} {n : Nat} {C : Nat → P.Cl} (h : OpsAt w ao n C) : 0 < n → ∃ b o, ao = .some ⟨b, o, none⟩ := fun h0 => by
  obtain ⟨b, o, e, _⟩ := h.at_ 0 h0
  exact ⟨b, o, e⟩
theorem run_load_midv {P : Program} {w : World} {a : Act} {o : Oper} {b k : Nat} {cs : List Value} {ty : TypeId} {d : TypeDesc} {x : Operand} (ho : o.op = .load ty x) (hx : a.eval x = .pointer (some ⟨b, k, none⟩)) (hc : w.rangeAt b k cs)
    (hu : P.underlying ty = some d) (hd : d.isRow = true) (hi : (P.info? ty).map (·.size) = some cs.length) : (execOp a.eval o).run P w = .ok (.value (.agg cs.toArray)) w := by
  unfold execOp
  simp only [ho, hx, Sem.run_bind, Sem.run_pure, Result.andThen_ok, run_loadAt_mid w b k ty cs d hc hu hd hi]
theorem run_slice_hi {b k hi : Nat} (h : hi ≤ 64) (w : World) :
    (Instr.sliceAt 38 (.pointer (some ⟨b, k, none⟩)) none (some (.int .i64 (hi : Int))) none).run Try.prog w = .ok (.slice (some ⟨b, k, none⟩) hi 64) w := by
  obtain ⟨i, hi', hz⟩ := Option.map_eq_some_iff.1 size5
  have e1 := fun code w => bound_in (P := Try.prog) (k := .i64) (x := (hi : Int)) (y := 64) (z := hi) (code := code) (w := w) rfl h
  simp [Instr.sliceAt, Instr.sureAddr, Instr.sliceBounds, run_underlying Try.underlying38, e1, sizeOf, typeInfo, hi', hz, Addr.add_lit]
theorem rp_body (w : World) (b : Nat) (r : P.Rp) (h : Blk w b (rpA r) 40) : w.rangeAt b 3 (rowL 64 r.b) := fun j u hu => by
  rw [h.cell]
  show (Value.int .i64 r.e :: .int .u64 r.txn :: .int .u32 r.ts :: rowL 64 r.b).toArray[3 + j]? = some u
  rw [List.getElem?_toArray, Nat.add_comm]
  exact hu
theorem vr_body (w : World) (b : Nat) (v : P.Vr) (h : Blk w b (verA v) 44) : w.rangeAt b 1 (rowL 64 v.b) := fun j u hu => by
  rw [h.cell]
  show (Value.int .u32 v.ts :: rowL 64 v.b).toArray[1 + j]? = some u
  rw [List.getElem?_toArray, Nat.add_comm]
  exact hu
theorem run_back {w : World} {b : Nat} {r : P.Rp} {s : ByteArray} (h : Blk w b (rpA r) 40) (hb : ∀ j, j < s.size → r.b j = P.sb s j) (hs : s.size ≤ 64) :
    (convert 49 9 (.slice (some ⟨b, 3, none⟩) s.size 64)).run Try.prog w = .ok (.string s) w := by
  have hl : s.data.toList.length = s.size := by rw [Array.length_toList]; rfl
  have := run_convert_bytes_back (P := Try.prog) w 49 9 5 ⟨b, 3, none⟩ 64 s.data.toList Try.underlying49 Try.underlying5 Try.underlying9 (fun j hj => by
    rw [Addr.add_lit]
    have hj' : j < s.size := by rw [← hl]; exact hj
    rw [rp_body w b r h j (bv (r.b j)) (rowL_get (by omega)), hb j hj']
    unfold bv B P.sb
    have hd : s.data.getD j 0 = s.data.toList[j] := by
      have hj2 : j < s.data.size := hj'
      rw [Array.getD_eq_getD_getElem?, Array.getElem?_eq_getElem hj2, Array.getElem_toList]
      rfl
    rw [hd]
    rfl)
  rw [hl] at this
  exact this
/-- A call's cells are read out of a row and laid into a new block. -/
theorem agg_clL (c : P.Cl) : (clL c).toArray = clA c := rfl
end Go.Proofs.Ytjaecdcddmohoaa
namespace Go.Proofs.Ytjaecdcddmohoaa.P
open Go.Proofs.Ytjaecdcddmohoaa
/-- A transaction that has written one page at the newest start. -/
structure Wr (M : Md) (n q : Int) (b : Bd) (v : Vr) : Prop where
  shut : M.shut = false
  pg : q < M.pages
  room : M.last ≠ M.max
  live : get M.live n = some ⟨M.last, [(q, b)]⟩
  at_ : at' M q M.last = v
theorem wr_first {M : Md} {n q : Int} {s : ByteArray} (h : M.shut = false) (hp : q < M.pages) (hr : M.last ≠ M.max) (hg : get M.live n = some ⟨M.last, []⟩) (hs : s.size ≤ 64) :
    ∃ M', step M ⟨2, n, q, 0, s⟩ = (M', ok 0 zb) ∧ Wr M' n q (cpy (at' M q M.last).b 0 s) (at' M q M.last) ∧ M'.last = M.last :=
  ⟨_, write_first h hp hg rfl hs, ⟨h, hp, hr, (get_put _ _ _ _).trans (if_pos rfl), rfl⟩, rfl⟩
theorem Wr.read {M : Md} {n q : Int} {b : Bd} {v : Vr} (h : Wr M n q b v) : step M ⟨1, n, q, 0, es⟩ = (M, ok M.last b) :=
  read_some h.shut h.pg h.live (by simp [get]) 0
theorem Wr.abort {M : Md} {m : Nat} {n q : Int} {b : Bd} {v : Vr} (h : Wr M n q b v) (ok : Ok M m) : ∃ M', step M ⟨4, n, 0, 0, es⟩ = (M', P.ok 0 zb) ∧ M'.shut = false ∧ get M'.live n = none ∧ at' M' q M'.last = v :=
  ⟨_, abort_ok h.shut h.live 0 0, h.shut, (get_del ok.keys _ _).trans (if_pos rfl), h.at_⟩
theorem Wr.commit {M : Md} {m : Nat} {n q : Int} {b : Bd} {v : Vr} (h : Wr M n q b v) (ok : Ok M m) :
    ∃ M', step M ⟨3, n, 0, 0, es⟩ = (M', P.ok (M.last + 1) zb) ∧ M'.shut = false ∧ get M'.live n = none ∧ M'.last = M.last + 1 ∧ at' M' q M'.last = ⟨M.last + 1, b⟩ := by
  have ok' := ok_del ok n
  refine ⟨_, (commit_to h.shut h.live 0 0).trans (com_one (M := { M with live := del M.live n }) ok' rfl rfl h.room), h.shut, (get_del ok.keys _ _).trans (if_pos rfl), rfl, ?_⟩
  show pick (M.old q ++ if q = q then [⟨M.last + 1, b⟩] else []) (M.last + 1) ⟨0, zb⟩ = _
  rw [if_pos rfl, pick_append, if_pos (Nat.le_refl _)]
theorem cpy_in {b : Bd} {s : ByteArray} {j : Nat} (h : j < s.size) : cpy b 0 s j = sb s j := by
  unfold cpy
  rw [if_pos ⟨Nat.zero_le _, by omega⟩, Nat.sub_zero]
end Go.Proofs.Ytjaecdcddmohoaa.P
