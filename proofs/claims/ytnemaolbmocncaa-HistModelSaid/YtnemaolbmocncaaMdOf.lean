/- The walk of of: a call of a transaction. -/
import Derived.Test.YtnemaolbmocncaaMdTx
import Derived.Test.YtnemaolbmocncaaOrd
import Derived.Test.YtnemaolbmocncaaPl
namespace Go.Proofs.Ytnemaolbmocncaa
open Go.RowKit
set_option linter.unusedSimpArgs false
set_option linter.unusedVariables false
theorem field_b (v : P.Vr) (w : World) : (Instr.field 99 (.agg (verA v)) 1).run Try.prog w = .ok (.agg (row 64 v.b)) w := by kernel_rfl
/-- of, at work. -/
structure OfS (base : Nat) (w wr : World) (m : MW) (M : P.Md) (c : P.Cl) : Prop where
  below : Below w.heap.size w wr
  ms : MS base wr m M
  box : Blk wr w.heap.size (clA c) 59
  res : Blk wr (w.heap.size + 1) (rpA ⟨0, 0, 0, P.zb⟩) 56
  lt : ∀ b, m.own b → b < w.heap.size
section
variable {base : Nat} {w wr w' : World} {m : MW} {M : P.Md} {c : P.Cl}
theorem OfS.fr (h : OfS base w wr m M c) {S : Nat → Prop} (k : Fr S wr w') (hS : ∀ i, S i → w.heap.size + 1 < i) : OfS base w w' m M c :=
  ⟨Fr.below h.below k (Nat.le_refl _) fun i hi => by have := hS i hi; omega, h.ms.fr k fun b hb hs => by have := h.lt b hb; have := hS b hs; omega, h.box.fr k (fun hs => by have := hS _ hs; omega), h.res.fr k (fun hs => by have := hS _ hs; omega), h.lt⟩
theorem OfS.go (h : OfS base w wr m M c) (k : Below wr.heap.size wr w') : OfS base w w' m M c := h.fr (Fr.of_below k fun _ => False) fun _ h => h.elim
theorem OfS.drew (h : OfS base w wr m M c) : OfS base w wr.drew m M c := h.go (Below.refl _ _).drew
theorem OfS.b0 (h : OfS base w wr m M c) : wr.cell? ⟨w.heap.size, 0, none⟩ = some (.int .u8 c.kind) := by rw [h.box.cell]; rfl
theorem OfS.b1 (h : OfS base w wr m M c) : wr.cell? ⟨w.heap.size, 1, none⟩ = some (.int .u64 c.txn) := by rw [h.box.cell]; rfl
theorem OfS.b2 (h : OfS base w wr m M c) : wr.cell? ⟨w.heap.size, 2, none⟩ = some (.int .u16 c.page) := by rw [h.box.cell]; rfl
theorem OfS.b3 (h : OfS base w wr m M c) : wr.cell? ⟨w.heap.size, 3, none⟩ = some (.int .i64 c.off) := by rw [h.box.cell]; rfl
theorem OfS.b4 (h : OfS base w wr m M c) : wr.cell? ⟨w.heap.size, 4, none⟩ = some (.string c.s) := by rw [h.box.cell]; rfl
end
/-- What a call's numbers are. -/
structure ClOk (c : P.Cl) : Prop where
  kind : 0 ≤ c.kind ∧ c.kind ≤ 255
  page : 0 ≤ c.page ∧ c.page ≤ 65535
  txn : 0 ≤ c.txn
  off : (Lit.int .i64 c.off).wf = true
  s : c.s.size ≤ maxLen
def BadB (bb : Bool) (M : P.Md) (c : P.Cl) : Prop := bb = true ↔ P.badC M c
def dataB (c : P.Cl) : Bool := c.kind == 1 || c.kind == 2
theorem MS.lookL {base : Nat} {w : World} {m : MW} {M : P.Md} (h : MS base w m M) (k : Int) : (Instr.lookup 88 (.map (some m.l)) (.int .u64 k) false).run Try.prog w = .ok (.pointer ((get m.txs k).map fun x => ⟨x.1, 0, none⟩)) w := by
  have hl := run_lookupA (P := Try.prog) Try.underlying88 Try.underlying52 h.l k (zero59 w) false
  have e := get_map m.txs (fun x => Value.pointer (some ⟨x.1, 0, none⟩)) k
  rw [e] at hl
  cases hg : get m.txs k with
  | none => rw [hg] at hl; exact hl
  | some x => rw [hg] at hl; exact hl
theorem OfS.fin {base : Nat} {w wr w9 : World} {m : MW} {M : P.Md} {c : P.Cl} (h : OfS base w wr m M c) (k : Fr (fun i => i = w.heap.size + 1) wr w9) :
    ∃ m', m'.c = m.c ∧ MS base w9 m' M ∧ Fr m.own w w9 ∧ ∀ b, m'.own b → m.own b ∨ w.heap.size ≤ b :=
  ⟨m, rfl, h.ms.fr k fun b hb e => (by have := h.lt b hb; omega), Fr.of_below (Fr.below h.below k (Nat.le_refl _) fun i hi => by omega) m.own, fun b hb => .inl hb⟩
theorem TxAt.t0 {w : World} {t n : Nat} {T : P.Tx} (h : TxAt w t n T) : w.cell? ⟨t, 0, none⟩ = some (.int .u32 T.start) := by rw [h.t.cell]; rfl
theorem TxAt.t1 {w : World} {t n : Nat} {T : P.Tx} (h : TxAt w t n T) : w.cell? ⟨t, 1, none⟩ = some (.map (some n)) := by rw [h.t.cell]; rfl
def mineB (T : P.Tx) (p : Int) : P.Bd := (get T.now p).getD P.zb
theorem TxAt.look {w : World} {t n : Nat} {T : P.Tx} (h : TxAt w t n T) (p : Int) : (Instr.lookup 92 (.map (some n)) (.int .u16 p) true).run Try.prog w = .ok (.tuple #[.agg (row 64 (mineB T p)), .bool (get T.now p).isSome]) w := by
  have hl := run_lookupA (P := Try.prog) Try.underlying92 Try.underlying41 h.n p (zero38.1 w) true
  rw [get_map T.now (fun b => Value.agg (row 64 b)) p] at hl
  unfold mineB
  cases hg : get T.now p with
  | none => rw [hg] at hl; exact hl
  | some x => rw [hg] at hl; exact hl
theorem wpList_load_midR {P : Program} {ops : Array Oper} {rest : List Oper} {op : Oper} {a : Act} {w : World} {Q : Exit → Act → World → Prop} (hgd : op.guard = none) (ty : TypeId) (x : Operand) (ho : op.op = .load ty x)
    (b o : Nat) (hx : a.eval x = .pointer (some ⟨b, o, none⟩)) (n : Nat) (f : Nat → BitVec 8) (d : TypeDesc) (hc : w.rangeAt b o (rowL n f)) (hu : P.underlying ty = some d) (hd : d.isRow = true) (hi : (P.info? ty).map (·.size) = some n)
    (h : wpList P ops Q rest (a.put op.dst (.agg (row n f))) w) : wpList P ops Q (op :: rest) a w :=
  wpList_load_mid hgd ty x ho b o hx (rowL n f) d hc hu hd (by rw [rowL_length]; exact hi) h
set_option maxRecDepth 100000 in
set_option maxHeartbeats 16000000 in
theorem mof_any {base : Nat} {w : World} {m : MW} {M : P.Md} {c : P.Cl} {k : Nat} (h : MS base w m M) (ok : P.Ok M k) (hc : ClOk c) :
    Calls Try.prog 33 #[.pointer (some ⟨m.c, 0, none⟩), .agg (clA c)] w fun e w' => e = .returned (.agg (rpA (P.of M c).2)) ∧
      ∃ m', m'.c = m.c ∧ MS base w' m' (P.of M c).1 ∧ Fr m.own w w' ∧ ∀ b, m'.own b → m.own b ∨ w.heap.size ≤ b := by
  have hz40 := zero40.1
  have e1 : (w.alloc (.cells (clA c) 59)).heap.size = w.heap.size + 1 := by simp
  have hS : OfS base w ((w.alloc (.cells (clA c) 59)).alloc (.cells (rpA ⟨0, 0, 0, P.zb⟩) 56)) m M c := ⟨((Below.refl _ _).alloc (Nat.le_refl _) _).alloc (by simp) _, (h.alloc _).alloc _, (Blk.alloc_new _ _ _).alloc _, by
    have := Blk.alloc_new (w.alloc (.cells (clA c) 59)) (rpA ⟨0, 0, 0, P.zb⟩) 56
    rwa [e1] at this, h.lt⟩
  go_enter Try.func33, Try.ntmps33
  go_upto_region 1 with (fail)
  go_cut [5] (fun s5 wx => s5 = .bool (dataB c) ∧ OfS base w wx m M c)
  case first =>
    have b0 := hS.b0
    by_cases h1 : c.kind = 1
    · have hd : dataB c = true := by simp [dataB, h1]
      rw [h1] at b0
      clear h1
      replace hd := Lib.hid hd
      go_wp2_with fail
      go_meet
      case rel => exact ⟨by rw [hd.out], hS⟩
    · by_cases h2 : c.kind = 2
      · have hd : dataB c = true := by simp [dataB, h2]
        rw [h2] at b0
        clear h1 h2
        replace hd := Lib.hid hd
        go_wp2_with fail
        go_meet
        case rel => exact ⟨by rw [hd.out], hS⟩
      · have hd : dataB c = false := by simp [dataB, h1, h2]
        have e1 : (c.kind == 1) = false := by simp [h1]
        have e2 : (c.kind == 2) = false := by simp [h2]
        clear h1 h2
        replace hd := Lib.hid hd
        go_wp2_with fail
        go_meet
        case rel => exact ⟨by rw [hd.out], hS⟩
  case rest =>
  clear hS
  obtain ⟨rfl, hS⟩ := hcut
  go_upto_region 2 with (fail)
  go_cut [5, 52] (fun s5 s52 wx => s5 = .bool (dataB c) ∧ ∃ bb : Bool, s52 = .bool bb ∧ OfS base w wx m M c ∧ BadB bb M c)
  case first =>
    have hwp : IntKind.i64.wrap c.page = c.page := IntWalk.i64_in _ (by have := hc.page; omega)
    by_cases h1 : c.kind = 1
    · have hd : dataB c = true := by simp [dataB, h1]
      rw [hd]
      have hb0 : ∀ w', OfS base w w' m M c → w'.cell? ⟨w.heap.size, 0, none⟩ = some (.int .u8 1) := fun w' h => by rw [← h1]; exact h.b0
      by_cases hp : M.pages ≤ c.page
      · have HB : BadB true M c := ⟨fun _ => .inl ⟨.inl h1, hp⟩, fun _ => rfl⟩
        clear h1
        replace hd := Lib.hid hd
        refine wp_region_held (S := (fun w' => OfS base w w' m M c)) (by kernel_rfl) ?_
        change wpAnyH _ _ _ _ _ _ _ _ (World.drew _)
        (try simp only [Act.put])
        replace hS := hS.drew
        refine anyH_pure 0 _ ?_ rfl (by kernel_rfl) (by kernel_rfl) (by kernel_rfl) (fun _ _ _ h => h) rfl ?_ hS ?_
        rotate_left
        · (intro w'; go_simp; (try with_reducible rfl))
        (try simp only [Act.put, Z1, Z2, Z4, Z5, Z6])
        refine anyH_pure 1 _ ?_ rfl (by kernel_rfl) (by kernel_rfl) (by kernel_rfl) (fun _ _ _ h => h) rfl ?_ hS ?_
        rotate_left
        · (intro w'; go_simp; (try with_reducible rfl))
        (try simp only [Act.put, Z1, Z2, Z3, Z4, Z5, Z6])
        refine anyH_pure 2 _ ?_ rfl (by kernel_rfl) (by kernel_rfl) (by kernel_rfl) (fun _ _ _ h => h) rfl ?_ hS ?_
        rotate_left
        · (intro w'; go_simp; (try with_reducible rfl))
        (try simp only [Act.put, Z1, Z2, Z3, Z4, Z5, Z6])
        refine anyH_if 3 _ ?_ rfl (by kernel_rfl) (by kernel_rfl) (by kernel_rfl) (fun _ _ _ h => h) rfl ?_ hS ?_
        rotate_left
        · (intro w' h; have c0 := h.b2; go_simp; (try with_reducible rfl))
        (try simp only [Act.put, Z1, Z2, Z3, Z4, Z5, Z6])
        refine anyH_pure 4 _ ?_ rfl (by kernel_rfl) (by kernel_rfl) (by kernel_rfl) (fun _ _ _ h => h) rfl ?_ hS ?_
        rotate_left
        · (intro w'; go_simp; (try with_reducible rfl))
        (try simp only [Act.put, Z1, Z2, Z3, Z4, Z5, Z6])
        refine anyH_pure 5 _ ?_ rfl (by kernel_rfl) (by kernel_rfl) (by kernel_rfl) (fun _ _ _ h => h) rfl ?_ hS ?_
        rotate_left
        · (intro w'; go_simp; (try with_reducible rfl))
        (try simp only [Act.put, Z1, Z2, Z3, Z4, Z5, Z6])
        refine anyH_pure 6 _ ?_ rfl (by kernel_rfl) (by kernel_rfl) (by kernel_rfl) (fun _ _ _ h => h) rfl ?_ hS ?_
        rotate_left
        · (intro w'; go_simp; (try with_reducible rfl))
        (try simp only [Act.put, Z1, Z2, Z3, Z4, Z5, Z6])
        refine anyH_pure 7 _ ?_ rfl (by kernel_rfl) (by kernel_rfl) (by kernel_rfl) (fun _ _ _ h => h) rfl ?_ hS ?_
        rotate_left
        · (intro w'; go_simp; (try with_reducible rfl))
        (try simp only [Act.put, Z1, Z2, Z3, Z4, Z5, Z6])
        refine anyH_if 8 _ ?_ rfl (by kernel_rfl) (by kernel_rfl) (by kernel_rfl) (fun _ _ _ h => h) rfl ?_ hS ?_
        rotate_left
        · (intro w' h; have c0 := h.ms.c0; go_simp; (try with_reducible rfl))
        (try simp only [Act.put, Z1, Z2, Z3, Z4, Z5, Z6])
        refine anyH_pure 9 _ ?_ rfl (by kernel_rfl) (by kernel_rfl) (by kernel_rfl) (fun _ _ _ h => h) rfl ?_ hS ?_
        rotate_left
        · (intro w'; go_simp; (try with_reducible rfl))
        (try simp only [Act.put, Z1, Z2, Z3, Z4, Z5, Z6])
        refine anyH_pure 10 _ ?_ rfl (by kernel_rfl) (by kernel_rfl) (by kernel_rfl) (fun _ _ _ h => h) rfl ?_ hS ?_
        rotate_left
        · (intro w'; go_simp; (try with_reducible rfl))
        (try simp only [Act.put, Z1, Z2, Z3, Z4, Z5, Z6])
        refine anyH_pure 11 _ ?_ rfl (by kernel_rfl) (by kernel_rfl) (by kernel_rfl) (fun _ _ _ h => h) rfl ?_ hS ?_
        rotate_left
        · (intro w'; go_simp; (try with_reducible rfl))
        (try simp only [Act.put, Z1, Z2, Z3, Z4, Z5, Z6])
        refine anyH_skip 12 _ rfl (by kernel_rfl) (by kernel_rfl) (by kernel_rfl) (fun _ _ _ h => h) rfl hS ?_
        (try simp only [Act.put, Z1, Z2, Z3, Z4, Z5, Z6])
        refine anyH_skip 13 _ rfl (by kernel_rfl) (by kernel_rfl) (by kernel_rfl) (fun _ _ _ h => h) rfl hS ?_
        (try simp only [Act.put, Z1, Z2, Z3, Z4, Z5, Z6])
        refine anyH_skip 14 _ rfl (by kernel_rfl) (by kernel_rfl) (by kernel_rfl) (fun _ _ _ h => h) rfl hS ?_
        (try simp only [Act.put, Z1, Z2, Z3, Z4, Z5, Z6])
        refine anyH_skip 15 _ rfl (by kernel_rfl) (by kernel_rfl) (by kernel_rfl) (fun _ _ _ h => h) rfl hS ?_
        (try simp only [Act.put, Z1, Z2, Z3, Z4, Z5, Z6])
        refine anyH_skip 16 _ rfl (by kernel_rfl) (by kernel_rfl) (by kernel_rfl) (fun _ _ _ h => h) rfl hS ?_
        (try simp only [Act.put, Z1, Z2, Z3, Z4, Z5, Z6])
        refine anyH_skip 17 _ rfl (by kernel_rfl) (by kernel_rfl) (by kernel_rfl) (fun _ _ _ h => h) rfl hS ?_
        (try simp only [Act.put, Z1, Z2, Z3, Z4, Z5, Z6])
        refine anyH_skip 18 _ rfl (by kernel_rfl) (by kernel_rfl) (by kernel_rfl) (fun _ _ _ h => h) rfl hS ?_
        (try simp only [Act.put, Z1, Z2, Z3, Z4, Z5, Z6])
        refine anyH_skip 19 _ rfl (by kernel_rfl) (by kernel_rfl) (by kernel_rfl) (fun _ _ _ h => h) rfl hS ?_
        (try simp only [Act.put, Z1, Z2, Z3, Z4, Z5, Z6])
        refine anyH_skip 20 _ rfl (by kernel_rfl) (by kernel_rfl) (by kernel_rfl) (fun _ _ _ h => h) rfl hS ?_
        (try simp only [Act.put, Z1, Z2, Z3, Z4, Z5, Z6])
        refine anyH_skip 21 _ rfl (by kernel_rfl) (by kernel_rfl) (by kernel_rfl) (fun _ _ _ h => h) rfl hS ?_
        (try simp only [Act.put, Z1, Z2, Z3, Z4, Z5, Z6])
        refine anyH_skip 22 _ rfl (by kernel_rfl) (by kernel_rfl) (by kernel_rfl) (fun _ _ _ h => h) rfl hS ?_
        (try simp only [Act.put, Z1, Z2, Z3, Z4, Z5, Z6])
        refine anyH_skip 23 _ rfl (by kernel_rfl) (by kernel_rfl) (by kernel_rfl) (fun _ _ _ h => h) rfl hS ?_
        (try simp only [Act.put, Z1, Z2, Z3, Z4, Z5, Z6])
        refine anyH_skip 24 _ rfl (by kernel_rfl) (by kernel_rfl) (by kernel_rfl) (fun _ _ _ h => h) rfl hS ?_
        (try simp only [Act.put, Z1, Z2, Z3, Z4, Z5, Z6])
        refine anyH_skip 25 _ rfl (by kernel_rfl) (by kernel_rfl) (by kernel_rfl) (fun _ _ _ h => h) rfl hS ?_
        (try simp only [Act.put, Z1, Z2, Z3, Z4, Z5, Z6])
        refine anyH_skip 26 _ rfl (by kernel_rfl) (by kernel_rfl) (by kernel_rfl) (fun _ _ _ h => h) rfl hS ?_
        (try simp only [Act.put, Z1, Z2, Z3, Z4, Z5, Z6])
        refine anyH_skip 27 _ rfl (by kernel_rfl) (by kernel_rfl) (by kernel_rfl) (fun _ _ _ h => h) rfl hS ?_
        (try simp only [Act.put, Z1, Z2, Z3, Z4, Z5, Z6])
        refine anyH_skip 28 _ rfl (by kernel_rfl) (by kernel_rfl) (by kernel_rfl) (fun _ _ _ h => h) rfl hS ?_
        (try simp only [Act.put, Z1, Z2, Z3, Z4, Z5, Z6])
        refine anyH_skip 29 _ rfl (by kernel_rfl) (by kernel_rfl) (by kernel_rfl) (fun _ _ _ h => h) rfl hS ?_
        (try simp only [Act.put, Z1, Z2, Z3, Z4, Z5, Z6])
        refine anyH_skip 30 _ rfl (by kernel_rfl) (by kernel_rfl) (by kernel_rfl) (fun _ _ _ h => h) rfl hS ?_
        (try simp only [Act.put, Z1, Z2, Z3, Z4, Z5, Z6])
        refine anyH_skip 31 _ rfl (by kernel_rfl) (by kernel_rfl) (by kernel_rfl) (fun _ _ _ h => h) rfl hS ?_
        (try simp only [Act.put, Z1, Z2, Z3, Z4, Z5, Z6])
        refine anyH_skip 32 _ rfl (by kernel_rfl) (by kernel_rfl) (by kernel_rfl) (fun _ _ _ h => h) rfl hS ?_
        (try simp only [Act.put, Z1, Z2, Z3, Z4, Z5, Z6])
        refine anyH_skip 33 _ rfl (by kernel_rfl) (by kernel_rfl) (by kernel_rfl) (fun _ _ _ h => h) rfl hS ?_
        (try simp only [Act.put, Z1, Z2, Z3, Z4, Z5, Z6])
        refine anyH_pure 34 _ ?_ rfl (by kernel_rfl) (by kernel_rfl) (by kernel_rfl) (fun _ _ _ h => h) rfl ?_ hS ?_
        rotate_left
        · (intro w'; go_simp; (try with_reducible rfl))
        (try simp only [Act.put, Z1, Z2, Z3, Z4, Z5, Z6])
        refine wpAnyH_done (by kernel_rfl) ?_ _
        go_wp2_with fail
        go_meet
        case rel => exact ⟨by rw [hd.out], true, rfl, hS, HB⟩
      · have hp' : c.page < M.pages := by omega
        have HB : BadB false M c := by
          refine ⟨fun e => (by cases e), fun hb => ?_⟩
          rcases hb with ⟨_, e⟩ | ⟨e, _⟩ <;> omega
        clear h1
        replace hd := Lib.hid hd
        refine wp_region_held (S := (fun w' => OfS base w w' m M c)) (by kernel_rfl) ?_
        change wpAnyH _ _ _ _ _ _ _ _ (World.drew _)
        (try simp only [Act.put])
        replace hS := hS.drew
        refine anyH_pure 0 _ ?_ rfl (by kernel_rfl) (by kernel_rfl) (by kernel_rfl) (fun _ _ _ h => h) rfl ?_ hS ?_
        rotate_left
        · (intro w'; go_simp; (try with_reducible rfl))
        (try simp only [Act.put, Z1, Z2, Z4, Z5, Z6])
        refine anyH_pure 1 _ ?_ rfl (by kernel_rfl) (by kernel_rfl) (by kernel_rfl) (fun _ _ _ h => h) rfl ?_ hS ?_
        rotate_left
        · (intro w'; go_simp; (try with_reducible rfl))
        (try simp only [Act.put, Z1, Z2, Z3, Z4, Z5, Z6])
        refine anyH_pure 2 _ ?_ rfl (by kernel_rfl) (by kernel_rfl) (by kernel_rfl) (fun _ _ _ h => h) rfl ?_ hS ?_
        rotate_left
        · (intro w'; go_simp; (try with_reducible rfl))
        (try simp only [Act.put, Z1, Z2, Z3, Z4, Z5, Z6])
        refine anyH_if 3 _ ?_ rfl (by kernel_rfl) (by kernel_rfl) (by kernel_rfl) (fun _ _ _ h => h) rfl ?_ hS ?_
        rotate_left
        · (intro w' h; have c0 := h.b2; go_simp; (try with_reducible rfl))
        (try simp only [Act.put, Z1, Z2, Z3, Z4, Z5, Z6])
        refine anyH_pure 4 _ ?_ rfl (by kernel_rfl) (by kernel_rfl) (by kernel_rfl) (fun _ _ _ h => h) rfl ?_ hS ?_
        rotate_left
        · (intro w'; go_simp; (try with_reducible rfl))
        (try simp only [Act.put, Z1, Z2, Z3, Z4, Z5, Z6])
        refine anyH_pure 5 _ ?_ rfl (by kernel_rfl) (by kernel_rfl) (by kernel_rfl) (fun _ _ _ h => h) rfl ?_ hS ?_
        rotate_left
        · (intro w'; go_simp; (try with_reducible rfl))
        (try simp only [Act.put, Z1, Z2, Z3, Z4, Z5, Z6])
        refine anyH_pure 6 _ ?_ rfl (by kernel_rfl) (by kernel_rfl) (by kernel_rfl) (fun _ _ _ h => h) rfl ?_ hS ?_
        rotate_left
        · (intro w'; go_simp; (try with_reducible rfl))
        (try simp only [Act.put, Z1, Z2, Z3, Z4, Z5, Z6])
        refine anyH_pure 7 _ ?_ rfl (by kernel_rfl) (by kernel_rfl) (by kernel_rfl) (fun _ _ _ h => h) rfl ?_ hS ?_
        rotate_left
        · (intro w'; go_simp; (try with_reducible rfl))
        (try simp only [Act.put, Z1, Z2, Z3, Z4, Z5, Z6])
        refine anyH_if 8 _ ?_ rfl (by kernel_rfl) (by kernel_rfl) (by kernel_rfl) (fun _ _ _ h => h) rfl ?_ hS ?_
        rotate_left
        · (intro w' h; have c0 := h.ms.c0; go_simp; (try with_reducible rfl))
        (try simp only [Act.put, Z1, Z2, Z3, Z4, Z5, Z6])
        refine anyH_pure 9 _ ?_ rfl (by kernel_rfl) (by kernel_rfl) (by kernel_rfl) (fun _ _ _ h => h) rfl ?_ hS ?_
        rotate_left
        · (intro w'; go_simp; (try with_reducible rfl))
        (try simp only [Act.put, Z1, Z2, Z3, Z4, Z5, Z6])
        refine anyH_pure 10 _ ?_ rfl (by kernel_rfl) (by kernel_rfl) (by kernel_rfl) (fun _ _ _ h => h) rfl ?_ hS ?_
        rotate_left
        · (intro w'; go_simp; (try with_reducible rfl))
        (try simp only [Act.put, Z1, Z2, Z3, Z4, Z5, Z6])
        refine anyH_pure 11 _ ?_ rfl (by kernel_rfl) (by kernel_rfl) (by kernel_rfl) (fun _ _ _ h => h) rfl ?_ hS ?_
        rotate_left
        · (intro w'; go_simp; (try with_reducible rfl))
        (try simp only [Act.put, Z1, Z2, Z3, Z4, Z5, Z6])
        refine anyH_pure 12 _ ?_ rfl (by kernel_rfl) (by kernel_rfl) (by kernel_rfl) (fun _ _ _ h => h) rfl ?_ hS ?_
        rotate_left
        · (intro w'; go_simp; (try with_reducible rfl))
        (try simp only [Act.put, Z1, Z2, Z3, Z4, Z5, Z6])
        refine anyH_if 13 _ ?_ rfl (by kernel_rfl) (by kernel_rfl) (by kernel_rfl) (fun _ _ _ h => h) rfl ?_ hS ?_
        rotate_left
        · (intro w' h; have c0 := hb0 _ h; go_simp; (try with_reducible rfl))
        (try simp only [Act.put, Z1, Z2, Z3, Z4, Z5, Z6])
        refine anyH_pure 14 _ ?_ rfl (by kernel_rfl) (by kernel_rfl) (by kernel_rfl) (fun _ _ _ h => h) rfl ?_ hS ?_
        rotate_left
        · (intro w'; go_simp; (try with_reducible rfl))
        (try simp only [Act.put, Z1, Z2, Z3, Z4, Z5, Z6])
        refine anyH_pure 15 _ ?_ rfl (by kernel_rfl) (by kernel_rfl) (by kernel_rfl) (fun _ _ _ h => h) rfl ?_ hS ?_
        rotate_left
        · (intro w'; go_simp; (try with_reducible rfl))
        (try simp only [Act.put, Z1, Z2, Z3, Z4, Z5, Z6])
        refine anyH_skip 16 _ rfl (by kernel_rfl) (by kernel_rfl) (by kernel_rfl) (fun _ _ _ h => h) rfl hS ?_
        (try simp only [Act.put, Z1, Z2, Z3, Z4, Z5, Z6])
        refine anyH_skip 17 _ rfl (by kernel_rfl) (by kernel_rfl) (by kernel_rfl) (fun _ _ _ h => h) rfl hS ?_
        (try simp only [Act.put, Z1, Z2, Z3, Z4, Z5, Z6])
        refine anyH_skip 18 _ rfl (by kernel_rfl) (by kernel_rfl) (by kernel_rfl) (fun _ _ _ h => h) rfl hS ?_
        (try simp only [Act.put, Z1, Z2, Z3, Z4, Z5, Z6])
        refine anyH_skip 19 _ rfl (by kernel_rfl) (by kernel_rfl) (by kernel_rfl) (fun _ _ _ h => h) rfl hS ?_
        (try simp only [Act.put, Z1, Z2, Z3, Z4, Z5, Z6])
        refine anyH_skip 20 _ rfl (by kernel_rfl) (by kernel_rfl) (by kernel_rfl) (fun _ _ _ h => h) rfl hS ?_
        (try simp only [Act.put, Z1, Z2, Z3, Z4, Z5, Z6])
        refine anyH_skip 21 _ rfl (by kernel_rfl) (by kernel_rfl) (by kernel_rfl) (fun _ _ _ h => h) rfl hS ?_
        (try simp only [Act.put, Z1, Z2, Z3, Z4, Z5, Z6])
        refine anyH_skip 22 _ rfl (by kernel_rfl) (by kernel_rfl) (by kernel_rfl) (fun _ _ _ h => h) rfl hS ?_
        (try simp only [Act.put, Z1, Z2, Z3, Z4, Z5, Z6])
        refine anyH_skip 23 _ rfl (by kernel_rfl) (by kernel_rfl) (by kernel_rfl) (fun _ _ _ h => h) rfl hS ?_
        (try simp only [Act.put, Z1, Z2, Z3, Z4, Z5, Z6])
        refine anyH_skip 24 _ rfl (by kernel_rfl) (by kernel_rfl) (by kernel_rfl) (fun _ _ _ h => h) rfl hS ?_
        (try simp only [Act.put, Z1, Z2, Z3, Z4, Z5, Z6])
        refine anyH_skip 25 _ rfl (by kernel_rfl) (by kernel_rfl) (by kernel_rfl) (fun _ _ _ h => h) rfl hS ?_
        (try simp only [Act.put, Z1, Z2, Z3, Z4, Z5, Z6])
        refine anyH_skip 26 _ rfl (by kernel_rfl) (by kernel_rfl) (by kernel_rfl) (fun _ _ _ h => h) rfl hS ?_
        (try simp only [Act.put, Z1, Z2, Z3, Z4, Z5, Z6])
        refine anyH_skip 27 _ rfl (by kernel_rfl) (by kernel_rfl) (by kernel_rfl) (fun _ _ _ h => h) rfl hS ?_
        (try simp only [Act.put, Z1, Z2, Z3, Z4, Z5, Z6])
        refine anyH_skip 28 _ rfl (by kernel_rfl) (by kernel_rfl) (by kernel_rfl) (fun _ _ _ h => h) rfl hS ?_
        (try simp only [Act.put, Z1, Z2, Z3, Z4, Z5, Z6])
        refine anyH_skip 29 _ rfl (by kernel_rfl) (by kernel_rfl) (by kernel_rfl) (fun _ _ _ h => h) rfl hS ?_
        (try simp only [Act.put, Z1, Z2, Z3, Z4, Z5, Z6])
        refine anyH_skip 30 _ rfl (by kernel_rfl) (by kernel_rfl) (by kernel_rfl) (fun _ _ _ h => h) rfl hS ?_
        (try simp only [Act.put, Z1, Z2, Z3, Z4, Z5, Z6])
        refine anyH_skip 31 _ rfl (by kernel_rfl) (by kernel_rfl) (by kernel_rfl) (fun _ _ _ h => h) rfl hS ?_
        (try simp only [Act.put, Z1, Z2, Z3, Z4, Z5, Z6])
        refine anyH_skip 32 _ rfl (by kernel_rfl) (by kernel_rfl) (by kernel_rfl) (fun _ _ _ h => h) rfl hS ?_
        (try simp only [Act.put, Z1, Z2, Z3, Z4, Z5, Z6])
        refine anyH_pure 33 _ ?_ rfl (by kernel_rfl) (by kernel_rfl) (by kernel_rfl) (fun _ _ _ h => h) rfl ?_ hS ?_
        rotate_left
        · (intro w'; go_simp; (try with_reducible rfl))
        (try simp only [Act.put, Z1, Z2, Z3, Z4, Z5, Z6])
        refine anyH_pure 34 _ ?_ rfl (by kernel_rfl) (by kernel_rfl) (by kernel_rfl) (fun _ _ _ h => h) rfl ?_ hS ?_
        rotate_left
        · (intro w'; go_simp; (try with_reducible rfl))
        (try simp only [Act.put, Z1, Z2, Z3, Z4, Z5, Z6])
        refine wpAnyH_done (by kernel_rfl) ?_ _
        go_wp2_with fail
        go_meet
        case rel => exact ⟨by rw [hd.out], false, rfl, hS, HB⟩
    · by_cases h2 : c.kind = 2
      · have hd : dataB c = true := by simp [dataB, h2]
        rw [hd]
        have hb0 : ∀ w', OfS base w w' m M c → w'.cell? ⟨w.heap.size, 0, none⟩ = some (.int .u8 2) := fun w' h => by rw [← h2]; exact h.b0
        by_cases hp : M.pages ≤ c.page
        · have HB : BadB true M c := ⟨fun _ => .inl ⟨.inr h2, hp⟩, fun _ => rfl⟩
          clear h1 h2
          replace hd := Lib.hid hd
          refine wp_region_held (S := (fun w' => OfS base w w' m M c)) (by kernel_rfl) ?_
          change wpAnyH _ _ _ _ _ _ _ _ (World.drew _)
          (try simp only [Act.put])
          replace hS := hS.drew
          refine anyH_pure 0 _ ?_ rfl (by kernel_rfl) (by kernel_rfl) (by kernel_rfl) (fun _ _ _ h => h) rfl ?_ hS ?_
          rotate_left
          · (intro w'; go_simp; (try with_reducible rfl))
          (try simp only [Act.put, Z1, Z2, Z4, Z5, Z6])
          refine anyH_pure 1 _ ?_ rfl (by kernel_rfl) (by kernel_rfl) (by kernel_rfl) (fun _ _ _ h => h) rfl ?_ hS ?_
          rotate_left
          · (intro w'; go_simp; (try with_reducible rfl))
          (try simp only [Act.put, Z1, Z2, Z3, Z4, Z5, Z6])
          refine anyH_pure 2 _ ?_ rfl (by kernel_rfl) (by kernel_rfl) (by kernel_rfl) (fun _ _ _ h => h) rfl ?_ hS ?_
          rotate_left
          · (intro w'; go_simp; (try with_reducible rfl))
          (try simp only [Act.put, Z1, Z2, Z3, Z4, Z5, Z6])
          refine anyH_if 3 _ ?_ rfl (by kernel_rfl) (by kernel_rfl) (by kernel_rfl) (fun _ _ _ h => h) rfl ?_ hS ?_
          rotate_left
          · (intro w' h; have c0 := h.b2; go_simp; (try with_reducible rfl))
          (try simp only [Act.put, Z1, Z2, Z3, Z4, Z5, Z6])
          refine anyH_pure 4 _ ?_ rfl (by kernel_rfl) (by kernel_rfl) (by kernel_rfl) (fun _ _ _ h => h) rfl ?_ hS ?_
          rotate_left
          · (intro w'; go_simp; (try with_reducible rfl))
          (try simp only [Act.put, Z1, Z2, Z3, Z4, Z5, Z6])
          refine anyH_pure 5 _ ?_ rfl (by kernel_rfl) (by kernel_rfl) (by kernel_rfl) (fun _ _ _ h => h) rfl ?_ hS ?_
          rotate_left
          · (intro w'; go_simp; (try with_reducible rfl))
          (try simp only [Act.put, Z1, Z2, Z3, Z4, Z5, Z6])
          refine anyH_pure 6 _ ?_ rfl (by kernel_rfl) (by kernel_rfl) (by kernel_rfl) (fun _ _ _ h => h) rfl ?_ hS ?_
          rotate_left
          · (intro w'; go_simp; (try with_reducible rfl))
          (try simp only [Act.put, Z1, Z2, Z3, Z4, Z5, Z6])
          refine anyH_pure 7 _ ?_ rfl (by kernel_rfl) (by kernel_rfl) (by kernel_rfl) (fun _ _ _ h => h) rfl ?_ hS ?_
          rotate_left
          · (intro w'; go_simp; (try with_reducible rfl))
          (try simp only [Act.put, Z1, Z2, Z3, Z4, Z5, Z6])
          refine anyH_if 8 _ ?_ rfl (by kernel_rfl) (by kernel_rfl) (by kernel_rfl) (fun _ _ _ h => h) rfl ?_ hS ?_
          rotate_left
          · (intro w' h; have c0 := h.ms.c0; go_simp; (try with_reducible rfl))
          (try simp only [Act.put, Z1, Z2, Z3, Z4, Z5, Z6])
          refine anyH_pure 9 _ ?_ rfl (by kernel_rfl) (by kernel_rfl) (by kernel_rfl) (fun _ _ _ h => h) rfl ?_ hS ?_
          rotate_left
          · (intro w'; go_simp; (try with_reducible rfl))
          (try simp only [Act.put, Z1, Z2, Z3, Z4, Z5, Z6])
          refine anyH_pure 10 _ ?_ rfl (by kernel_rfl) (by kernel_rfl) (by kernel_rfl) (fun _ _ _ h => h) rfl ?_ hS ?_
          rotate_left
          · (intro w'; go_simp; (try with_reducible rfl))
          (try simp only [Act.put, Z1, Z2, Z3, Z4, Z5, Z6])
          refine anyH_pure 11 _ ?_ rfl (by kernel_rfl) (by kernel_rfl) (by kernel_rfl) (fun _ _ _ h => h) rfl ?_ hS ?_
          rotate_left
          · (intro w'; go_simp; (try with_reducible rfl))
          (try simp only [Act.put, Z1, Z2, Z3, Z4, Z5, Z6])
          refine anyH_skip 12 _ rfl (by kernel_rfl) (by kernel_rfl) (by kernel_rfl) (fun _ _ _ h => h) rfl hS ?_
          (try simp only [Act.put, Z1, Z2, Z3, Z4, Z5, Z6])
          refine anyH_skip 13 _ rfl (by kernel_rfl) (by kernel_rfl) (by kernel_rfl) (fun _ _ _ h => h) rfl hS ?_
          (try simp only [Act.put, Z1, Z2, Z3, Z4, Z5, Z6])
          refine anyH_skip 14 _ rfl (by kernel_rfl) (by kernel_rfl) (by kernel_rfl) (fun _ _ _ h => h) rfl hS ?_
          (try simp only [Act.put, Z1, Z2, Z3, Z4, Z5, Z6])
          refine anyH_skip 15 _ rfl (by kernel_rfl) (by kernel_rfl) (by kernel_rfl) (fun _ _ _ h => h) rfl hS ?_
          (try simp only [Act.put, Z1, Z2, Z3, Z4, Z5, Z6])
          refine anyH_skip 16 _ rfl (by kernel_rfl) (by kernel_rfl) (by kernel_rfl) (fun _ _ _ h => h) rfl hS ?_
          (try simp only [Act.put, Z1, Z2, Z3, Z4, Z5, Z6])
          refine anyH_skip 17 _ rfl (by kernel_rfl) (by kernel_rfl) (by kernel_rfl) (fun _ _ _ h => h) rfl hS ?_
          (try simp only [Act.put, Z1, Z2, Z3, Z4, Z5, Z6])
          refine anyH_skip 18 _ rfl (by kernel_rfl) (by kernel_rfl) (by kernel_rfl) (fun _ _ _ h => h) rfl hS ?_
          (try simp only [Act.put, Z1, Z2, Z3, Z4, Z5, Z6])
          refine anyH_skip 19 _ rfl (by kernel_rfl) (by kernel_rfl) (by kernel_rfl) (fun _ _ _ h => h) rfl hS ?_
          (try simp only [Act.put, Z1, Z2, Z3, Z4, Z5, Z6])
          refine anyH_skip 20 _ rfl (by kernel_rfl) (by kernel_rfl) (by kernel_rfl) (fun _ _ _ h => h) rfl hS ?_
          (try simp only [Act.put, Z1, Z2, Z3, Z4, Z5, Z6])
          refine anyH_skip 21 _ rfl (by kernel_rfl) (by kernel_rfl) (by kernel_rfl) (fun _ _ _ h => h) rfl hS ?_
          (try simp only [Act.put, Z1, Z2, Z3, Z4, Z5, Z6])
          refine anyH_skip 22 _ rfl (by kernel_rfl) (by kernel_rfl) (by kernel_rfl) (fun _ _ _ h => h) rfl hS ?_
          (try simp only [Act.put, Z1, Z2, Z3, Z4, Z5, Z6])
          refine anyH_skip 23 _ rfl (by kernel_rfl) (by kernel_rfl) (by kernel_rfl) (fun _ _ _ h => h) rfl hS ?_
          (try simp only [Act.put, Z1, Z2, Z3, Z4, Z5, Z6])
          refine anyH_skip 24 _ rfl (by kernel_rfl) (by kernel_rfl) (by kernel_rfl) (fun _ _ _ h => h) rfl hS ?_
          (try simp only [Act.put, Z1, Z2, Z3, Z4, Z5, Z6])
          refine anyH_skip 25 _ rfl (by kernel_rfl) (by kernel_rfl) (by kernel_rfl) (fun _ _ _ h => h) rfl hS ?_
          (try simp only [Act.put, Z1, Z2, Z3, Z4, Z5, Z6])
          refine anyH_skip 26 _ rfl (by kernel_rfl) (by kernel_rfl) (by kernel_rfl) (fun _ _ _ h => h) rfl hS ?_
          (try simp only [Act.put, Z1, Z2, Z3, Z4, Z5, Z6])
          refine anyH_skip 27 _ rfl (by kernel_rfl) (by kernel_rfl) (by kernel_rfl) (fun _ _ _ h => h) rfl hS ?_
          (try simp only [Act.put, Z1, Z2, Z3, Z4, Z5, Z6])
          refine anyH_skip 28 _ rfl (by kernel_rfl) (by kernel_rfl) (by kernel_rfl) (fun _ _ _ h => h) rfl hS ?_
          (try simp only [Act.put, Z1, Z2, Z3, Z4, Z5, Z6])
          refine anyH_skip 29 _ rfl (by kernel_rfl) (by kernel_rfl) (by kernel_rfl) (fun _ _ _ h => h) rfl hS ?_
          (try simp only [Act.put, Z1, Z2, Z3, Z4, Z5, Z6])
          refine anyH_skip 30 _ rfl (by kernel_rfl) (by kernel_rfl) (by kernel_rfl) (fun _ _ _ h => h) rfl hS ?_
          (try simp only [Act.put, Z1, Z2, Z3, Z4, Z5, Z6])
          refine anyH_skip 31 _ rfl (by kernel_rfl) (by kernel_rfl) (by kernel_rfl) (fun _ _ _ h => h) rfl hS ?_
          (try simp only [Act.put, Z1, Z2, Z3, Z4, Z5, Z6])
          refine anyH_skip 32 _ rfl (by kernel_rfl) (by kernel_rfl) (by kernel_rfl) (fun _ _ _ h => h) rfl hS ?_
          (try simp only [Act.put, Z1, Z2, Z3, Z4, Z5, Z6])
          refine anyH_skip 33 _ rfl (by kernel_rfl) (by kernel_rfl) (by kernel_rfl) (fun _ _ _ h => h) rfl hS ?_
          (try simp only [Act.put, Z1, Z2, Z3, Z4, Z5, Z6])
          refine anyH_pure 34 _ ?_ rfl (by kernel_rfl) (by kernel_rfl) (by kernel_rfl) (fun _ _ _ h => h) rfl ?_ hS ?_
          rotate_left
          · (intro w'; go_simp; (try with_reducible rfl))
          (try simp only [Act.put, Z1, Z2, Z3, Z4, Z5, Z6])
          refine wpAnyH_done (by kernel_rfl) ?_ _
          go_wp2_with fail
          go_meet
          case rel => exact ⟨by rw [hd.out], true, rfl, hS, HB⟩
        · have hp' : c.page < M.pages := by omega
          by_cases ho1 : c.off < 0
          · have HB : BadB true M c := ⟨fun _ => .inr ⟨h2, .inl ho1⟩, fun _ => rfl⟩
            clear h1 h2
            replace hd := Lib.hid hd
            refine wp_region_held (S := (fun w' => OfS base w w' m M c)) (by kernel_rfl) ?_
            change wpAnyH _ _ _ _ _ _ _ _ (World.drew _)
            (try simp only [Act.put])
            replace hS := hS.drew
            refine anyH_pure 0 _ ?_ rfl (by kernel_rfl) (by kernel_rfl) (by kernel_rfl) (fun _ _ _ h => h) rfl ?_ hS ?_
            rotate_left
            · (intro w'; go_simp; (try with_reducible rfl))
            (try simp only [Act.put, Z1, Z2, Z4, Z5, Z6])
            refine anyH_pure 1 _ ?_ rfl (by kernel_rfl) (by kernel_rfl) (by kernel_rfl) (fun _ _ _ h => h) rfl ?_ hS ?_
            rotate_left
            · (intro w'; go_simp; (try with_reducible rfl))
            (try simp only [Act.put, Z1, Z2, Z3, Z4, Z5, Z6])
            refine anyH_pure 2 _ ?_ rfl (by kernel_rfl) (by kernel_rfl) (by kernel_rfl) (fun _ _ _ h => h) rfl ?_ hS ?_
            rotate_left
            · (intro w'; go_simp; (try with_reducible rfl))
            (try simp only [Act.put, Z1, Z2, Z3, Z4, Z5, Z6])
            refine anyH_if 3 _ ?_ rfl (by kernel_rfl) (by kernel_rfl) (by kernel_rfl) (fun _ _ _ h => h) rfl ?_ hS ?_
            rotate_left
            · (intro w' h; have c0 := h.b2; go_simp; (try with_reducible rfl))
            (try simp only [Act.put, Z1, Z2, Z3, Z4, Z5, Z6])
            refine anyH_pure 4 _ ?_ rfl (by kernel_rfl) (by kernel_rfl) (by kernel_rfl) (fun _ _ _ h => h) rfl ?_ hS ?_
            rotate_left
            · (intro w'; go_simp; (try with_reducible rfl))
            (try simp only [Act.put, Z1, Z2, Z3, Z4, Z5, Z6])
            refine anyH_pure 5 _ ?_ rfl (by kernel_rfl) (by kernel_rfl) (by kernel_rfl) (fun _ _ _ h => h) rfl ?_ hS ?_
            rotate_left
            · (intro w'; go_simp; (try with_reducible rfl))
            (try simp only [Act.put, Z1, Z2, Z3, Z4, Z5, Z6])
            refine anyH_pure 6 _ ?_ rfl (by kernel_rfl) (by kernel_rfl) (by kernel_rfl) (fun _ _ _ h => h) rfl ?_ hS ?_
            rotate_left
            · (intro w'; go_simp; (try with_reducible rfl))
            (try simp only [Act.put, Z1, Z2, Z3, Z4, Z5, Z6])
            refine anyH_pure 7 _ ?_ rfl (by kernel_rfl) (by kernel_rfl) (by kernel_rfl) (fun _ _ _ h => h) rfl ?_ hS ?_
            rotate_left
            · (intro w'; go_simp; (try with_reducible rfl))
            (try simp only [Act.put, Z1, Z2, Z3, Z4, Z5, Z6])
            refine anyH_if 8 _ ?_ rfl (by kernel_rfl) (by kernel_rfl) (by kernel_rfl) (fun _ _ _ h => h) rfl ?_ hS ?_
            rotate_left
            · (intro w' h; have c0 := h.ms.c0; go_simp; (try with_reducible rfl))
            (try simp only [Act.put, Z1, Z2, Z3, Z4, Z5, Z6])
            refine anyH_pure 9 _ ?_ rfl (by kernel_rfl) (by kernel_rfl) (by kernel_rfl) (fun _ _ _ h => h) rfl ?_ hS ?_
            rotate_left
            · (intro w'; go_simp; (try with_reducible rfl))
            (try simp only [Act.put, Z1, Z2, Z3, Z4, Z5, Z6])
            refine anyH_pure 10 _ ?_ rfl (by kernel_rfl) (by kernel_rfl) (by kernel_rfl) (fun _ _ _ h => h) rfl ?_ hS ?_
            rotate_left
            · (intro w'; go_simp; (try with_reducible rfl))
            (try simp only [Act.put, Z1, Z2, Z3, Z4, Z5, Z6])
            refine anyH_pure 11 _ ?_ rfl (by kernel_rfl) (by kernel_rfl) (by kernel_rfl) (fun _ _ _ h => h) rfl ?_ hS ?_
            rotate_left
            · (intro w'; go_simp; (try with_reducible rfl))
            (try simp only [Act.put, Z1, Z2, Z3, Z4, Z5, Z6])
            refine anyH_pure 12 _ ?_ rfl (by kernel_rfl) (by kernel_rfl) (by kernel_rfl) (fun _ _ _ h => h) rfl ?_ hS ?_
            rotate_left
            · (intro w'; go_simp; (try with_reducible rfl))
            (try simp only [Act.put, Z1, Z2, Z3, Z4, Z5, Z6])
            refine anyH_if 13 _ ?_ rfl (by kernel_rfl) (by kernel_rfl) (by kernel_rfl) (fun _ _ _ h => h) rfl ?_ hS ?_
            rotate_left
            · (intro w' h; have c0 := hb0 _ h; go_simp; (try with_reducible rfl))
            (try simp only [Act.put, Z1, Z2, Z3, Z4, Z5, Z6])
            refine anyH_pure 14 _ ?_ rfl (by kernel_rfl) (by kernel_rfl) (by kernel_rfl) (fun _ _ _ h => h) rfl ?_ hS ?_
            rotate_left
            · (intro w'; go_simp; (try with_reducible rfl))
            (try simp only [Act.put, Z1, Z2, Z3, Z4, Z5, Z6])
            refine anyH_pure 15 _ ?_ rfl (by kernel_rfl) (by kernel_rfl) (by kernel_rfl) (fun _ _ _ h => h) rfl ?_ hS ?_
            rotate_left
            · (intro w'; go_simp; (try with_reducible rfl))
            (try simp only [Act.put, Z1, Z2, Z3, Z4, Z5, Z6])
            refine anyH_pure 16 _ ?_ rfl (by kernel_rfl) (by kernel_rfl) (by kernel_rfl) (fun _ _ _ h => h) rfl ?_ hS ?_
            rotate_left
            · (intro w'; go_simp; (try with_reducible rfl))
            (try simp only [Act.put, Z1, Z2, Z3, Z4, Z5, Z6])
            refine anyH_if 17 _ ?_ rfl (by kernel_rfl) (by kernel_rfl) (by kernel_rfl) (fun _ _ _ h => h) rfl ?_ hS ?_
            rotate_left
            · (intro w' h; have c0 := h.b3; go_simp; (try with_reducible rfl))
            (try simp only [Act.put, Z1, Z2, Z3, Z4, Z5, Z6])
            refine anyH_pure 18 _ ?_ rfl (by kernel_rfl) (by kernel_rfl) (by kernel_rfl) (fun _ _ _ h => h) rfl ?_ hS ?_
            rotate_left
            · (intro w'; go_simp; (try with_reducible rfl))
            (try simp only [Act.put, Z1, Z2, Z3, Z4, Z5, Z6])
            refine anyH_pure 19 _ ?_ rfl (by kernel_rfl) (by kernel_rfl) (by kernel_rfl) (fun _ _ _ h => h) rfl ?_ hS ?_
            rotate_left
            · (intro w'; go_simp; (try with_reducible rfl))
            (try simp only [Act.put, Z1, Z2, Z3, Z4, Z5, Z6])
            refine anyH_skip 20 _ rfl (by kernel_rfl) (by kernel_rfl) (by kernel_rfl) (fun _ _ _ h => h) rfl hS ?_
            (try simp only [Act.put, Z1, Z2, Z3, Z4, Z5, Z6])
            refine anyH_skip 21 _ rfl (by kernel_rfl) (by kernel_rfl) (by kernel_rfl) (fun _ _ _ h => h) rfl hS ?_
            (try simp only [Act.put, Z1, Z2, Z3, Z4, Z5, Z6])
            refine anyH_skip 22 _ rfl (by kernel_rfl) (by kernel_rfl) (by kernel_rfl) (fun _ _ _ h => h) rfl hS ?_
            (try simp only [Act.put, Z1, Z2, Z3, Z4, Z5, Z6])
            refine anyH_pure 23 _ ?_ rfl (by kernel_rfl) (by kernel_rfl) (by kernel_rfl) (fun _ _ _ h => h) rfl ?_ hS ?_
            rotate_left
            · (intro w'; go_simp; (try with_reducible rfl))
            (try simp only [Act.put, Z1, Z2, Z3, Z4, Z5, Z6])
            refine anyH_pure 24 _ ?_ rfl (by kernel_rfl) (by kernel_rfl) (by kernel_rfl) (fun _ _ _ h => h) rfl ?_ hS ?_
            rotate_left
            · (intro w'; go_simp; (try with_reducible rfl))
            (try simp only [Act.put, Z1, Z2, Z3, Z4, Z5, Z6])
            refine anyH_skip 25 _ rfl (by kernel_rfl) (by kernel_rfl) (by kernel_rfl) (fun _ _ _ h => h) rfl hS ?_
            (try simp only [Act.put, Z1, Z2, Z3, Z4, Z5, Z6])
            refine anyH_skip 26 _ rfl (by kernel_rfl) (by kernel_rfl) (by kernel_rfl) (fun _ _ _ h => h) rfl hS ?_
            (try simp only [Act.put, Z1, Z2, Z3, Z4, Z5, Z6])
            refine anyH_skip 27 _ rfl (by kernel_rfl) (by kernel_rfl) (by kernel_rfl) (fun _ _ _ h => h) rfl hS ?_
            (try simp only [Act.put, Z1, Z2, Z3, Z4, Z5, Z6])
            refine anyH_skip 28 _ rfl (by kernel_rfl) (by kernel_rfl) (by kernel_rfl) (fun _ _ _ h => h) rfl hS ?_
            (try simp only [Act.put, Z1, Z2, Z3, Z4, Z5, Z6])
            refine anyH_skip 29 _ rfl (by kernel_rfl) (by kernel_rfl) (by kernel_rfl) (fun _ _ _ h => h) rfl hS ?_
            (try simp only [Act.put, Z1, Z2, Z3, Z4, Z5, Z6])
            refine anyH_skip 30 _ rfl (by kernel_rfl) (by kernel_rfl) (by kernel_rfl) (fun _ _ _ h => h) rfl hS ?_
            (try simp only [Act.put, Z1, Z2, Z3, Z4, Z5, Z6])
            refine anyH_skip 31 _ rfl (by kernel_rfl) (by kernel_rfl) (by kernel_rfl) (fun _ _ _ h => h) rfl hS ?_
            (try simp only [Act.put, Z1, Z2, Z3, Z4, Z5, Z6])
            refine anyH_pure 32 _ ?_ rfl (by kernel_rfl) (by kernel_rfl) (by kernel_rfl) (fun _ _ _ h => h) rfl ?_ hS ?_
            rotate_left
            · (intro w'; go_simp; (try with_reducible rfl))
            (try simp only [Act.put, Z1, Z2, Z3, Z4, Z5, Z6])
            refine anyH_pure 33 _ ?_ rfl (by kernel_rfl) (by kernel_rfl) (by kernel_rfl) (fun _ _ _ h => h) rfl ?_ hS ?_
            rotate_left
            · (intro w'; go_simp; (try with_reducible rfl))
            (try simp only [Act.put, Z1, Z2, Z3, Z4, Z5, Z6])
            refine anyH_pure 34 _ ?_ rfl (by kernel_rfl) (by kernel_rfl) (by kernel_rfl) (fun _ _ _ h => h) rfl ?_ hS ?_
            rotate_left
            · (intro w'; go_simp; (try with_reducible rfl))
            (try simp only [Act.put, Z1, Z2, Z3, Z4, Z5, Z6])
            refine wpAnyH_done (by kernel_rfl) ?_ _
            go_wp2_with fail
            go_meet
            case rel => exact ⟨by rw [hd.out], true, rfl, hS, HB⟩
          · have ho1' : 0 ≤ c.off := by omega
            by_cases ho2 : 64 < c.off
            · have HB : BadB true M c := ⟨fun _ => .inr ⟨h2, .inr (.inl ho2)⟩, fun _ => rfl⟩
              clear h1 h2
              replace hd := Lib.hid hd
              refine wp_region_held (S := (fun w' => OfS base w w' m M c)) (by kernel_rfl) ?_
              change wpAnyH _ _ _ _ _ _ _ _ (World.drew _)
              (try simp only [Act.put])
              replace hS := hS.drew
              refine anyH_pure 0 _ ?_ rfl (by kernel_rfl) (by kernel_rfl) (by kernel_rfl) (fun _ _ _ h => h) rfl ?_ hS ?_
              rotate_left
              · (intro w'; go_simp; (try with_reducible rfl))
              (try simp only [Act.put, Z1, Z2, Z4, Z5, Z6])
              refine anyH_pure 1 _ ?_ rfl (by kernel_rfl) (by kernel_rfl) (by kernel_rfl) (fun _ _ _ h => h) rfl ?_ hS ?_
              rotate_left
              · (intro w'; go_simp; (try with_reducible rfl))
              (try simp only [Act.put, Z1, Z2, Z3, Z4, Z5, Z6])
              refine anyH_pure 2 _ ?_ rfl (by kernel_rfl) (by kernel_rfl) (by kernel_rfl) (fun _ _ _ h => h) rfl ?_ hS ?_
              rotate_left
              · (intro w'; go_simp; (try with_reducible rfl))
              (try simp only [Act.put, Z1, Z2, Z3, Z4, Z5, Z6])
              refine anyH_if 3 _ ?_ rfl (by kernel_rfl) (by kernel_rfl) (by kernel_rfl) (fun _ _ _ h => h) rfl ?_ hS ?_
              rotate_left
              · (intro w' h; have c0 := h.b2; go_simp; (try with_reducible rfl))
              (try simp only [Act.put, Z1, Z2, Z3, Z4, Z5, Z6])
              refine anyH_pure 4 _ ?_ rfl (by kernel_rfl) (by kernel_rfl) (by kernel_rfl) (fun _ _ _ h => h) rfl ?_ hS ?_
              rotate_left
              · (intro w'; go_simp; (try with_reducible rfl))
              (try simp only [Act.put, Z1, Z2, Z3, Z4, Z5, Z6])
              refine anyH_pure 5 _ ?_ rfl (by kernel_rfl) (by kernel_rfl) (by kernel_rfl) (fun _ _ _ h => h) rfl ?_ hS ?_
              rotate_left
              · (intro w'; go_simp; (try with_reducible rfl))
              (try simp only [Act.put, Z1, Z2, Z3, Z4, Z5, Z6])
              refine anyH_pure 6 _ ?_ rfl (by kernel_rfl) (by kernel_rfl) (by kernel_rfl) (fun _ _ _ h => h) rfl ?_ hS ?_
              rotate_left
              · (intro w'; go_simp; (try with_reducible rfl))
              (try simp only [Act.put, Z1, Z2, Z3, Z4, Z5, Z6])
              refine anyH_pure 7 _ ?_ rfl (by kernel_rfl) (by kernel_rfl) (by kernel_rfl) (fun _ _ _ h => h) rfl ?_ hS ?_
              rotate_left
              · (intro w'; go_simp; (try with_reducible rfl))
              (try simp only [Act.put, Z1, Z2, Z3, Z4, Z5, Z6])
              refine anyH_if 8 _ ?_ rfl (by kernel_rfl) (by kernel_rfl) (by kernel_rfl) (fun _ _ _ h => h) rfl ?_ hS ?_
              rotate_left
              · (intro w' h; have c0 := h.ms.c0; go_simp; (try with_reducible rfl))
              (try simp only [Act.put, Z1, Z2, Z3, Z4, Z5, Z6])
              refine anyH_pure 9 _ ?_ rfl (by kernel_rfl) (by kernel_rfl) (by kernel_rfl) (fun _ _ _ h => h) rfl ?_ hS ?_
              rotate_left
              · (intro w'; go_simp; (try with_reducible rfl))
              (try simp only [Act.put, Z1, Z2, Z3, Z4, Z5, Z6])
              refine anyH_pure 10 _ ?_ rfl (by kernel_rfl) (by kernel_rfl) (by kernel_rfl) (fun _ _ _ h => h) rfl ?_ hS ?_
              rotate_left
              · (intro w'; go_simp; (try with_reducible rfl))
              (try simp only [Act.put, Z1, Z2, Z3, Z4, Z5, Z6])
              refine anyH_pure 11 _ ?_ rfl (by kernel_rfl) (by kernel_rfl) (by kernel_rfl) (fun _ _ _ h => h) rfl ?_ hS ?_
              rotate_left
              · (intro w'; go_simp; (try with_reducible rfl))
              (try simp only [Act.put, Z1, Z2, Z3, Z4, Z5, Z6])
              refine anyH_pure 12 _ ?_ rfl (by kernel_rfl) (by kernel_rfl) (by kernel_rfl) (fun _ _ _ h => h) rfl ?_ hS ?_
              rotate_left
              · (intro w'; go_simp; (try with_reducible rfl))
              (try simp only [Act.put, Z1, Z2, Z3, Z4, Z5, Z6])
              refine anyH_if 13 _ ?_ rfl (by kernel_rfl) (by kernel_rfl) (by kernel_rfl) (fun _ _ _ h => h) rfl ?_ hS ?_
              rotate_left
              · (intro w' h; have c0 := hb0 _ h; go_simp; (try with_reducible rfl))
              (try simp only [Act.put, Z1, Z2, Z3, Z4, Z5, Z6])
              refine anyH_pure 14 _ ?_ rfl (by kernel_rfl) (by kernel_rfl) (by kernel_rfl) (fun _ _ _ h => h) rfl ?_ hS ?_
              rotate_left
              · (intro w'; go_simp; (try with_reducible rfl))
              (try simp only [Act.put, Z1, Z2, Z3, Z4, Z5, Z6])
              refine anyH_pure 15 _ ?_ rfl (by kernel_rfl) (by kernel_rfl) (by kernel_rfl) (fun _ _ _ h => h) rfl ?_ hS ?_
              rotate_left
              · (intro w'; go_simp; (try with_reducible rfl))
              (try simp only [Act.put, Z1, Z2, Z3, Z4, Z5, Z6])
              refine anyH_pure 16 _ ?_ rfl (by kernel_rfl) (by kernel_rfl) (by kernel_rfl) (fun _ _ _ h => h) rfl ?_ hS ?_
              rotate_left
              · (intro w'; go_simp; (try with_reducible rfl))
              (try simp only [Act.put, Z1, Z2, Z3, Z4, Z5, Z6])
              refine anyH_if 17 _ ?_ rfl (by kernel_rfl) (by kernel_rfl) (by kernel_rfl) (fun _ _ _ h => h) rfl ?_ hS ?_
              rotate_left
              · (intro w' h; have c0 := h.b3; go_simp; (try with_reducible rfl))
              (try simp only [Act.put, Z1, Z2, Z3, Z4, Z5, Z6])
              refine anyH_pure 18 _ ?_ rfl (by kernel_rfl) (by kernel_rfl) (by kernel_rfl) (fun _ _ _ h => h) rfl ?_ hS ?_
              rotate_left
              · (intro w'; go_simp; (try with_reducible rfl))
              (try simp only [Act.put, Z1, Z2, Z3, Z4, Z5, Z6])
              refine anyH_pure 19 _ ?_ rfl (by kernel_rfl) (by kernel_rfl) (by kernel_rfl) (fun _ _ _ h => h) rfl ?_ hS ?_
              rotate_left
              · (intro w'; go_simp; (try with_reducible rfl))
              (try simp only [Act.put, Z1, Z2, Z3, Z4, Z5, Z6])
              refine anyH_pure 20 _ ?_ rfl (by kernel_rfl) (by kernel_rfl) (by kernel_rfl) (fun _ _ _ h => h) rfl ?_ hS ?_
              rotate_left
              · (intro w'; go_simp; (try with_reducible rfl))
              (try simp only [Act.put, Z1, Z2, Z3, Z4, Z5, Z6])
              refine anyH_if 21 _ ?_ rfl (by kernel_rfl) (by kernel_rfl) (by kernel_rfl) (fun _ _ _ h => h) rfl ?_ hS ?_
              rotate_left
              · (intro w' h; have c0 := h.b3; go_simp; (try with_reducible rfl))
              (try simp only [Act.put, Z1, Z2, Z3, Z4, Z5, Z6])
              refine anyH_pure 22 _ ?_ rfl (by kernel_rfl) (by kernel_rfl) (by kernel_rfl) (fun _ _ _ h => h) rfl ?_ hS ?_
              rotate_left
              · (intro w'; go_simp; (try with_reducible rfl))
              (try simp only [Act.put, Z1, Z2, Z3, Z4, Z5, Z6])
              refine anyH_pure 23 _ ?_ rfl (by kernel_rfl) (by kernel_rfl) (by kernel_rfl) (fun _ _ _ h => h) rfl ?_ hS ?_
              rotate_left
              · (intro w'; go_simp; (try with_reducible rfl))
              (try simp only [Act.put, Z1, Z2, Z3, Z4, Z5, Z6])
              refine anyH_pure 24 _ ?_ rfl (by kernel_rfl) (by kernel_rfl) (by kernel_rfl) (fun _ _ _ h => h) rfl ?_ hS ?_
              rotate_left
              · (intro w'; go_simp; (try with_reducible rfl))
              (try simp only [Act.put, Z1, Z2, Z3, Z4, Z5, Z6])
              refine anyH_skip 25 _ rfl (by kernel_rfl) (by kernel_rfl) (by kernel_rfl) (fun _ _ _ h => h) rfl hS ?_
              (try simp only [Act.put, Z1, Z2, Z3, Z4, Z5, Z6])
              refine anyH_skip 26 _ rfl (by kernel_rfl) (by kernel_rfl) (by kernel_rfl) (fun _ _ _ h => h) rfl hS ?_
              (try simp only [Act.put, Z1, Z2, Z3, Z4, Z5, Z6])
              refine anyH_skip 27 _ rfl (by kernel_rfl) (by kernel_rfl) (by kernel_rfl) (fun _ _ _ h => h) rfl hS ?_
              (try simp only [Act.put, Z1, Z2, Z3, Z4, Z5, Z6])
              refine anyH_skip 28 _ rfl (by kernel_rfl) (by kernel_rfl) (by kernel_rfl) (fun _ _ _ h => h) rfl hS ?_
              (try simp only [Act.put, Z1, Z2, Z3, Z4, Z5, Z6])
              refine anyH_skip 29 _ rfl (by kernel_rfl) (by kernel_rfl) (by kernel_rfl) (fun _ _ _ h => h) rfl hS ?_
              (try simp only [Act.put, Z1, Z2, Z3, Z4, Z5, Z6])
              refine anyH_skip 30 _ rfl (by kernel_rfl) (by kernel_rfl) (by kernel_rfl) (fun _ _ _ h => h) rfl hS ?_
              (try simp only [Act.put, Z1, Z2, Z3, Z4, Z5, Z6])
              refine anyH_skip 31 _ rfl (by kernel_rfl) (by kernel_rfl) (by kernel_rfl) (fun _ _ _ h => h) rfl hS ?_
              (try simp only [Act.put, Z1, Z2, Z3, Z4, Z5, Z6])
              refine anyH_pure 32 _ ?_ rfl (by kernel_rfl) (by kernel_rfl) (by kernel_rfl) (fun _ _ _ h => h) rfl ?_ hS ?_
              rotate_left
              · (intro w'; go_simp; (try with_reducible rfl))
              (try simp only [Act.put, Z1, Z2, Z3, Z4, Z5, Z6])
              refine anyH_pure 33 _ ?_ rfl (by kernel_rfl) (by kernel_rfl) (by kernel_rfl) (fun _ _ _ h => h) rfl ?_ hS ?_
              rotate_left
              · (intro w'; go_simp; (try with_reducible rfl))
              (try simp only [Act.put, Z1, Z2, Z3, Z4, Z5, Z6])
              refine anyH_pure 34 _ ?_ rfl (by kernel_rfl) (by kernel_rfl) (by kernel_rfl) (fun _ _ _ h => h) rfl ?_ hS ?_
              rotate_left
              · (intro w'; go_simp; (try with_reducible rfl))
              (try simp only [Act.put, Z1, Z2, Z3, Z4, Z5, Z6])
              refine wpAnyH_done (by kernel_rfl) ?_ _
              go_wp2_with fail
              go_meet
              case rel => exact ⟨by rw [hd.out], true, rfl, hS, HB⟩
            · have ho2' : c.off ≤ 64 := by omega
              have hw64 : IntKind.i64.wrap (64 - c.off) = 64 - c.off := IntWalk.i64_in _ (by omega)
              by_cases ho3 : 64 - c.off < (c.s.size : Int)
              · have HB : BadB true M c := ⟨fun _ => .inr ⟨h2, .inr (.inr ho3)⟩, fun _ => rfl⟩
                clear h1 h2
                replace hd := Lib.hid hd
                refine wp_region_held (S := (fun w' => OfS base w w' m M c)) (by kernel_rfl) ?_
                change wpAnyH _ _ _ _ _ _ _ _ (World.drew _)
                (try simp only [Act.put])
                replace hS := hS.drew
                refine anyH_pure 0 _ ?_ rfl (by kernel_rfl) (by kernel_rfl) (by kernel_rfl) (fun _ _ _ h => h) rfl ?_ hS ?_
                rotate_left
                · (intro w'; go_simp; (try with_reducible rfl))
                (try simp only [Act.put, Z1, Z2, Z4, Z5, Z6])
                refine anyH_pure 1 _ ?_ rfl (by kernel_rfl) (by kernel_rfl) (by kernel_rfl) (fun _ _ _ h => h) rfl ?_ hS ?_
                rotate_left
                · (intro w'; go_simp; (try with_reducible rfl))
                (try simp only [Act.put, Z1, Z2, Z3, Z4, Z5, Z6])
                refine anyH_pure 2 _ ?_ rfl (by kernel_rfl) (by kernel_rfl) (by kernel_rfl) (fun _ _ _ h => h) rfl ?_ hS ?_
                rotate_left
                · (intro w'; go_simp; (try with_reducible rfl))
                (try simp only [Act.put, Z1, Z2, Z3, Z4, Z5, Z6])
                refine anyH_if 3 _ ?_ rfl (by kernel_rfl) (by kernel_rfl) (by kernel_rfl) (fun _ _ _ h => h) rfl ?_ hS ?_
                rotate_left
                · (intro w' h; have c0 := h.b2; go_simp; (try with_reducible rfl))
                (try simp only [Act.put, Z1, Z2, Z3, Z4, Z5, Z6])
                refine anyH_pure 4 _ ?_ rfl (by kernel_rfl) (by kernel_rfl) (by kernel_rfl) (fun _ _ _ h => h) rfl ?_ hS ?_
                rotate_left
                · (intro w'; go_simp; (try with_reducible rfl))
                (try simp only [Act.put, Z1, Z2, Z3, Z4, Z5, Z6])
                refine anyH_pure 5 _ ?_ rfl (by kernel_rfl) (by kernel_rfl) (by kernel_rfl) (fun _ _ _ h => h) rfl ?_ hS ?_
                rotate_left
                · (intro w'; go_simp; (try with_reducible rfl))
                (try simp only [Act.put, Z1, Z2, Z3, Z4, Z5, Z6])
                refine anyH_pure 6 _ ?_ rfl (by kernel_rfl) (by kernel_rfl) (by kernel_rfl) (fun _ _ _ h => h) rfl ?_ hS ?_
                rotate_left
                · (intro w'; go_simp; (try with_reducible rfl))
                (try simp only [Act.put, Z1, Z2, Z3, Z4, Z5, Z6])
                refine anyH_pure 7 _ ?_ rfl (by kernel_rfl) (by kernel_rfl) (by kernel_rfl) (fun _ _ _ h => h) rfl ?_ hS ?_
                rotate_left
                · (intro w'; go_simp; (try with_reducible rfl))
                (try simp only [Act.put, Z1, Z2, Z3, Z4, Z5, Z6])
                refine anyH_if 8 _ ?_ rfl (by kernel_rfl) (by kernel_rfl) (by kernel_rfl) (fun _ _ _ h => h) rfl ?_ hS ?_
                rotate_left
                · (intro w' h; have c0 := h.ms.c0; go_simp; (try with_reducible rfl))
                (try simp only [Act.put, Z1, Z2, Z3, Z4, Z5, Z6])
                refine anyH_pure 9 _ ?_ rfl (by kernel_rfl) (by kernel_rfl) (by kernel_rfl) (fun _ _ _ h => h) rfl ?_ hS ?_
                rotate_left
                · (intro w'; go_simp; (try with_reducible rfl))
                (try simp only [Act.put, Z1, Z2, Z3, Z4, Z5, Z6])
                refine anyH_pure 10 _ ?_ rfl (by kernel_rfl) (by kernel_rfl) (by kernel_rfl) (fun _ _ _ h => h) rfl ?_ hS ?_
                rotate_left
                · (intro w'; go_simp; (try with_reducible rfl))
                (try simp only [Act.put, Z1, Z2, Z3, Z4, Z5, Z6])
                refine anyH_pure 11 _ ?_ rfl (by kernel_rfl) (by kernel_rfl) (by kernel_rfl) (fun _ _ _ h => h) rfl ?_ hS ?_
                rotate_left
                · (intro w'; go_simp; (try with_reducible rfl))
                (try simp only [Act.put, Z1, Z2, Z3, Z4, Z5, Z6])
                refine anyH_pure 12 _ ?_ rfl (by kernel_rfl) (by kernel_rfl) (by kernel_rfl) (fun _ _ _ h => h) rfl ?_ hS ?_
                rotate_left
                · (intro w'; go_simp; (try with_reducible rfl))
                (try simp only [Act.put, Z1, Z2, Z3, Z4, Z5, Z6])
                refine anyH_if 13 _ ?_ rfl (by kernel_rfl) (by kernel_rfl) (by kernel_rfl) (fun _ _ _ h => h) rfl ?_ hS ?_
                rotate_left
                · (intro w' h; have c0 := hb0 _ h; go_simp; (try with_reducible rfl))
                (try simp only [Act.put, Z1, Z2, Z3, Z4, Z5, Z6])
                refine anyH_pure 14 _ ?_ rfl (by kernel_rfl) (by kernel_rfl) (by kernel_rfl) (fun _ _ _ h => h) rfl ?_ hS ?_
                rotate_left
                · (intro w'; go_simp; (try with_reducible rfl))
                (try simp only [Act.put, Z1, Z2, Z3, Z4, Z5, Z6])
                refine anyH_pure 15 _ ?_ rfl (by kernel_rfl) (by kernel_rfl) (by kernel_rfl) (fun _ _ _ h => h) rfl ?_ hS ?_
                rotate_left
                · (intro w'; go_simp; (try with_reducible rfl))
                (try simp only [Act.put, Z1, Z2, Z3, Z4, Z5, Z6])
                refine anyH_pure 16 _ ?_ rfl (by kernel_rfl) (by kernel_rfl) (by kernel_rfl) (fun _ _ _ h => h) rfl ?_ hS ?_
                rotate_left
                · (intro w'; go_simp; (try with_reducible rfl))
                (try simp only [Act.put, Z1, Z2, Z3, Z4, Z5, Z6])
                refine anyH_if 17 _ ?_ rfl (by kernel_rfl) (by kernel_rfl) (by kernel_rfl) (fun _ _ _ h => h) rfl ?_ hS ?_
                rotate_left
                · (intro w' h; have c0 := h.b3; go_simp; (try with_reducible rfl))
                (try simp only [Act.put, Z1, Z2, Z3, Z4, Z5, Z6])
                refine anyH_pure 18 _ ?_ rfl (by kernel_rfl) (by kernel_rfl) (by kernel_rfl) (fun _ _ _ h => h) rfl ?_ hS ?_
                rotate_left
                · (intro w'; go_simp; (try with_reducible rfl))
                (try simp only [Act.put, Z1, Z2, Z3, Z4, Z5, Z6])
                refine anyH_pure 19 _ ?_ rfl (by kernel_rfl) (by kernel_rfl) (by kernel_rfl) (fun _ _ _ h => h) rfl ?_ hS ?_
                rotate_left
                · (intro w'; go_simp; (try with_reducible rfl))
                (try simp only [Act.put, Z1, Z2, Z3, Z4, Z5, Z6])
                refine anyH_pure 20 _ ?_ rfl (by kernel_rfl) (by kernel_rfl) (by kernel_rfl) (fun _ _ _ h => h) rfl ?_ hS ?_
                rotate_left
                · (intro w'; go_simp; (try with_reducible rfl))
                (try simp only [Act.put, Z1, Z2, Z3, Z4, Z5, Z6])
                refine anyH_if 21 _ ?_ rfl (by kernel_rfl) (by kernel_rfl) (by kernel_rfl) (fun _ _ _ h => h) rfl ?_ hS ?_
                rotate_left
                · (intro w' h; have c0 := h.b3; go_simp; (try with_reducible rfl))
                (try simp only [Act.put, Z1, Z2, Z3, Z4, Z5, Z6])
                refine anyH_pure 22 _ ?_ rfl (by kernel_rfl) (by kernel_rfl) (by kernel_rfl) (fun _ _ _ h => h) rfl ?_ hS ?_
                rotate_left
                · (intro w'; go_simp; (try with_reducible rfl))
                (try simp only [Act.put, Z1, Z2, Z3, Z4, Z5, Z6])
                refine anyH_pure 23 _ ?_ rfl (by kernel_rfl) (by kernel_rfl) (by kernel_rfl) (fun _ _ _ h => h) rfl ?_ hS ?_
                rotate_left
                · (intro w'; go_simp; (try with_reducible rfl))
                (try simp only [Act.put, Z1, Z2, Z3, Z4, Z5, Z6])
                refine anyH_pure 24 _ ?_ rfl (by kernel_rfl) (by kernel_rfl) (by kernel_rfl) (fun _ _ _ h => h) rfl ?_ hS ?_
                rotate_left
                · (intro w'; go_simp; (try with_reducible rfl))
                (try simp only [Act.put, Z1, Z2, Z3, Z4, Z5, Z6])
                refine anyH_pure 25 _ ?_ rfl (by kernel_rfl) (by kernel_rfl) (by kernel_rfl) (fun _ _ _ h => h) rfl ?_ hS ?_
                rotate_left
                · (intro w'; go_simp; (try with_reducible rfl))
                (try simp only [Act.put, Z1, Z2, Z3, Z4, Z5, Z6])
                refine anyH_if 26 _ ?_ rfl (by kernel_rfl) (by kernel_rfl) (by kernel_rfl) (fun _ _ _ h => h) rfl ?_ hS ?_
                rotate_left
                · (intro w' h; have c0 := h.b4; go_simp; (try with_reducible rfl))
                (try simp only [Act.put, Z1, Z2, Z3, Z4, Z5, Z6])
                refine anyH_pure 27 _ ?_ rfl (by kernel_rfl) (by kernel_rfl) (by kernel_rfl) (fun _ _ _ h => h) rfl ?_ hS ?_
                rotate_left
                · (intro w'; go_simp; (try with_reducible rfl))
                (try simp only [Act.put, Z1, Z2, Z3, Z4, Z5, Z6])
                refine anyH_pure 28 _ ?_ rfl (by kernel_rfl) (by kernel_rfl) (by kernel_rfl) (fun _ _ _ h => h) rfl ?_ hS ?_
                rotate_left
                · (intro w'; go_simp; (try with_reducible rfl))
                (try simp only [Act.put, Z1, Z2, Z3, Z4, Z5, Z6])
                refine anyH_if 29 _ ?_ rfl (by kernel_rfl) (by kernel_rfl) (by kernel_rfl) (fun _ _ _ h => h) rfl ?_ hS ?_
                rotate_left
                · (intro w' h; have c0 := h.b3; go_simp; (try with_reducible rfl))
                (try simp only [Act.put, Z1, Z2, Z3, Z4, Z5, Z6])
                refine anyH_pure 30 _ ?_ rfl (by kernel_rfl) (by kernel_rfl) (by kernel_rfl) (fun _ _ _ h => h) rfl ?_ hS ?_
                rotate_left
                · (intro w'; go_simp; (try with_reducible rfl))
                (try simp only [Act.put, Z1, Z2, Z3, Z4, Z5, Z6])
                refine anyH_pure 31 _ ?_ rfl (by kernel_rfl) (by kernel_rfl) (by kernel_rfl) (fun _ _ _ h => h) rfl ?_ hS ?_
                rotate_left
                · (intro w'; go_simp; (try with_reducible rfl))
                (try simp only [Act.put, Z1, Z2, Z3, Z4, Z5, Z6])
                refine anyH_pure 32 _ ?_ rfl (by kernel_rfl) (by kernel_rfl) (by kernel_rfl) (fun _ _ _ h => h) rfl ?_ hS ?_
                rotate_left
                · (intro w'; go_simp; (try with_reducible rfl))
                (try simp only [Act.put, Z1, Z2, Z3, Z4, Z5, Z6])
                refine anyH_pure 33 _ ?_ rfl (by kernel_rfl) (by kernel_rfl) (by kernel_rfl) (fun _ _ _ h => h) rfl ?_ hS ?_
                rotate_left
                · (intro w'; go_simp; (try with_reducible rfl))
                (try simp only [Act.put, Z1, Z2, Z3, Z4, Z5, Z6])
                refine anyH_pure 34 _ ?_ rfl (by kernel_rfl) (by kernel_rfl) (by kernel_rfl) (fun _ _ _ h => h) rfl ?_ hS ?_
                rotate_left
                · (intro w'; go_simp; (try with_reducible rfl))
                (try simp only [Act.put, Z1, Z2, Z3, Z4, Z5, Z6])
                refine wpAnyH_done (by kernel_rfl) ?_ _
                go_wp2_with fail
                go_meet
                case rel => exact ⟨by rw [hd.out], true, rfl, hS, HB⟩
              · have ho3' : (c.s.size : Int) ≤ 64 - c.off := by omega
                have HB : BadB false M c := by
                  refine ⟨fun e => (by cases e), fun hb => ?_⟩
                  rcases hb with ⟨_, e⟩ | ⟨e, e2⟩ <;> omega
                clear h1 h2
                replace hd := Lib.hid hd
                refine wp_region_held (S := (fun w' => OfS base w w' m M c)) (by kernel_rfl) ?_
                change wpAnyH _ _ _ _ _ _ _ _ (World.drew _)
                (try simp only [Act.put])
                replace hS := hS.drew
                refine anyH_pure 0 _ ?_ rfl (by kernel_rfl) (by kernel_rfl) (by kernel_rfl) (fun _ _ _ h => h) rfl ?_ hS ?_
                rotate_left
                · (intro w'; go_simp; (try with_reducible rfl))
                (try simp only [Act.put, Z1, Z2, Z4, Z5, Z6])
                refine anyH_pure 1 _ ?_ rfl (by kernel_rfl) (by kernel_rfl) (by kernel_rfl) (fun _ _ _ h => h) rfl ?_ hS ?_
                rotate_left
                · (intro w'; go_simp; (try with_reducible rfl))
                (try simp only [Act.put, Z1, Z2, Z3, Z4, Z5, Z6])
                refine anyH_pure 2 _ ?_ rfl (by kernel_rfl) (by kernel_rfl) (by kernel_rfl) (fun _ _ _ h => h) rfl ?_ hS ?_
                rotate_left
                · (intro w'; go_simp; (try with_reducible rfl))
                (try simp only [Act.put, Z1, Z2, Z3, Z4, Z5, Z6])
                refine anyH_if 3 _ ?_ rfl (by kernel_rfl) (by kernel_rfl) (by kernel_rfl) (fun _ _ _ h => h) rfl ?_ hS ?_
                rotate_left
                · (intro w' h; have c0 := h.b2; go_simp; (try with_reducible rfl))
                (try simp only [Act.put, Z1, Z2, Z3, Z4, Z5, Z6])
                refine anyH_pure 4 _ ?_ rfl (by kernel_rfl) (by kernel_rfl) (by kernel_rfl) (fun _ _ _ h => h) rfl ?_ hS ?_
                rotate_left
                · (intro w'; go_simp; (try with_reducible rfl))
                (try simp only [Act.put, Z1, Z2, Z3, Z4, Z5, Z6])
                refine anyH_pure 5 _ ?_ rfl (by kernel_rfl) (by kernel_rfl) (by kernel_rfl) (fun _ _ _ h => h) rfl ?_ hS ?_
                rotate_left
                · (intro w'; go_simp; (try with_reducible rfl))
                (try simp only [Act.put, Z1, Z2, Z3, Z4, Z5, Z6])
                refine anyH_pure 6 _ ?_ rfl (by kernel_rfl) (by kernel_rfl) (by kernel_rfl) (fun _ _ _ h => h) rfl ?_ hS ?_
                rotate_left
                · (intro w'; go_simp; (try with_reducible rfl))
                (try simp only [Act.put, Z1, Z2, Z3, Z4, Z5, Z6])
                refine anyH_pure 7 _ ?_ rfl (by kernel_rfl) (by kernel_rfl) (by kernel_rfl) (fun _ _ _ h => h) rfl ?_ hS ?_
                rotate_left
                · (intro w'; go_simp; (try with_reducible rfl))
                (try simp only [Act.put, Z1, Z2, Z3, Z4, Z5, Z6])
                refine anyH_if 8 _ ?_ rfl (by kernel_rfl) (by kernel_rfl) (by kernel_rfl) (fun _ _ _ h => h) rfl ?_ hS ?_
                rotate_left
                · (intro w' h; have c0 := h.ms.c0; go_simp; (try with_reducible rfl))
                (try simp only [Act.put, Z1, Z2, Z3, Z4, Z5, Z6])
                refine anyH_pure 9 _ ?_ rfl (by kernel_rfl) (by kernel_rfl) (by kernel_rfl) (fun _ _ _ h => h) rfl ?_ hS ?_
                rotate_left
                · (intro w'; go_simp; (try with_reducible rfl))
                (try simp only [Act.put, Z1, Z2, Z3, Z4, Z5, Z6])
                refine anyH_pure 10 _ ?_ rfl (by kernel_rfl) (by kernel_rfl) (by kernel_rfl) (fun _ _ _ h => h) rfl ?_ hS ?_
                rotate_left
                · (intro w'; go_simp; (try with_reducible rfl))
                (try simp only [Act.put, Z1, Z2, Z3, Z4, Z5, Z6])
                refine anyH_pure 11 _ ?_ rfl (by kernel_rfl) (by kernel_rfl) (by kernel_rfl) (fun _ _ _ h => h) rfl ?_ hS ?_
                rotate_left
                · (intro w'; go_simp; (try with_reducible rfl))
                (try simp only [Act.put, Z1, Z2, Z3, Z4, Z5, Z6])
                refine anyH_pure 12 _ ?_ rfl (by kernel_rfl) (by kernel_rfl) (by kernel_rfl) (fun _ _ _ h => h) rfl ?_ hS ?_
                rotate_left
                · (intro w'; go_simp; (try with_reducible rfl))
                (try simp only [Act.put, Z1, Z2, Z3, Z4, Z5, Z6])
                refine anyH_if 13 _ ?_ rfl (by kernel_rfl) (by kernel_rfl) (by kernel_rfl) (fun _ _ _ h => h) rfl ?_ hS ?_
                rotate_left
                · (intro w' h; have c0 := hb0 _ h; go_simp; (try with_reducible rfl))
                (try simp only [Act.put, Z1, Z2, Z3, Z4, Z5, Z6])
                refine anyH_pure 14 _ ?_ rfl (by kernel_rfl) (by kernel_rfl) (by kernel_rfl) (fun _ _ _ h => h) rfl ?_ hS ?_
                rotate_left
                · (intro w'; go_simp; (try with_reducible rfl))
                (try simp only [Act.put, Z1, Z2, Z3, Z4, Z5, Z6])
                refine anyH_pure 15 _ ?_ rfl (by kernel_rfl) (by kernel_rfl) (by kernel_rfl) (fun _ _ _ h => h) rfl ?_ hS ?_
                rotate_left
                · (intro w'; go_simp; (try with_reducible rfl))
                (try simp only [Act.put, Z1, Z2, Z3, Z4, Z5, Z6])
                refine anyH_pure 16 _ ?_ rfl (by kernel_rfl) (by kernel_rfl) (by kernel_rfl) (fun _ _ _ h => h) rfl ?_ hS ?_
                rotate_left
                · (intro w'; go_simp; (try with_reducible rfl))
                (try simp only [Act.put, Z1, Z2, Z3, Z4, Z5, Z6])
                refine anyH_if 17 _ ?_ rfl (by kernel_rfl) (by kernel_rfl) (by kernel_rfl) (fun _ _ _ h => h) rfl ?_ hS ?_
                rotate_left
                · (intro w' h; have c0 := h.b3; go_simp; (try with_reducible rfl))
                (try simp only [Act.put, Z1, Z2, Z3, Z4, Z5, Z6])
                refine anyH_pure 18 _ ?_ rfl (by kernel_rfl) (by kernel_rfl) (by kernel_rfl) (fun _ _ _ h => h) rfl ?_ hS ?_
                rotate_left
                · (intro w'; go_simp; (try with_reducible rfl))
                (try simp only [Act.put, Z1, Z2, Z3, Z4, Z5, Z6])
                refine anyH_pure 19 _ ?_ rfl (by kernel_rfl) (by kernel_rfl) (by kernel_rfl) (fun _ _ _ h => h) rfl ?_ hS ?_
                rotate_left
                · (intro w'; go_simp; (try with_reducible rfl))
                (try simp only [Act.put, Z1, Z2, Z3, Z4, Z5, Z6])
                refine anyH_pure 20 _ ?_ rfl (by kernel_rfl) (by kernel_rfl) (by kernel_rfl) (fun _ _ _ h => h) rfl ?_ hS ?_
                rotate_left
                · (intro w'; go_simp; (try with_reducible rfl))
                (try simp only [Act.put, Z1, Z2, Z3, Z4, Z5, Z6])
                refine anyH_if 21 _ ?_ rfl (by kernel_rfl) (by kernel_rfl) (by kernel_rfl) (fun _ _ _ h => h) rfl ?_ hS ?_
                rotate_left
                · (intro w' h; have c0 := h.b3; go_simp; (try with_reducible rfl))
                (try simp only [Act.put, Z1, Z2, Z3, Z4, Z5, Z6])
                refine anyH_pure 22 _ ?_ rfl (by kernel_rfl) (by kernel_rfl) (by kernel_rfl) (fun _ _ _ h => h) rfl ?_ hS ?_
                rotate_left
                · (intro w'; go_simp; (try with_reducible rfl))
                (try simp only [Act.put, Z1, Z2, Z3, Z4, Z5, Z6])
                refine anyH_pure 23 _ ?_ rfl (by kernel_rfl) (by kernel_rfl) (by kernel_rfl) (fun _ _ _ h => h) rfl ?_ hS ?_
                rotate_left
                · (intro w'; go_simp; (try with_reducible rfl))
                (try simp only [Act.put, Z1, Z2, Z3, Z4, Z5, Z6])
                refine anyH_pure 24 _ ?_ rfl (by kernel_rfl) (by kernel_rfl) (by kernel_rfl) (fun _ _ _ h => h) rfl ?_ hS ?_
                rotate_left
                · (intro w'; go_simp; (try with_reducible rfl))
                (try simp only [Act.put, Z1, Z2, Z3, Z4, Z5, Z6])
                refine anyH_pure 25 _ ?_ rfl (by kernel_rfl) (by kernel_rfl) (by kernel_rfl) (fun _ _ _ h => h) rfl ?_ hS ?_
                rotate_left
                · (intro w'; go_simp; (try with_reducible rfl))
                (try simp only [Act.put, Z1, Z2, Z3, Z4, Z5, Z6])
                refine anyH_if 26 _ ?_ rfl (by kernel_rfl) (by kernel_rfl) (by kernel_rfl) (fun _ _ _ h => h) rfl ?_ hS ?_
                rotate_left
                · (intro w' h; have c0 := h.b4; go_simp; (try with_reducible rfl))
                (try simp only [Act.put, Z1, Z2, Z3, Z4, Z5, Z6])
                refine anyH_pure 27 _ ?_ rfl (by kernel_rfl) (by kernel_rfl) (by kernel_rfl) (fun _ _ _ h => h) rfl ?_ hS ?_
                rotate_left
                · (intro w'; go_simp; (try with_reducible rfl))
                (try simp only [Act.put, Z1, Z2, Z3, Z4, Z5, Z6])
                refine anyH_pure 28 _ ?_ rfl (by kernel_rfl) (by kernel_rfl) (by kernel_rfl) (fun _ _ _ h => h) rfl ?_ hS ?_
                rotate_left
                · (intro w'; go_simp; (try with_reducible rfl))
                (try simp only [Act.put, Z1, Z2, Z3, Z4, Z5, Z6])
                refine anyH_if 29 _ ?_ rfl (by kernel_rfl) (by kernel_rfl) (by kernel_rfl) (fun _ _ _ h => h) rfl ?_ hS ?_
                rotate_left
                · (intro w' h; have c0 := h.b3; go_simp; (try with_reducible rfl))
                (try simp only [Act.put, Z1, Z2, Z3, Z4, Z5, Z6])
                refine anyH_pure 30 _ ?_ rfl (by kernel_rfl) (by kernel_rfl) (by kernel_rfl) (fun _ _ _ h => h) rfl ?_ hS ?_
                rotate_left
                · (intro w'; go_simp; (try with_reducible rfl))
                (try simp only [Act.put, Z1, Z2, Z3, Z4, Z5, Z6])
                refine anyH_pure 31 _ ?_ rfl (by kernel_rfl) (by kernel_rfl) (by kernel_rfl) (fun _ _ _ h => h) rfl ?_ hS ?_
                rotate_left
                · (intro w'; go_simp; (try with_reducible rfl))
                (try simp only [Act.put, Z1, Z2, Z3, Z4, Z5, Z6])
                refine anyH_pure 32 _ ?_ rfl (by kernel_rfl) (by kernel_rfl) (by kernel_rfl) (fun _ _ _ h => h) rfl ?_ hS ?_
                rotate_left
                · (intro w'; go_simp; (try with_reducible rfl))
                (try simp only [Act.put, Z1, Z2, Z3, Z4, Z5, Z6])
                refine anyH_pure 33 _ ?_ rfl (by kernel_rfl) (by kernel_rfl) (by kernel_rfl) (fun _ _ _ h => h) rfl ?_ hS ?_
                rotate_left
                · (intro w'; go_simp; (try with_reducible rfl))
                (try simp only [Act.put, Z1, Z2, Z3, Z4, Z5, Z6])
                refine anyH_pure 34 _ ?_ rfl (by kernel_rfl) (by kernel_rfl) (by kernel_rfl) (fun _ _ _ h => h) rfl ?_ hS ?_
                rotate_left
                · (intro w'; go_simp; (try with_reducible rfl))
                (try simp only [Act.put, Z1, Z2, Z3, Z4, Z5, Z6])
                refine wpAnyH_done (by kernel_rfl) ?_ _
                go_wp2_with fail
                go_meet
                case rel => exact ⟨by rw [hd.out], false, rfl, hS, HB⟩
      · have hd : dataB c = false := by simp [dataB, h1, h2]
        rw [hd]
        have e2 : (c.kind == 2) = false := by simp [h2]
        have HB : BadB false M c := by
          refine ⟨fun e => (by cases e), fun hb => ?_⟩
          rcases hb with ⟨e, _⟩ | ⟨e, _⟩ <;> omega
        clear h1 h2
        replace hd := Lib.hid hd
        refine wp_region_held (S := (fun w' => OfS base w w' m M c)) (by kernel_rfl) ?_
        change wpAnyH _ _ _ _ _ _ _ _ (World.drew _)
        (try simp only [Act.put])
        replace hS := hS.drew
        refine anyH_pure 0 _ ?_ rfl (by kernel_rfl) (by kernel_rfl) (by kernel_rfl) (fun _ _ _ h => h) rfl ?_ hS ?_
        rotate_left
        · (intro w'; go_simp; (try with_reducible rfl))
        (try simp only [Act.put, Z1, Z2, Z4, Z5, Z6])
        refine anyH_pure 1 _ ?_ rfl (by kernel_rfl) (by kernel_rfl) (by kernel_rfl) (fun _ _ _ h => h) rfl ?_ hS ?_
        rotate_left
        · (intro w'; go_simp; (try with_reducible rfl))
        (try simp only [Act.put, Z1, Z2, Z3, Z4, Z5, Z6])
        refine anyH_skip 2 _ rfl (by kernel_rfl) (by kernel_rfl) (by kernel_rfl) (fun _ _ _ h => h) rfl hS ?_
        (try simp only [Act.put, Z1, Z2, Z3, Z4, Z5, Z6])
        refine anyH_skip 3 _ rfl (by kernel_rfl) (by kernel_rfl) (by kernel_rfl) (fun _ _ _ h => h) rfl hS ?_
        (try simp only [Act.put, Z1, Z2, Z3, Z4, Z5, Z6])
        refine anyH_skip 4 _ rfl (by kernel_rfl) (by kernel_rfl) (by kernel_rfl) (fun _ _ _ h => h) rfl hS ?_
        (try simp only [Act.put, Z1, Z2, Z3, Z4, Z5, Z6])
        refine anyH_skip 5 _ rfl (by kernel_rfl) (by kernel_rfl) (by kernel_rfl) (fun _ _ _ h => h) rfl hS ?_
        (try simp only [Act.put, Z1, Z2, Z3, Z4, Z5, Z6])
        refine anyH_skip 6 _ rfl (by kernel_rfl) (by kernel_rfl) (by kernel_rfl) (fun _ _ _ h => h) rfl hS ?_
        (try simp only [Act.put, Z1, Z2, Z3, Z4, Z5, Z6])
        refine anyH_skip 7 _ rfl (by kernel_rfl) (by kernel_rfl) (by kernel_rfl) (fun _ _ _ h => h) rfl hS ?_
        (try simp only [Act.put, Z1, Z2, Z3, Z4, Z5, Z6])
        refine anyH_skip 8 _ rfl (by kernel_rfl) (by kernel_rfl) (by kernel_rfl) (fun _ _ _ h => h) rfl hS ?_
        (try simp only [Act.put, Z1, Z2, Z3, Z4, Z5, Z6])
        refine anyH_skip 9 _ rfl (by kernel_rfl) (by kernel_rfl) (by kernel_rfl) (fun _ _ _ h => h) rfl hS ?_
        (try simp only [Act.put, Z1, Z2, Z3, Z4, Z5, Z6])
        refine anyH_pure 10 _ ?_ rfl (by kernel_rfl) (by kernel_rfl) (by kernel_rfl) (fun _ _ _ h => h) rfl ?_ hS ?_
        rotate_left
        · (intro w'; go_simp; (try with_reducible rfl))
        (try simp only [Act.put, Z1, Z2, Z3, Z4, Z5, Z6])
        refine anyH_pure 11 _ ?_ rfl (by kernel_rfl) (by kernel_rfl) (by kernel_rfl) (fun _ _ _ h => h) rfl ?_ hS ?_
        rotate_left
        · (intro w'; go_simp; (try with_reducible rfl))
        (try simp only [Act.put, Z1, Z2, Z3, Z4, Z5, Z6])
        refine anyH_pure 12 _ ?_ rfl (by kernel_rfl) (by kernel_rfl) (by kernel_rfl) (fun _ _ _ h => h) rfl ?_ hS ?_
        rotate_left
        · (intro w'; go_simp; (try with_reducible rfl))
        (try simp only [Act.put, Z1, Z2, Z3, Z4, Z5, Z6])
        refine anyH_if 13 _ ?_ rfl (by kernel_rfl) (by kernel_rfl) (by kernel_rfl) (fun _ _ _ h => h) rfl ?_ hS ?_
        rotate_left
        · (intro w' h; have c0 := h.b0; go_simp; (try with_reducible rfl))
        (try simp only [Act.put, Z1, Z2, Z3, Z4, Z5, Z6])
        refine anyH_pure 14 _ ?_ rfl (by kernel_rfl) (by kernel_rfl) (by kernel_rfl) (fun _ _ _ h => h) rfl ?_ hS ?_
        rotate_left
        · (intro w'; go_simp; (try with_reducible rfl))
        (try simp only [Act.put, Z1, Z2, Z3, Z4, Z5, Z6])
        refine anyH_pure 15 _ ?_ rfl (by kernel_rfl) (by kernel_rfl) (by kernel_rfl) (fun _ _ _ h => h) rfl ?_ hS ?_
        rotate_left
        · (intro w'; go_simp; (try with_reducible rfl))
        (try simp only [Act.put, Z1, Z2, Z3, Z4, Z5, Z6])
        refine anyH_skip 16 _ rfl (by kernel_rfl) (by kernel_rfl) (by kernel_rfl) (fun _ _ _ h => h) rfl hS ?_
        (try simp only [Act.put, Z1, Z2, Z3, Z4, Z5, Z6])
        refine anyH_skip 17 _ rfl (by kernel_rfl) (by kernel_rfl) (by kernel_rfl) (fun _ _ _ h => h) rfl hS ?_
        (try simp only [Act.put, Z1, Z2, Z3, Z4, Z5, Z6])
        refine anyH_skip 18 _ rfl (by kernel_rfl) (by kernel_rfl) (by kernel_rfl) (fun _ _ _ h => h) rfl hS ?_
        (try simp only [Act.put, Z1, Z2, Z3, Z4, Z5, Z6])
        refine anyH_skip 19 _ rfl (by kernel_rfl) (by kernel_rfl) (by kernel_rfl) (fun _ _ _ h => h) rfl hS ?_
        (try simp only [Act.put, Z1, Z2, Z3, Z4, Z5, Z6])
        refine anyH_skip 20 _ rfl (by kernel_rfl) (by kernel_rfl) (by kernel_rfl) (fun _ _ _ h => h) rfl hS ?_
        (try simp only [Act.put, Z1, Z2, Z3, Z4, Z5, Z6])
        refine anyH_skip 21 _ rfl (by kernel_rfl) (by kernel_rfl) (by kernel_rfl) (fun _ _ _ h => h) rfl hS ?_
        (try simp only [Act.put, Z1, Z2, Z3, Z4, Z5, Z6])
        refine anyH_skip 22 _ rfl (by kernel_rfl) (by kernel_rfl) (by kernel_rfl) (fun _ _ _ h => h) rfl hS ?_
        (try simp only [Act.put, Z1, Z2, Z3, Z4, Z5, Z6])
        refine anyH_skip 23 _ rfl (by kernel_rfl) (by kernel_rfl) (by kernel_rfl) (fun _ _ _ h => h) rfl hS ?_
        (try simp only [Act.put, Z1, Z2, Z3, Z4, Z5, Z6])
        refine anyH_skip 24 _ rfl (by kernel_rfl) (by kernel_rfl) (by kernel_rfl) (fun _ _ _ h => h) rfl hS ?_
        (try simp only [Act.put, Z1, Z2, Z3, Z4, Z5, Z6])
        refine anyH_skip 25 _ rfl (by kernel_rfl) (by kernel_rfl) (by kernel_rfl) (fun _ _ _ h => h) rfl hS ?_
        (try simp only [Act.put, Z1, Z2, Z3, Z4, Z5, Z6])
        refine anyH_skip 26 _ rfl (by kernel_rfl) (by kernel_rfl) (by kernel_rfl) (fun _ _ _ h => h) rfl hS ?_
        (try simp only [Act.put, Z1, Z2, Z3, Z4, Z5, Z6])
        refine anyH_skip 27 _ rfl (by kernel_rfl) (by kernel_rfl) (by kernel_rfl) (fun _ _ _ h => h) rfl hS ?_
        (try simp only [Act.put, Z1, Z2, Z3, Z4, Z5, Z6])
        refine anyH_skip 28 _ rfl (by kernel_rfl) (by kernel_rfl) (by kernel_rfl) (fun _ _ _ h => h) rfl hS ?_
        (try simp only [Act.put, Z1, Z2, Z3, Z4, Z5, Z6])
        refine anyH_skip 29 _ rfl (by kernel_rfl) (by kernel_rfl) (by kernel_rfl) (fun _ _ _ h => h) rfl hS ?_
        (try simp only [Act.put, Z1, Z2, Z3, Z4, Z5, Z6])
        refine anyH_skip 30 _ rfl (by kernel_rfl) (by kernel_rfl) (by kernel_rfl) (fun _ _ _ h => h) rfl hS ?_
        (try simp only [Act.put, Z1, Z2, Z3, Z4, Z5, Z6])
        refine anyH_skip 31 _ rfl (by kernel_rfl) (by kernel_rfl) (by kernel_rfl) (fun _ _ _ h => h) rfl hS ?_
        (try simp only [Act.put, Z1, Z2, Z3, Z4, Z5, Z6])
        refine anyH_skip 32 _ rfl (by kernel_rfl) (by kernel_rfl) (by kernel_rfl) (fun _ _ _ h => h) rfl hS ?_
        (try simp only [Act.put, Z1, Z2, Z3, Z4, Z5, Z6])
        refine anyH_pure 33 _ ?_ rfl (by kernel_rfl) (by kernel_rfl) (by kernel_rfl) (fun _ _ _ h => h) rfl ?_ hS ?_
        rotate_left
        · (intro w'; go_simp; (try with_reducible rfl))
        (try simp only [Act.put, Z1, Z2, Z3, Z4, Z5, Z6])
        refine anyH_pure 34 _ ?_ rfl (by kernel_rfl) (by kernel_rfl) (by kernel_rfl) (fun _ _ _ h => h) rfl ?_ hS ?_
        rotate_left
        · (intro w'; go_simp; (try with_reducible rfl))
        (try simp only [Act.put, Z1, Z2, Z3, Z4, Z5, Z6])
        refine wpAnyH_done (by kernel_rfl) ?_ _
        go_wp2_with fail
        go_meet
        case rel => exact ⟨by rw [hd.out], false, rfl, hS, HB⟩
  case rest =>
  clear hS
  obtain ⟨rfl, bb, rfl, hS, HB⟩ := hcut
  cases bb with
  | true =>
    have HC : Hid (P.of M c = (M, P.err 1)) := by unfold Hid P.of; rw [if_pos (HB.1 rfl)]
    go_wp2_with (first
      | (refine wpList_buildE rfl 56 _ rfl (rpA ⟨1, 0, 0, P.zb⟩) (by go_simp; exact b40_0 _) ?_)
      | (refine wpList_store_fr rfl 56 _ _ rfl (w.heap.size + 1) (rpA ⟨1, 0, 0, P.zb⟩) rfl rfl 56 _ hS.res (size40 _) (by simp only [rpA_size]) (rpA_one _) ?_; intro w9 hB9 hF9)
      | fail)
    refine bodyPost_ret (v := .agg (rpA ⟨1, 0, 0, P.zb⟩)) ?_ rfl ?_
    · exact results_cell_row rfl _ _ (w.heap.size + 1) 56 (rpA ⟨1, 0, 0, P.zb⟩) (0, 0) _ rfl hB9 Try.underlying56 rfl (size40 _)
    rw [HC.out]
    exact ⟨rfl, hS.fin hF9⟩
  | false =>
    have HNB : Hid (¬ P.badC M c) := fun e => by have := HB.2 e; cases this
    clear HB
    go_wp2_with fail
    refine wp_region_held (S := (fun w' => OfS base w w' m M c)) (by kernel_rfl) ?_
    change wpAnyH _ _ _ _ _ _ _ _ (World.drew _)
    (try simp only [Act.put])
    replace hS := hS.drew
    refine anyH_pure 0 _ ?_ rfl (by kernel_rfl) (by kernel_rfl) (by kernel_rfl) (fun _ _ _ h => h) rfl ?_ hS ?_
    rotate_left
    · (intro w'; go_simp; (try with_reducible rfl))
    (try simp only [Act.put, Z1, Z2, Z4, Z5, Z6])
    refine anyH_pure 1 _ ?_ rfl (by kernel_rfl) (by kernel_rfl) (by kernel_rfl) (fun _ _ _ h => h) rfl ?_ hS ?_
    rotate_left
    · (intro w'; go_simp; (try with_reducible rfl))
    (try simp only [Act.put, Z1, Z2, Z3, Z4, Z5, Z6])
    refine anyH_pure 2 _ ?_ rfl (by kernel_rfl) (by kernel_rfl) (by kernel_rfl) (fun _ _ _ h => h) rfl ?_ hS ?_
    rotate_left
    · (intro w'; go_simp; (try with_reducible rfl))
    (try simp only [Act.put, Z1, Z2, Z3, Z4, Z5, Z6])
    refine anyH_if 3 _ ?_ rfl (by kernel_rfl) (by kernel_rfl) (by kernel_rfl) (fun _ _ _ h => h) rfl ?_ hS ?_
    rotate_left
    · (intro w' h; have c0 := h.ms.c5; go_simp; (try with_reducible rfl))
    (try simp only [Act.put, Z1, Z2, Z3, Z4, Z5, Z6])
    refine anyH_pure 4 _ ?_ rfl (by kernel_rfl) (by kernel_rfl) (by kernel_rfl) (fun _ _ _ h => h) rfl ?_ hS ?_
    rotate_left
    · (intro w'; go_simp; (try with_reducible rfl))
    (try simp only [Act.put, Z1, Z2, Z3, Z4, Z5, Z6])
    refine anyH_if 5 _ ?_ rfl (by kernel_rfl) (by kernel_rfl) (by kernel_rfl) (fun _ _ _ h => h) rfl ?_ hS ?_
    rotate_left
    · (intro w' h; have c0 := h.b1; go_simp; (try with_reducible rfl))
    (try simp only [Act.put, Z1, Z2, Z3, Z4, Z5, Z6])
    refine anyH_if 6 _ ?_ rfl (by kernel_rfl) (by kernel_rfl) (by kernel_rfl) (fun _ _ _ h => h) rfl ?_ hS ?_
    rotate_left
    · (intro w' h; have c0 := h.ms.lookL c.txn; go_simp; (try with_reducible rfl))
    (try simp only [Act.put, Z1, Z2, Z3, Z4, Z5, Z6])
    refine anyH_pure 7 _ ?_ rfl (by kernel_rfl) (by kernel_rfl) (by kernel_rfl) (fun _ _ _ h => h) rfl ?_ hS ?_
    rotate_left
    · (intro w'; go_simp; (try with_reducible rfl))
    (try simp only [Act.put, Z1, Z2, Z3, Z4, Z5, Z6])
    refine wpAnyH_done (by kernel_rfl) ?_ _
    cases hg : get m.txs c.txn with
    | none =>
      have HC : Hid (P.of M c = (M, P.err 9)) := by
        unfold Hid P.of
        rw [if_neg HNB.out, hS.ms.live, get_map m.txs (fun x => x.2.2) c.txn, hg]
        rfl
      clear hg
      go_wp2_with (first
        | (refine wpList_buildE rfl 56 _ rfl (rpA ⟨9, 0, 0, P.zb⟩) (by go_simp; exact b40_0 _) ?_)
        | (refine wpList_store_fr rfl 56 _ _ rfl (w.heap.size + 1) (rpA ⟨9, 0, 0, P.zb⟩) rfl rfl 56 _ hS.res (size40 _) (by simp only [rpA_size]) (rpA_one _) ?_; intro w9 hB9 hF9)
        | fail)
      refine bodyPost_ret (v := .agg (rpA ⟨9, 0, 0, P.zb⟩)) ?_ rfl ?_
      · exact results_cell_row rfl _ _ (w.heap.size + 1) 56 (rpA ⟨9, 0, 0, P.zb⟩) (0, 0) _ rfl hB9 Try.underlying56 rfl (size40 _)
      rw [HC.out]
      exact ⟨rfl, hS.fin hF9⟩
    | some x =>
      obtain ⟨t, n, T⟩ := x
      have HL : Hid (get M.live c.txn = some T) := by unfold Hid; rw [hS.ms.live, get_map m.txs (fun x => x.2.2) c.txn, hg]; rfl
      have HT := Lib.hid (get_mem hg)
      have HG := Lib.hid hg
      clear hg
      have hz38 := zero38.1
      simp only [Option.map_some]
      go_wp2_with fail
      refine wp_region_held (S := (fun w' => OfS base w w' m M c)) (by kernel_rfl) ?_
      change wpAnyH _ _ _ _ _ _ _ _ (World.drew _)
      (try simp only [Act.put])
      replace hS := hS.drew
      refine anyH_pure 0 _ ?_ rfl (by kernel_rfl) (by kernel_rfl) (by kernel_rfl) (fun _ _ _ h => h) rfl ?_ hS ?_
      rotate_left
      · (intro w'; go_simp; (try with_reducible rfl))
      (try simp only [Act.put, Z1, Z2, Z4, Z5, Z6])
      refine anyH_pure 1 _ ?_ rfl (by kernel_rfl) (by kernel_rfl) (by kernel_rfl) (fun _ _ _ h => h) rfl ?_ hS ?_
      rotate_left
      · (intro w'; go_simp; (try with_reducible rfl))
      (try simp only [Act.put, Z1, Z2, Z3, Z4, Z5, Z6])
      refine anyH_pure 2 _ ?_ rfl (by kernel_rfl) (by kernel_rfl) (by kernel_rfl) (fun _ _ _ h => h) rfl ?_ hS ?_
      rotate_left
      · (intro w'; go_simp; (try with_reducible rfl))
      (try simp only [Act.put, Z1, Z2, Z3, Z4, Z5, Z6])
      refine anyH_if 3 _ ?_ rfl (by kernel_rfl) (by kernel_rfl) (by kernel_rfl) (fun _ _ _ h => h) rfl ?_ hS ?_
      rotate_left
      · (intro w' h; have c0 := (h.ms.tx _ HT.out).t1; go_simp; (try with_reducible rfl))
      (try simp only [Act.put, Z1, Z2, Z3, Z4, Z5, Z6])
      refine anyH_pure 4 _ ?_ rfl (by kernel_rfl) (by kernel_rfl) (by kernel_rfl) (fun _ _ _ h => h) rfl ?_ hS ?_
      rotate_left
      · (intro w'; go_simp; (try with_reducible rfl))
      (try simp only [Act.put, Z1, Z2, Z3, Z4, Z5, Z6])
      refine anyH_if 5 _ ?_ rfl (by kernel_rfl) (by kernel_rfl) (by kernel_rfl) (fun _ _ _ h => h) rfl ?_ hS ?_
      rotate_left
      · (intro w' h; have c0 := h.b2; go_simp; (try with_reducible rfl))
      (try simp only [Act.put, Z1, Z2, Z3, Z4, Z5, Z6])
      refine anyH_if 6 _ ?_ rfl (by kernel_rfl) (by kernel_rfl) (by kernel_rfl) (fun _ _ _ h => h) rfl ?_ hS ?_
      rotate_left
      · (intro w' h; have c0 := (h.ms.tx _ HT.out).look c.page; go_simp; (try with_reducible rfl))
      (try simp only [Act.put, Z1, Z2, Z3, Z4, Z5, Z6])
      refine anyH_pure 7 _ ?_ rfl (by kernel_rfl) (by kernel_rfl) (by kernel_rfl) (fun _ _ _ h => h) rfl ?_ hS ?_
      rotate_left
      · (intro w'; go_simp; (try with_reducible rfl))
      (try simp only [Act.put, Z1, Z2, Z3, Z4, Z5, Z6])
      refine anyH_pure 8 _ ?_ rfl (by kernel_rfl) (by kernel_rfl) (by kernel_rfl) (fun _ _ _ h => h) rfl ?_ hS ?_
      rotate_left
      · (intro w'; go_simp; (try with_reducible rfl))
      (try simp only [Act.put, Z1, Z2, Z3, Z4, Z5, Z6])
      refine anyH_pure 9 _ ?_ rfl (by kernel_rfl) (by kernel_rfl) (by kernel_rfl) (fun _ _ _ h => h) rfl ?_ hS ?_
      rotate_left
      · (intro w'; go_simp; (try with_reducible rfl))
      (try simp only [Act.put, Z1, Z2, Z3, Z4, Z5, Z6])
      generalize wc.drew.drew = V at *
      refine anyH_one 10 _ (by kernel_rfl) rfl rfl (wp_of_run (v := .pointer (some ⟨V.heap.size, 0, none⟩)) (w' := V.alloc (.cells (row 64 P.zb) 54)) (by go_simp; try exact ⟨rfl, rfl⟩) ?_)
      have hbx := Blk.alloc_new V (row 64 P.zb) 54
      have hxl : w.heap.size + 1 < V.heap.size := hS.res.lt
      replace hS := hS.go ((Below.refl _ _).alloc (Nat.le_refl _) (.cells (row 64 P.zb) 54))
      refine ⟨hS, ?_⟩
      (try simp only [Act.put, Z1, Z2, Z3, Z4, Z5, Z6])
      generalize V.alloc (.cells (row 64 P.zb) 54) = V2 at *
      generalize V.heap.size = bx at *
      have hS3 := hS.fr ((Fr.refl (fun i => i = bx) V2).setRow bx (row 64 (mineB T c.page)) fun _ => rfl) fun i hi => by omega
      refine anyH_store_blk 11 _ 54 _ _ bx 64 P.zb (mineB T c.page) 54 hbx zero38.2 (by kernel_rfl) rfl rfl rfl rfl rfl hS3 ?_
      replace hS := hS3
      have hbx := hbx.setRow (row 64 (mineB T c.page))
      (try simp only [Act.put, Z1, Z2, Z3, Z4, Z5, Z6])
      clear hS3
      generalize V2.setRow bx (row 64 (mineB T c.page)) = V3 at *
      refine anyH_pure 12 _ ?_ rfl (by kernel_rfl) (by kernel_rfl) (by kernel_rfl) (fun _ _ _ h => h) rfl ?_ hS ?_
      rotate_left
      · (intro w'; go_simp; (try with_reducible rfl))
      (try simp only [Act.put, Z1, Z2, Z3, Z4, Z5, Z6])
      refine wpAnyH_done (by kernel_rfl) ?_ _
      have b0 := hS.b0
      have hxm : ∀ b, m.own b → b ≠ bx := fun b hb e => by have := hS.lt b hb; omega
      by_cases h1 : c.kind = 1
      · rw [h1] at b0
        cases hgm : get T.now c.page with
        | some b =>
          have hmb : mineB T c.page = b := by unfold mineB; rw [hgm]; rfl
          rw [hmb] at hbx
          have HC : Hid (P.of M c = (M, P.ok T.start b)) := by
            unfold Hid P.of
            rw [if_neg HNB.out, HL.out]
            simp only []
            rw [if_pos h1, hgm]
          clear h1 hgm hmb
          go_wp2_with fail
          refine wp_region_K (k := 6) (S := (fun w' => OfS base w w' m M c ∧ Blk w' bx (row 64 b) 54)) (by kernel_rfl) ?_
          change wpAnyK _ _ _ _ _ _ _ _ _ (World.drew _)
          (try simp only [Act.put])
          replace hS := And.intro hS.drew hbx.drew
          refine anyK_pure 0 _ ?_ rfl (by kernel_rfl) (by kernel_rfl) (by kernel_rfl) (fun _ _ _ h => h) (by decide) rfl ?_ hS ?_
          rotate_left
          · (intro w'; go_simp; (try with_reducible rfl))
          (try simp only [Act.put, Z1, Z2, Z4, Z5, Z6])
          refine anyK_pure 1 _ ?_ rfl (by kernel_rfl) (by kernel_rfl) (by kernel_rfl) (fun _ _ _ h => h) (by decide) rfl ?_ hS ?_
          rotate_left
          · (intro w'; go_simp; (try with_reducible rfl))
          (try simp only [Act.put, Z1, Z2, Z3, Z4, Z5, Z6])
          refine anyK_pure 2 _ ?_ rfl (by kernel_rfl) (by kernel_rfl) (by kernel_rfl) (fun _ _ _ h => h) (by decide) rfl ?_ hS ?_
          rotate_left
          · (intro w'; go_simp; (try with_reducible rfl))
          (try simp only [Act.put, Z1, Z2, Z3, Z4, Z5, Z6])
          refine anyK_if 3 _ ?_ rfl (by kernel_rfl) (by kernel_rfl) (by kernel_rfl) (fun _ _ _ h => h) (by decide) (by kernel_rfl) (by kernel_rfl) rfl ?_ hS ?_
          rotate_left
          · (intro w' h; have c0 := (h.1.ms.tx _ HT.out).t0; go_simp; (try with_reducible rfl))
          (try simp only [Act.put, Z1, Z2, Z3, Z4, Z5, Z6])
          refine anyK_if 4 _ (.agg (row 64 b)) rfl (by kernel_rfl) (by kernel_rfl) (by kernel_rfl) (fun _ _ _ h => h) (by decide) (by kernel_rfl) (by kernel_rfl) rfl (fun w' h => run_load_cs rfl rfl h.2 Try.underlying54 rfl (size38 _)) hS ?_
          (try simp only [Act.put, Z1, Z2, Z3, Z4, Z5, Z6])
          refine anyK_pure 5 _ (.agg (rpA ⟨0, 0, T.start, b⟩)) rfl (by kernel_rfl) (by kernel_rfl) (by kernel_rfl) (fun _ _ _ h => h) (by decide) rfl (fun w' => run_buildE rfl (by go_simp; exact b40_23 T.start b)) hS ?_
          (try simp only [Act.put, Z1, Z2, Z3, Z4, Z5, Z6])
          refine anyK_last _ (by kernel_rfl) rfl (by decide) rfl (wp_store_row 56 _ _ rfl (w.heap.size + 1) (rpA ⟨0, 0, T.start, b⟩) rfl rfl 56 _ hS.1.res (size40 _) (by simp only [rpA_size]) (rpA_one _) ?_)
          have hB9 := hS.1.res.setRow (rpA ⟨0, 0, T.start, b⟩)
          have hfin := hS.1.fin ((Fr.refl (fun i => i = w.heap.size + 1) _).setRow (w.heap.size + 1) (rpA ⟨0, 0, T.start, b⟩) fun _ => rfl)
          refine anyK_done (by kernel_rfl) ?_ _
          generalize World.setRow _ (w.heap.size + 1) (rpA ⟨0, 0, T.start, b⟩) = w9 at *
          go_wp2_with fail
          refine bodyPost_ret (v := .agg (rpA ⟨0, 0, T.start, b⟩)) ?_ rfl ?_
          · exact results_cell_row rfl _ _ (w.heap.size + 1) 56 (rpA ⟨0, 0, T.start, b⟩) (0, 0) _ rfl hB9 Try.underlying56 rfl (size40 _)
          rw [HC.out]
          exact ⟨rfl, hfin⟩
        | none =>
          have HC : Hid (P.of M c = (M, P.ok (P.at' M c.page T.start).ts (P.at' M c.page T.start).b)) := by
            unfold Hid P.of
            rw [if_neg HNB.out, HL.out]
            simp only []
            rw [if_pos h1, hgm]
          clear h1 hgm
          go_wp2_with fail
          refine wp_region_held (S := (fun w' => OfS base w w' m M c)) (by kernel_rfl) ?_
          change wpAnyH _ _ _ _ _ _ _ _ (World.drew _)
          (try simp only [Act.put])
          replace hS := hS.drew
          refine anyH_pure 0 _ ?_ rfl (by kernel_rfl) (by kernel_rfl) (by kernel_rfl) (fun _ _ _ h => h) rfl ?_ hS ?_
          rotate_left
          · (intro w'; go_simp; (try with_reducible rfl))
          (try simp only [Act.put, Z1, Z2, Z4, Z5, Z6])
          refine anyH_pure 1 _ ?_ rfl (by kernel_rfl) (by kernel_rfl) (by kernel_rfl) (fun _ _ _ h => h) rfl ?_ hS ?_
          rotate_left
          · (intro w'; go_simp; (try with_reducible rfl))
          (try simp only [Act.put, Z1, Z2, Z3, Z4, Z5, Z6])
          refine anyH_if 2 _ ?_ rfl (by kernel_rfl) (by kernel_rfl) (by kernel_rfl) (fun _ _ _ h => h) rfl ?_ hS ?_
          rotate_left
          · (intro w' h; have c0 := h.b2; go_simp; (try with_reducible rfl))
          (try simp only [Act.put, Z1, Z2, Z3, Z4, Z5, Z6])
          refine anyH_pure 3 _ ?_ rfl (by kernel_rfl) (by kernel_rfl) (by kernel_rfl) (fun _ _ _ h => h) rfl ?_ hS ?_
          rotate_left
          · (intro w'; go_simp; (try with_reducible rfl))
          (try simp only [Act.put, Z1, Z2, Z3, Z4, Z5, Z6])
          refine anyH_pure 4 _ ?_ rfl (by kernel_rfl) (by kernel_rfl) (by kernel_rfl) (fun _ _ _ h => h) rfl ?_ hS ?_
          rotate_left
          · (intro w'; go_simp; (try with_reducible rfl))
          (try simp only [Act.put, Z1, Z2, Z3, Z4, Z5, Z6])
          refine anyH_pure 5 _ ?_ rfl (by kernel_rfl) (by kernel_rfl) (by kernel_rfl) (fun _ _ _ h => h) rfl ?_ hS ?_
          rotate_left
          · (intro w'; go_simp; (try with_reducible rfl))
          (try simp only [Act.put, Z1, Z2, Z3, Z4, Z5, Z6])
          refine anyH_if 6 _ ?_ rfl (by kernel_rfl) (by kernel_rfl) (by kernel_rfl) (fun _ _ _ h => h) rfl ?_ hS ?_
          rotate_left
          · (intro w' h; have c0 := (h.ms.tx _ HT.out).t0; go_simp; (try with_reducible rfl))
          (try simp only [Act.put, Z1, Z2, Z3, Z4, Z5, Z6])
          have hat := fun w' (h : OfS base w w' m M c) => at_any h.ms c.page T.start
          generalize P.at' M c.page T.start = v at *
          have hz44 := zero44.1
          generalize V3.drew = V4 at *
          refine anyH_all2 7 8 (by kernel_rfl) ?_ ?_
          · skip
            refine wpOp_call 7 _ _ _ _ rfl rfl (by go_simp) _ (hat _ hS) (fun w3 hb3 => ?_)
            replace hS := hS.go hb3
            refine ⟨hS, ?_⟩
            (try simp only [Act.put, Z1, Z2, Z3, Z4, Z5, Z6])
            refine anyH_all1 8 (by kernel_rfl) ?_
            refine wpOp_alloc 8 _ 99 (verA ⟨0, P.zb⟩) rfl rfl rfl hz44 ?_
            have hn := Blk.alloc_new w3 (verA ⟨0, P.zb⟩) 99
            have hnl : w.heap.size + 1 < w3.heap.size := hS.res.lt
            replace hS := hS.go ((Below.refl _ _).alloc (Nat.le_refl _) (.cells (verA ⟨0, P.zb⟩) 99))
            refine ⟨hS, ?_⟩
            (try simp only [Act.put, Z1, Z2, Z3, Z4, Z5, Z6])
            generalize w3.alloc (.cells (verA ⟨0, P.zb⟩) 99) = V5 at *
            generalize w3.heap.size = nb at *
            refine anyH_one 9 _ (by kernel_rfl) rfl rfl (wp_store_row 99 _ _ rfl nb (verA v) rfl rfl 99 _ hn (size44 _) (by simp only [verA_size]) (verA_one _) ⟨hS.fr ((Fr.refl (fun i => i = nb) _).setRow nb (verA v) fun _ => rfl) (fun i hi => by omega), ?_⟩)
            replace hS := hS.fr ((Fr.refl (fun i => i = nb) _).setRow nb (verA v) fun _ => rfl) (fun i hi => by omega)
            replace hn := hn.setRow (verA v)
            (try simp only [Act.put, Z1, Z2, Z3, Z4, Z5, Z6])
            generalize (V5).setRow nb (verA v) = V6 at *
            refine wpAnyH_done (by kernel_rfl) ?_ _
            clear hat
            have hmid : V6.rangeAt nb 1 (rowL 64 v.b) := fun j u hu => by
              rw [hn.cell]
              show (verC v).toArray[1 + j]? = some u
              rw [List.getElem?_toArray, Nat.add_comm]
              exact hu
            replace hmid := Lib.hid hmid
            go_upto_region 13 with (fail)
            refine no_implicit_lambda% (wp_region_lit ?_)
            refine no_implicit_lambda% (wpl_val ?_ rfl ?_ ?_)
            rotate_left
            · (go_simp; (try with_reducible rfl))
            (try simp only [Act.put, Z1, Z2, Z4, Z5, Z6])
            refine no_implicit_lambda% (wpl_val ?_ rfl ?_ ?_)
            rotate_left
            · (have c0 := (show V6.cell? ⟨nb, 0, none⟩ = some (.int .u32 v.ts) by rw [hn.cell]; rfl); go_simp; (try with_reducible rfl))
            (try simp only [Act.put, Z1, Z2, Z3, Z4, Z5, Z6])
            refine no_implicit_lambda% (wpl_val ?_ rfl ?_ ?_)
            rotate_left
            · (go_simp; (try with_reducible rfl))
            (try simp only [Act.put, Z1, Z2, Z3, Z4, Z5, Z6])
            refine wpList_load_midR rfl 54 _ rfl nb 1 rfl 64 v.b _ hmid.out Try.underlying54 rfl zero38.2 ?_
            (try simp only [Act.put, Z1, Z2, Z3, Z4, Z5, Z6])
            refine wpList_buildE rfl 56 _ rfl (rpA ⟨0, 0, v.ts, v.b⟩) (by go_simp; exact b40_23 v.ts v.b) ?_
            (try simp only [Act.put, Z1, Z2, Z3, Z4, Z5, Z6])
            refine wpList_store_fr rfl 56 _ _ rfl (w.heap.size + 1) (rpA ⟨0, 0, v.ts, v.b⟩) rfl rfl 56 _ hS.res (size40 _) (by simp only [rpA_size]) (rpA_one _) ?_
            intro w9 hB9 hF9
            refine no_implicit_lambda% (wpList_nil ?_)
            go_wp2_with fail
            refine bodyPost_ret (v := .agg (rpA ⟨0, 0, v.ts, v.b⟩)) ?_ rfl ?_
            · exact results_cell_row rfl _ _ (w.heap.size + 1) 56 (rpA ⟨0, 0, v.ts, v.b⟩) (0, 0) _ rfl hB9 Try.underlying56 rfl (size40 _)
            rw [HC.out]
            exact ⟨rfl, hS.fin hF9⟩
          · skip
            refine wpOp_alloc 8 _ 99 (verA ⟨0, P.zb⟩) rfl rfl rfl hz44 ?_
            have hn := Blk.alloc_new V4 (verA ⟨0, P.zb⟩) 99
            have hnl : w.heap.size + 1 < V4.heap.size := hS.res.lt
            replace hS := hS.go ((Below.refl _ _).alloc (Nat.le_refl _) (.cells (verA ⟨0, P.zb⟩) 99))
            refine ⟨hS, ?_⟩
            (try simp only [Act.put, Z1, Z2, Z3, Z4, Z5, Z6])
            generalize V4.alloc (.cells (verA ⟨0, P.zb⟩) 99) = V5 at *
            generalize V4.heap.size = nb at *
            refine anyH_all1 7 (by kernel_rfl) ?_
            refine wpOp_call 7 _ _ _ _ rfl rfl (by go_simp) _ (hat _ hS) (fun w3 hb3 => ?_)
            replace hS := hS.go hb3
            replace hn := hn.below hb3
            refine ⟨hS, ?_⟩
            (try simp only [Act.put, Z1, Z2, Z3, Z4, Z5, Z6])
            refine anyH_one 9 _ (by kernel_rfl) rfl rfl (wp_store_row 99 _ _ rfl nb (verA v) rfl rfl 99 _ hn (size44 _) (by simp only [verA_size]) (verA_one _) ⟨hS.fr ((Fr.refl (fun i => i = nb) _).setRow nb (verA v) fun _ => rfl) (fun i hi => by omega), ?_⟩)
            replace hS := hS.fr ((Fr.refl (fun i => i = nb) _).setRow nb (verA v) fun _ => rfl) (fun i hi => by omega)
            replace hn := hn.setRow (verA v)
            (try simp only [Act.put, Z1, Z2, Z3, Z4, Z5, Z6])
            generalize (w3).setRow nb (verA v) = V6 at *
            refine wpAnyH_done (by kernel_rfl) ?_ _
            clear hat
            have hmid : V6.rangeAt nb 1 (rowL 64 v.b) := fun j u hu => by
              rw [hn.cell]
              show (verC v).toArray[1 + j]? = some u
              rw [List.getElem?_toArray, Nat.add_comm]
              exact hu
            replace hmid := Lib.hid hmid
            go_upto_region 13 with (fail)
            refine no_implicit_lambda% (wp_region_lit ?_)
            refine no_implicit_lambda% (wpl_val ?_ rfl ?_ ?_)
            rotate_left
            · (go_simp; (try with_reducible rfl))
            (try simp only [Act.put, Z1, Z2, Z4, Z5, Z6])
            refine no_implicit_lambda% (wpl_val ?_ rfl ?_ ?_)
            rotate_left
            · (have c0 := (show V6.cell? ⟨nb, 0, none⟩ = some (.int .u32 v.ts) by rw [hn.cell]; rfl); go_simp; (try with_reducible rfl))
            (try simp only [Act.put, Z1, Z2, Z3, Z4, Z5, Z6])
            refine no_implicit_lambda% (wpl_val ?_ rfl ?_ ?_)
            rotate_left
            · (go_simp; (try with_reducible rfl))
            (try simp only [Act.put, Z1, Z2, Z3, Z4, Z5, Z6])
            refine wpList_load_midR rfl 54 _ rfl nb 1 rfl 64 v.b _ hmid.out Try.underlying54 rfl zero38.2 ?_
            (try simp only [Act.put, Z1, Z2, Z3, Z4, Z5, Z6])
            refine wpList_buildE rfl 56 _ rfl (rpA ⟨0, 0, v.ts, v.b⟩) (by go_simp; exact b40_23 v.ts v.b) ?_
            (try simp only [Act.put, Z1, Z2, Z3, Z4, Z5, Z6])
            refine wpList_store_fr rfl 56 _ _ rfl (w.heap.size + 1) (rpA ⟨0, 0, v.ts, v.b⟩) rfl rfl 56 _ hS.res (size40 _) (by simp only [rpA_size]) (rpA_one _) ?_
            intro w9 hB9 hF9
            refine no_implicit_lambda% (wpList_nil ?_)
            go_wp2_with fail
            refine bodyPost_ret (v := .agg (rpA ⟨0, 0, v.ts, v.b⟩)) ?_ rfl ?_
            · exact results_cell_row rfl _ _ (w.heap.size + 1) 56 (rpA ⟨0, 0, v.ts, v.b⟩) (0, 0) _ rfl hB9 Try.underlying56 rfl (size40 _)
            rw [HC.out]
            exact ⟨rfl, hS.fin hF9⟩
      · by_cases h2 : c.kind = 2
        · rw [h2] at b0
          have hoff : 0 ≤ c.off ∧ c.off ≤ 64 ∧ (c.s.size : Int) ≤ 64 - c.off := by
            refine ⟨?_, ?_, ?_⟩
            · exact Int.not_lt.1 fun e => HNB.out (.inr ⟨h2, .inl e⟩)
            · exact Int.not_lt.1 fun e => HNB.out (.inr ⟨h2, .inr (.inl e)⟩)
            · exact Int.not_lt.1 fun e => HNB.out (.inr ⟨h2, .inr (.inr e)⟩)
          replace hoff := Lib.hid hoff
          cases hgm : get T.now c.page with
          | some b =>
            have hmb : mineB T c.page = b := by unfold mineB; rw [hgm]; rfl
            rw [hmb] at hbx
            have HC : Hid (P.of M c = P.wr M c T b) := by
              unfold Hid P.of
              rw [if_neg HNB.out, HL.out]
              simp only []
              rw [if_neg h1, if_pos h2, hgm]
            clear h1 h2 hgm hmb
            replace hoff := hoff.out
            go_upto_region 19 with (fail)
            refine wp_region_held (S := (fun w' => OfS base w w' m M c)) (by kernel_rfl) ?_
            change wpAnyH _ _ _ _ _ _ _ _ (World.drew _)
            (try simp only [Act.put])
            replace hS := hS.drew
            obtain ⟨sv, hsl, w9, hcp, hb9, hf9⟩ := slice_copy hbx.drew hoff.1 hoff.2.1 hoff.2.2 3
            replace hsl := Lib.hid hsl
            replace hcp := Lib.hid hcp
            refine anyH_pure 0 _ ?_ rfl (by kernel_rfl) (by kernel_rfl) (by kernel_rfl) (fun _ _ _ h => h) rfl ?_ hS ?_
            rotate_left
            · (intro w'; go_simp; (try with_reducible rfl))
            (try simp only [Act.put, Z1, Z2, Z4, Z5, Z6])
            refine anyH_if 1 _ ?_ rfl (by kernel_rfl) (by kernel_rfl) (by kernel_rfl) (fun _ _ _ h => h) rfl ?_ hS ?_
            rotate_left
            · (intro w' h; have c0 := h.b3; go_simp; (try with_reducible rfl))
            (try simp only [Act.put, Z1, Z2, Z3, Z4, Z5, Z6])
            refine anyH_pure 2 _ (sv) rfl (by kernel_rfl) (by kernel_rfl) (by kernel_rfl) (fun _ _ _ h => h) rfl ?_ hS ?_
            · (intro w'; (have c0 := hsl.out w'; go_simp))
            (try simp only [Act.put, Z1, Z2, Z3, Z4, Z5, Z6])
            refine anyH_pure 3 _ ?_ rfl (by kernel_rfl) (by kernel_rfl) (by kernel_rfl) (fun _ _ _ h => h) rfl ?_ hS ?_
            rotate_left
            · (intro w'; go_simp; (try with_reducible rfl))
            (try simp only [Act.put, Z1, Z2, Z3, Z4, Z5, Z6])
            refine anyH_if 4 _ ?_ rfl (by kernel_rfl) (by kernel_rfl) (by kernel_rfl) (fun _ _ _ h => h) rfl ?_ hS ?_
            rotate_left
            · (intro w' h; have c0 := h.b4; go_simp; (try with_reducible rfl))
            (try simp only [Act.put, Z1, Z2, Z3, Z4, Z5, Z6])
            refine anyH_one 5 _ (by kernel_rfl) rfl rfl (wp_of_run (v := goInt c.s.size) (w' := w9) (by have c0 := hcp.out; go_simp) ⟨hS.fr hf9 (fun i hi => by omega), ?_⟩)
            replace hS := hS.fr hf9 (fun i hi => by omega)
            replace hbx := hb9
            clear hcp hsl hf9
            (try simp only [Act.put, Z1, Z2, Z3, Z4, Z5, Z6])
            refine wpAnyH_done (by kernel_rfl) ?_ _
            go_upto_region 20 with (fail)
            refine wp_region_K (k := 7) (S := (fun w' => OfS base w w' m M c ∧ Blk w' bx (row 64 (P.cpy b c.off.toNat c.s)) 54)) (by kernel_rfl) ?_
            change wpAnyK _ _ _ _ _ _ _ _ _ (World.drew _)
            (try simp only [Act.put])
            replace hS := And.intro hS.drew hbx.drew
            refine anyK_pure 0 _ ?_ rfl (by kernel_rfl) (by kernel_rfl) (by kernel_rfl) (fun _ _ _ h => h) (by decide) rfl ?_ hS ?_
            rotate_left
            · (intro w'; go_simp; (try with_reducible rfl))
            (try simp only [Act.put, Z1, Z2, Z4, Z5, Z6])
            refine anyK_pure 1 _ ?_ rfl (by kernel_rfl) (by kernel_rfl) (by kernel_rfl) (fun _ _ _ h => h) (by decide) rfl ?_ hS ?_
            rotate_left
            · (intro w'; go_simp; (try with_reducible rfl))
            (try simp only [Act.put, Z1, Z2, Z3, Z4, Z5, Z6])
            refine anyK_pure 2 _ ?_ rfl (by kernel_rfl) (by kernel_rfl) (by kernel_rfl) (fun _ _ _ h => h) (by decide) rfl ?_ hS ?_
            rotate_left
            · (intro w'; go_simp; (try with_reducible rfl))
            (try simp only [Act.put, Z1, Z2, Z3, Z4, Z5, Z6])
            refine anyK_if 3 _ ?_ rfl (by kernel_rfl) (by kernel_rfl) (by kernel_rfl) (fun _ _ _ h => h) (by decide) (by kernel_rfl) (by kernel_rfl) rfl ?_ hS ?_
            rotate_left
            · (intro w' h; have c0 := (h.1.ms.tx _ HT.out).t1; go_simp; (try with_reducible rfl))
            (try simp only [Act.put, Z1, Z2, Z3, Z4, Z5, Z6])
            refine anyK_pure 4 _ ?_ rfl (by kernel_rfl) (by kernel_rfl) (by kernel_rfl) (fun _ _ _ h => h) (by decide) rfl ?_ hS ?_
            rotate_left
            · (intro w'; go_simp; (try with_reducible rfl))
            (try simp only [Act.put, Z1, Z2, Z3, Z4, Z5, Z6])
            refine anyK_if 5 _ ?_ rfl (by kernel_rfl) (by kernel_rfl) (by kernel_rfl) (fun _ _ _ h => h) (by decide) (by kernel_rfl) (by kernel_rfl) rfl ?_ hS ?_
            rotate_left
            · (intro w' h; have c0 := h.1.b2; go_simp; (try with_reducible rfl))
            (try simp only [Act.put, Z1, Z2, Z3, Z4, Z5, Z6])
            refine anyK_if 6 _ (.agg (row 64 (P.cpy b c.off.toNat c.s))) rfl (by kernel_rfl) (by kernel_rfl) (by kernel_rfl) (fun _ _ _ h => h) (by decide) (by kernel_rfl) (by kernel_rfl) rfl (fun w' h => run_load_cs rfl rfl h.2 Try.underlying54 rfl (size38 _)) hS ?_
            (try simp only [Act.put, Z1, Z2, Z3, Z4, Z5, Z6])
            obtain ⟨w8, hu, hm8, hf8⟩ := run_updateA Try.underlying92 Try.underlying41 (hS.1.ms.tx _ HT.out).n c.page (.agg (row 64 (P.cpy b c.off.toNat c.s)))
            obtain ⟨m2, e2, hms2, hown2⟩ := hS.1.ms.putNow HG.out hf8 c.page (P.cpy b c.off.toNat c.s) hm8
            have hnl : n < w.heap.size := hS.1.lt _ (MW.mem_tx HT.out).2
            have hnm : m.own n := (MW.mem_tx HT.out).2
            have hres8 := hS.1.res.fr hf8 (fun e => by have e' : w.heap.size + 1 = n := e; omega)
            have hbel := hS.1.below
            replace hlt := Lib.hid hS.1.lt
            refine anyK_last _ (by kernel_rfl) rfl (by decide) rfl (wp_mapUpdateE rfl rfl rfl rfl hu ?_)
            clear hu hm8 hS hbx
            (try simp only [Act.put, Z1, Z2, Z3, Z4, Z5, Z6])
            refine anyK_done (by kernel_rfl) ?_ _
            go_upto_region 21 with (fail)
            refine no_implicit_lambda% (wp_region_lit ?_)
            refine wpList_buildE rfl 56 _ rfl (rpA ⟨0, 0, 0, P.zb⟩) (by go_simp; exact b40) ?_
            (try simp only [Act.put, Z1, Z2, Z3, Z4, Z5, Z6])
            refine wpList_store_fr rfl 56 _ _ rfl (w.heap.size + 1) (rpA ⟨0, 0, 0, P.zb⟩) rfl rfl 56 _ hres8 (size40 _) (by simp only [rpA_size]) (rpA_one _) ?_
            intro w7 hB7 hF7
            refine no_implicit_lambda% (wpList_nil ?_)
            go_wp2_with fail
            refine bodyPost_ret (v := .agg (rpA ⟨0, 0, 0, P.zb⟩)) ?_ rfl ?_
            · exact results_cell_row rfl _ _ (w.heap.size + 1) 56 (rpA ⟨0, 0, 0, P.zb⟩) (0, 0) _ rfl hB7 Try.underlying56 rfl (size40 _)
            rw [HC.out]
            refine ⟨rfl, m2, e2, hms2.fr hF7 (fun b hb e => by have := hlt.out b (hown2 b hb); omega), ?_, fun b hb => .inl (hown2 b hb)⟩
            exact ((Fr.of_below hbel m.own).trans hf8 fun i hi e => e ▸ hnm).trans hF7 fun i hi e => by omega
          | none =>
            by_cases h4 : T.now.length = 4
            · have HC : Hid (P.of M c = (M, P.err 10)) := by
                unfold Hid P.of
                rw [if_neg HNB.out, HL.out]
                simp only []
                rw [if_neg h1, if_pos h2, hgm]
                simp only []
                rw [if_pos h4]
              have hlen := run_lenA (P := Try.prog) Try.underlying92 (hS.ms.tx _ HT.out).n 3
              rw [List.length_map, h4] at hlen
              replace hlen := Lib.hid hlen
              clear h1 h2 hgm h4
              go_upto_region 16 with (fail)
              refine no_implicit_lambda% (wp_region_lit ?_)
              iterate 3
                refine no_implicit_lambda% (wpl_val ?_ rfl ?_ ?_)
                rotate_left
                · (go_simp; (try with_reducible rfl))
                (try simp only [Act.put, Z1, Z2, Z3, Z4, Z5, Z6])
              refine no_implicit_lambda% (wpl_val ?_ rfl ?_ ?_)
              rotate_left
              · (have c0 := (hS.ms.tx _ HT.out).t1; go_simp; (try with_reducible rfl))
              (try simp only [Act.put, Z1, Z2, Z3, Z4, Z5, Z6])
              refine no_implicit_lambda% (wpl_val ?_ rfl ?_ ?_)
              rotate_left
              · (have c0 := hlen.out; go_simp; (try with_reducible rfl))
              (try simp only [Act.put, Z1, Z2, Z3, Z4, Z5, Z6])
              refine no_implicit_lambda% (wpl_val ?_ rfl ?_ ?_)
              rotate_left
              · (go_simp; (try with_reducible rfl))
              (try simp only [Act.put, Z1, Z2, Z3, Z4, Z5, Z6])
              refine no_implicit_lambda% (wpList_nil ?_)
              go_wp2_with (first
                | (refine wpList_buildE rfl 56 _ rfl (rpA ⟨10, 0, 0, P.zb⟩) (by go_simp; exact b40_0 _) ?_)
                | (refine wpList_store_fr rfl 56 _ _ rfl (w.heap.size + 1) (rpA ⟨10, 0, 0, P.zb⟩) rfl rfl 56 _ hS.res (size40 _) (by simp only [rpA_size]) (rpA_one _) ?_; intro w9 hB9 hF9)
                | fail)
              refine bodyPost_ret (v := .agg (rpA ⟨10, 0, 0, P.zb⟩)) ?_ rfl ?_
              · exact results_cell_row rfl _ _ (w.heap.size + 1) 56 (rpA ⟨10, 0, 0, P.zb⟩) (0, 0) _ rfl hB9 Try.underlying56 rfl (size40 _)
              rw [HC.out]
              exact ⟨rfl, hS.fin hF9⟩
            · have HC : Hid (P.of M c = P.wr M c T (P.at' M c.page T.start).b) := by
                unfold Hid P.of
                rw [if_neg HNB.out, HL.out]
                simp only []
                rw [if_neg h1, if_pos h2, hgm]
                simp only []
                rw [if_neg h4]
              have hlen := run_lenA (P := Try.prog) Try.underlying92 (hS.ms.tx _ HT.out).n 3
              rw [List.length_map] at hlen
              have hl4 : ((T.now.length : Int) == 4) = false := by simp; omega
              replace hlen := Lib.hid hlen
              clear h1 h2 hgm h4
              go_upto_region 16 with (fail)
              refine no_implicit_lambda% (wp_region_lit ?_)
              iterate 3
                refine no_implicit_lambda% (wpl_val ?_ rfl ?_ ?_)
                rotate_left
                · (go_simp; (try with_reducible rfl))
                (try simp only [Act.put, Z1, Z2, Z3, Z4, Z5, Z6])
              refine no_implicit_lambda% (wpl_val ?_ rfl ?_ ?_)
              rotate_left
              · (have c0 := (hS.ms.tx _ HT.out).t1; go_simp; (try with_reducible rfl))
              (try simp only [Act.put, Z1, Z2, Z3, Z4, Z5, Z6])
              refine no_implicit_lambda% (wpl_val ?_ rfl ?_ ?_)
              rotate_left
              · (have c0 := hlen.out; go_simp; (try with_reducible rfl))
              (try simp only [Act.put, Z1, Z2, Z3, Z4, Z5, Z6])
              refine no_implicit_lambda% (wpl_val ?_ rfl ?_ ?_)
              rotate_left
              · (go_simp; (try with_reducible rfl))
              (try simp only [Act.put, Z1, Z2, Z3, Z4, Z5, Z6])
              refine no_implicit_lambda% (wpList_nil ?_)
              go_upto_region 18 with (fail)
              refine wp_region_held (S := (fun w' => OfS base w w' m M c)) (by kernel_rfl) ?_
              change wpAnyH _ _ _ _ _ _ _ _ (World.drew _)
              (try simp only [Act.put])
              replace hS := hS.drew
              replace hbx := hbx.drew
              refine anyH_pure 0 _ ?_ rfl (by kernel_rfl) (by kernel_rfl) (by kernel_rfl) (fun _ _ _ h => h) rfl ?_ hS ?_
              rotate_left
              · (intro w'; go_simp; (try with_reducible rfl))
              (try simp only [Act.put, Z1, Z2, Z4, Z5, Z6])
              refine anyH_pure 1 _ ?_ rfl (by kernel_rfl) (by kernel_rfl) (by kernel_rfl) (fun _ _ _ h => h) rfl ?_ hS ?_
              rotate_left
              · (intro w'; go_simp; (try with_reducible rfl))
              (try simp only [Act.put, Z1, Z2, Z3, Z4, Z5, Z6])
              refine anyH_if 2 _ ?_ rfl (by kernel_rfl) (by kernel_rfl) (by kernel_rfl) (fun _ _ _ h => h) rfl ?_ hS ?_
              rotate_left
              · (intro w' h; have c0 := h.b2; go_simp; (try with_reducible rfl))
              (try simp only [Act.put, Z1, Z2, Z3, Z4, Z5, Z6])
              refine anyH_pure 3 _ ?_ rfl (by kernel_rfl) (by kernel_rfl) (by kernel_rfl) (fun _ _ _ h => h) rfl ?_ hS ?_
              rotate_left
              · (intro w'; go_simp; (try with_reducible rfl))
              (try simp only [Act.put, Z1, Z2, Z3, Z4, Z5, Z6])
              refine anyH_pure 4 _ ?_ rfl (by kernel_rfl) (by kernel_rfl) (by kernel_rfl) (fun _ _ _ h => h) rfl ?_ hS ?_
              rotate_left
              · (intro w'; go_simp; (try with_reducible rfl))
              (try simp only [Act.put, Z1, Z2, Z3, Z4, Z5, Z6])
              refine anyH_pure 5 _ ?_ rfl (by kernel_rfl) (by kernel_rfl) (by kernel_rfl) (fun _ _ _ h => h) rfl ?_ hS ?_
              rotate_left
              · (intro w'; go_simp; (try with_reducible rfl))
              (try simp only [Act.put, Z1, Z2, Z3, Z4, Z5, Z6])
              refine anyH_if 6 _ ?_ rfl (by kernel_rfl) (by kernel_rfl) (by kernel_rfl) (fun _ _ _ h => h) rfl ?_ hS ?_
              rotate_left
              · (intro w' h; have c0 := (h.ms.tx _ HT.out).t0; go_simp; (try with_reducible rfl))
              (try simp only [Act.put, Z1, Z2, Z3, Z4, Z5, Z6])
              have hat := Lib.hid (at_any hS.ms c.page T.start)
              generalize P.at' M c.page T.start = v at *
              refine anyH_all1 7 (by kernel_rfl) ?_
              refine wpOp_call 7 _ _ _ _ rfl rfl (by go_simp) _ hat.out (fun w3 hb3 => ?_)
              replace hS := hS.go hb3
              replace hbx := hbx.below hb3
              refine ⟨hS, ?_⟩
              clear hat hb3 hlen
              (try simp only [Act.put, Z1, Z2, Z3, Z4, Z5, Z6])
              refine anyH_pure 8 _ (.agg (row 64 v.b)) rfl (by kernel_rfl) (by kernel_rfl) (by kernel_rfl) (fun _ _ _ h => h) rfl ?_ hS ?_
              · (intro w'; (have c0 := field_b v w'; go_simp))
              (try simp only [Act.put, Z1, Z2, Z3, Z4, Z5, Z6])
              refine anyH_one 9 _ (by kernel_rfl) rfl rfl (wp_store_row 54 _ _ rfl bx (row 64 v.b) rfl rfl 54 _ hbx (size38 _) (by simp only [row_size]) (row_one _ _) ⟨hS.fr ((Fr.refl (fun i => i = bx) _).setRow bx (row 64 v.b) fun _ => rfl) (fun i hi => by omega), ?_⟩)
              replace hS := hS.fr ((Fr.refl (fun i => i = bx) _).setRow bx (row 64 v.b) fun _ => rfl) (fun i hi => by omega)
              replace hbx := hbx.setRow (row 64 v.b)
              (try simp only [Act.put, Z1, Z2, Z3, Z4, Z5, Z6])
              generalize World.setRow w3 bx (row 64 v.b) = V7 at *
              refine wpAnyH_done (by kernel_rfl) ?_ _
              replace hoff := hoff.out
              go_upto_region 19 with (fail)
              refine wp_region_held (S := (fun w' => OfS base w w' m M c)) (by kernel_rfl) ?_
              change wpAnyH _ _ _ _ _ _ _ _ (World.drew _)
              (try simp only [Act.put])
              replace hS := hS.drew
              obtain ⟨sv, hsl, w9, hcp, hb9, hf9⟩ := slice_copy hbx.drew hoff.1 hoff.2.1 hoff.2.2 3
              replace hsl := Lib.hid hsl
              replace hcp := Lib.hid hcp
              refine anyH_pure 0 _ ?_ rfl (by kernel_rfl) (by kernel_rfl) (by kernel_rfl) (fun _ _ _ h => h) rfl ?_ hS ?_
              rotate_left
              · (intro w'; go_simp; (try with_reducible rfl))
              (try simp only [Act.put, Z1, Z2, Z4, Z5, Z6])
              refine anyH_if 1 _ ?_ rfl (by kernel_rfl) (by kernel_rfl) (by kernel_rfl) (fun _ _ _ h => h) rfl ?_ hS ?_
              rotate_left
              · (intro w' h; have c0 := h.b3; go_simp; (try with_reducible rfl))
              (try simp only [Act.put, Z1, Z2, Z3, Z4, Z5, Z6])
              refine anyH_pure 2 _ (sv) rfl (by kernel_rfl) (by kernel_rfl) (by kernel_rfl) (fun _ _ _ h => h) rfl ?_ hS ?_
              · (intro w'; (have c0 := hsl.out w'; go_simp))
              (try simp only [Act.put, Z1, Z2, Z3, Z4, Z5, Z6])
              refine anyH_pure 3 _ ?_ rfl (by kernel_rfl) (by kernel_rfl) (by kernel_rfl) (fun _ _ _ h => h) rfl ?_ hS ?_
              rotate_left
              · (intro w'; go_simp; (try with_reducible rfl))
              (try simp only [Act.put, Z1, Z2, Z3, Z4, Z5, Z6])
              refine anyH_if 4 _ ?_ rfl (by kernel_rfl) (by kernel_rfl) (by kernel_rfl) (fun _ _ _ h => h) rfl ?_ hS ?_
              rotate_left
              · (intro w' h; have c0 := h.b4; go_simp; (try with_reducible rfl))
              (try simp only [Act.put, Z1, Z2, Z3, Z4, Z5, Z6])
              refine anyH_one 5 _ (by kernel_rfl) rfl rfl (wp_of_run (v := goInt c.s.size) (w' := w9) (by have c0 := hcp.out; go_simp) ⟨hS.fr hf9 (fun i hi => by omega), ?_⟩)
              replace hS := hS.fr hf9 (fun i hi => by omega)
              replace hbx := hb9
              clear hcp hsl hf9
              (try simp only [Act.put, Z1, Z2, Z3, Z4, Z5, Z6])
              refine wpAnyH_done (by kernel_rfl) ?_ _
              go_upto_region 20 with (fail)
              refine wp_region_K (k := 7) (S := (fun w' => OfS base w w' m M c ∧ Blk w' bx (row 64 (P.cpy v.b c.off.toNat c.s)) 54)) (by kernel_rfl) ?_
              change wpAnyK _ _ _ _ _ _ _ _ _ (World.drew _)
              (try simp only [Act.put])
              replace hS := And.intro hS.drew hbx.drew
              refine anyK_pure 0 _ ?_ rfl (by kernel_rfl) (by kernel_rfl) (by kernel_rfl) (fun _ _ _ h => h) (by decide) rfl ?_ hS ?_
              rotate_left
              · (intro w'; go_simp; (try with_reducible rfl))
              (try simp only [Act.put, Z1, Z2, Z4, Z5, Z6])
              refine anyK_pure 1 _ ?_ rfl (by kernel_rfl) (by kernel_rfl) (by kernel_rfl) (fun _ _ _ h => h) (by decide) rfl ?_ hS ?_
              rotate_left
              · (intro w'; go_simp; (try with_reducible rfl))
              (try simp only [Act.put, Z1, Z2, Z3, Z4, Z5, Z6])
              refine anyK_pure 2 _ ?_ rfl (by kernel_rfl) (by kernel_rfl) (by kernel_rfl) (fun _ _ _ h => h) (by decide) rfl ?_ hS ?_
              rotate_left
              · (intro w'; go_simp; (try with_reducible rfl))
              (try simp only [Act.put, Z1, Z2, Z3, Z4, Z5, Z6])
              refine anyK_if 3 _ ?_ rfl (by kernel_rfl) (by kernel_rfl) (by kernel_rfl) (fun _ _ _ h => h) (by decide) (by kernel_rfl) (by kernel_rfl) rfl ?_ hS ?_
              rotate_left
              · (intro w' h; have c0 := (h.1.ms.tx _ HT.out).t1; go_simp; (try with_reducible rfl))
              (try simp only [Act.put, Z1, Z2, Z3, Z4, Z5, Z6])
              refine anyK_pure 4 _ ?_ rfl (by kernel_rfl) (by kernel_rfl) (by kernel_rfl) (fun _ _ _ h => h) (by decide) rfl ?_ hS ?_
              rotate_left
              · (intro w'; go_simp; (try with_reducible rfl))
              (try simp only [Act.put, Z1, Z2, Z3, Z4, Z5, Z6])
              refine anyK_if 5 _ ?_ rfl (by kernel_rfl) (by kernel_rfl) (by kernel_rfl) (fun _ _ _ h => h) (by decide) (by kernel_rfl) (by kernel_rfl) rfl ?_ hS ?_
              rotate_left
              · (intro w' h; have c0 := h.1.b2; go_simp; (try with_reducible rfl))
              (try simp only [Act.put, Z1, Z2, Z3, Z4, Z5, Z6])
              refine anyK_if 6 _ (.agg (row 64 (P.cpy v.b c.off.toNat c.s))) rfl (by kernel_rfl) (by kernel_rfl) (by kernel_rfl) (fun _ _ _ h => h) (by decide) (by kernel_rfl) (by kernel_rfl) rfl (fun w' h => run_load_cs rfl rfl h.2 Try.underlying54 rfl (size38 _)) hS ?_
              (try simp only [Act.put, Z1, Z2, Z3, Z4, Z5, Z6])
              obtain ⟨w8, hu, hm8, hf8⟩ := run_updateA Try.underlying92 Try.underlying41 (hS.1.ms.tx _ HT.out).n c.page (.agg (row 64 (P.cpy v.b c.off.toNat c.s)))
              obtain ⟨m2, e2, hms2, hown2⟩ := hS.1.ms.putNow HG.out hf8 c.page (P.cpy v.b c.off.toNat c.s) hm8
              have hnl : n < w.heap.size := hS.1.lt _ (MW.mem_tx HT.out).2
              have hnm : m.own n := (MW.mem_tx HT.out).2
              have hres8 := hS.1.res.fr hf8 (fun e => by have e' : w.heap.size + 1 = n := e; omega)
              have hbel := hS.1.below
              replace hlt := Lib.hid hS.1.lt
              refine anyK_last _ (by kernel_rfl) rfl (by decide) rfl (wp_mapUpdateE rfl rfl rfl rfl hu ?_)
              clear hu hm8 hS hbx
              (try simp only [Act.put, Z1, Z2, Z3, Z4, Z5, Z6])
              refine anyK_done (by kernel_rfl) ?_ _
              go_upto_region 21 with (fail)
              refine no_implicit_lambda% (wp_region_lit ?_)
              refine wpList_buildE rfl 56 _ rfl (rpA ⟨0, 0, 0, P.zb⟩) (by go_simp; exact b40) ?_
              (try simp only [Act.put, Z1, Z2, Z3, Z4, Z5, Z6])
              refine wpList_store_fr rfl 56 _ _ rfl (w.heap.size + 1) (rpA ⟨0, 0, 0, P.zb⟩) rfl rfl 56 _ hres8 (size40 _) (by simp only [rpA_size]) (rpA_one _) ?_
              intro w7 hB7 hF7
              refine no_implicit_lambda% (wpList_nil ?_)
              go_wp2_with fail
              refine bodyPost_ret (v := .agg (rpA ⟨0, 0, 0, P.zb⟩)) ?_ rfl ?_
              · exact results_cell_row rfl _ _ (w.heap.size + 1) 56 (rpA ⟨0, 0, 0, P.zb⟩) (0, 0) _ rfl hB7 Try.underlying56 rfl (size40 _)
              rw [HC.out]
              refine ⟨rfl, m2, e2, hms2.fr hF7 (fun b hb e => by have := hlt.out b (hown2 b hb); omega), ?_, fun b hb => .inl (hown2 b hb)⟩
              exact ((Fr.of_below hbel m.own).trans hf8 fun i hi e => e ▸ hnm).trans hF7 fun i hi e => by omega
        · by_cases h4 : c.kind = 4
          · have HC : Hid (P.of M c = ({ M with live := del M.live c.txn }, P.ok 0 P.zb)) := by
              unfold Hid P.of
              rw [if_neg HNB.out, HL.out]
              simp only []
              rw [if_neg h1, if_neg h2, if_pos h4]
            have hk4 : (c.kind == 4) = true := by simp [h4]
            have hk1 : (c.kind == 1) = false := by simp [h1]
            have hk2 : (c.kind == 2) = false := by simp [h2]
            clear h1 h2 h4
            go_upto_region 22 with (fail)
            refine wp_region_K (k := 6) (S := (fun w' => OfS base w w' m M c)) (by kernel_rfl) ?_
            change wpAnyK _ _ _ _ _ _ _ _ _ (World.drew _)
            (try simp only [Act.put])
            replace hS := hS.drew
            refine anyK_pure 0 _ ?_ rfl (by kernel_rfl) (by kernel_rfl) (by kernel_rfl) (fun _ _ _ h => h) (by decide) rfl ?_ hS ?_
            rotate_left
            · (intro w'; go_simp; (try with_reducible rfl))
            (try simp only [Act.put, Z1, Z2, Z4, Z5, Z6])
            refine anyK_pure 1 _ ?_ rfl (by kernel_rfl) (by kernel_rfl) (by kernel_rfl) (fun _ _ _ h => h) (by decide) rfl ?_ hS ?_
            rotate_left
            · (intro w'; go_simp; (try with_reducible rfl))
            (try simp only [Act.put, Z1, Z2, Z3, Z4, Z5, Z6])
            refine anyK_pure 2 _ ?_ rfl (by kernel_rfl) (by kernel_rfl) (by kernel_rfl) (fun _ _ _ h => h) (by decide) rfl ?_ hS ?_
            rotate_left
            · (intro w'; go_simp; (try with_reducible rfl))
            (try simp only [Act.put, Z1, Z2, Z3, Z4, Z5, Z6])
            refine anyK_if 3 _ ?_ rfl (by kernel_rfl) (by kernel_rfl) (by kernel_rfl) (fun _ _ _ h => h) (by decide) (by kernel_rfl) (by kernel_rfl) rfl ?_ hS ?_
            rotate_left
            · (intro w' h; have c0 := h.ms.c5; go_simp; (try with_reducible rfl))
            (try simp only [Act.put, Z1, Z2, Z3, Z4, Z5, Z6])
            refine anyK_pure 4 _ ?_ rfl (by kernel_rfl) (by kernel_rfl) (by kernel_rfl) (fun _ _ _ h => h) (by decide) rfl ?_ hS ?_
            rotate_left
            · (intro w'; go_simp; (try with_reducible rfl))
            (try simp only [Act.put, Z1, Z2, Z3, Z4, Z5, Z6])
            refine anyK_if 5 _ ?_ rfl (by kernel_rfl) (by kernel_rfl) (by kernel_rfl) (fun _ _ _ h => h) (by decide) (by kernel_rfl) (by kernel_rfl) rfl ?_ hS ?_
            rotate_left
            · (intro w' h; have c0 := h.b1; go_simp; (try with_reducible rfl))
            (try simp only [Act.put, Z1, Z2, Z3, Z4, Z5, Z6])
            obtain ⟨w8, hu, hm8, hf8⟩ := run_deleteA Try.underlying88 Try.underlying52 hS.ms.l c.txn 0
            obtain ⟨hms2, hT8, hnt, hnn, hown2, hot, hon⟩ := hS.ms.delTx HG.out hf8 hm8
            have hll : m.l < w.heap.size := hS.lt _ ⟨.l, rfl⟩
            have hlm : m.own m.l := ⟨.l, rfl⟩
            have hres8 := hS.res.fr hf8 (fun e => by have e' : w.heap.size + 1 = m.l := e; omega)
            have b08 : w8.cell? ⟨w.heap.size, 0, none⟩ = some (.int .u8 c.kind) := by
              have := hS.box.fr hf8 (fun e => by have e' : w.heap.size = m.l := e; omega)
              rw [this.cell]; rfl
            have hbel := hS.below
            replace hlt := Lib.hid hS.lt
            replace hu := Lib.hid hu
            refine anyK_last _ (by kernel_rfl) rfl (by decide) rfl (wp_of_run (v := .tuple #[]) (w' := w8) (by have c0 := hu.out; go_simp) ?_)
            clear hu hm8 hS hbx b0
            (try simp only [Act.put, Z1, Z2, Z3, Z4, Z5, Z6])
            refine anyK_done (by kernel_rfl) ?_ _
            go_upto_region 23 with (fail)
            refine no_implicit_lambda% (wp_region_lit ?_)
            refine no_implicit_lambda% (wpl_val ?_ rfl ?_ ?_)
            rotate_left
            · (go_simp; (try with_reducible rfl))
            (try simp only [Act.put, Z1, Z2, Z4, Z5, Z6])
            refine no_implicit_lambda% (wpl_val ?_ rfl ?_ ?_)
            rotate_left
            · (have c0 := b08; go_simp; (try with_reducible rfl))
            (try simp only [Act.put, Z1, Z2, Z3, Z4, Z5, Z6])
            refine no_implicit_lambda% (wpl_val ?_ rfl ?_ ?_)
            rotate_left
            · (go_simp; (try with_reducible rfl))
            (try simp only [Act.put, Z1, Z2, Z3, Z4, Z5, Z6])
            refine no_implicit_lambda% (wpList_nil ?_)
            go_upto_region 24 with (fail)
            refine no_implicit_lambda% (wp_region_lit ?_)
            refine wpList_buildE rfl 56 _ rfl (rpA ⟨0, 0, 0, P.zb⟩) (by go_simp; exact b40) ?_
            (try simp only [Act.put, Z1, Z2, Z3, Z4, Z5, Z6])
            refine wpList_store_fr rfl 56 _ _ rfl (w.heap.size + 1) (rpA ⟨0, 0, 0, P.zb⟩) rfl rfl 56 _ hres8 (size40 _) (by simp only [rpA_size]) (rpA_one _) ?_
            intro w7 hB7 hF7
            refine no_implicit_lambda% (wpList_nil ?_)
            go_wp2_with fail
            refine bodyPost_ret (v := .agg (rpA ⟨0, 0, 0, P.zb⟩)) ?_ rfl ?_
            · exact results_cell_row rfl _ _ (w.heap.size + 1) 56 (rpA ⟨0, 0, 0, P.zb⟩) (0, 0) _ rfl hB7 Try.underlying56 rfl (size40 _)
            rw [HC.out]
            refine ⟨rfl, { m with txs := del m.txs c.txn }, rfl, hms2.fr hF7 (fun b hb e => by have := hlt.out b (hown2 b hb); omega), ?_, fun b hb => .inl (hown2 b hb)⟩
            exact ((Fr.of_below hbel m.own).trans hf8 fun i hi e => e ▸ hlm).trans hF7 fun i hi e => by omega
          · have HC : Hid (P.of M c = P.com { M with live := del M.live c.txn } T) := by
              unfold Hid P.of
              rw [if_neg HNB.out, HL.out]
              simp only []
              rw [if_neg h1, if_neg h2, if_neg h4]
            have hk4 : (c.kind == 4) = false := by simp [h4]
            have hk1 : (c.kind == 1) = false := by simp [h1]
            have hk2 : (c.kind == 2) = false := by simp [h2]
            clear h1 h2 h4
            go_upto_region 22 with (fail)
            refine wp_region_K (k := 6) (S := (fun w' => OfS base w w' m M c)) (by kernel_rfl) ?_
            change wpAnyK _ _ _ _ _ _ _ _ _ (World.drew _)
            (try simp only [Act.put])
            replace hS := hS.drew
            refine anyK_pure 0 _ ?_ rfl (by kernel_rfl) (by kernel_rfl) (by kernel_rfl) (fun _ _ _ h => h) (by decide) rfl ?_ hS ?_
            rotate_left
            · (intro w'; go_simp; (try with_reducible rfl))
            (try simp only [Act.put, Z1, Z2, Z4, Z5, Z6])
            refine anyK_pure 1 _ ?_ rfl (by kernel_rfl) (by kernel_rfl) (by kernel_rfl) (fun _ _ _ h => h) (by decide) rfl ?_ hS ?_
            rotate_left
            · (intro w'; go_simp; (try with_reducible rfl))
            (try simp only [Act.put, Z1, Z2, Z3, Z4, Z5, Z6])
            refine anyK_pure 2 _ ?_ rfl (by kernel_rfl) (by kernel_rfl) (by kernel_rfl) (fun _ _ _ h => h) (by decide) rfl ?_ hS ?_
            rotate_left
            · (intro w'; go_simp; (try with_reducible rfl))
            (try simp only [Act.put, Z1, Z2, Z3, Z4, Z5, Z6])
            refine anyK_if 3 _ ?_ rfl (by kernel_rfl) (by kernel_rfl) (by kernel_rfl) (fun _ _ _ h => h) (by decide) (by kernel_rfl) (by kernel_rfl) rfl ?_ hS ?_
            rotate_left
            · (intro w' h; have c0 := h.ms.c5; go_simp; (try with_reducible rfl))
            (try simp only [Act.put, Z1, Z2, Z3, Z4, Z5, Z6])
            refine anyK_pure 4 _ ?_ rfl (by kernel_rfl) (by kernel_rfl) (by kernel_rfl) (fun _ _ _ h => h) (by decide) rfl ?_ hS ?_
            rotate_left
            · (intro w'; go_simp; (try with_reducible rfl))
            (try simp only [Act.put, Z1, Z2, Z3, Z4, Z5, Z6])
            refine anyK_if 5 _ ?_ rfl (by kernel_rfl) (by kernel_rfl) (by kernel_rfl) (fun _ _ _ h => h) (by decide) (by kernel_rfl) (by kernel_rfl) rfl ?_ hS ?_
            rotate_left
            · (intro w' h; have c0 := h.b1; go_simp; (try with_reducible rfl))
            (try simp only [Act.put, Z1, Z2, Z3, Z4, Z5, Z6])
            obtain ⟨w8, hu, hm8, hf8⟩ := run_deleteA Try.underlying88 Try.underlying52 hS.ms.l c.txn 0
            obtain ⟨hms2, hT8, hnt, hnn, hown2, hot, hon⟩ := hS.ms.delTx HG.out hf8 hm8
            have hll : m.l < w.heap.size := hS.lt _ ⟨.l, rfl⟩
            have hlm : m.own m.l := ⟨.l, rfl⟩
            have hres8 := hS.res.fr hf8 (fun e => by have e' : w.heap.size + 1 = m.l := e; omega)
            have b08 : w8.cell? ⟨w.heap.size, 0, none⟩ = some (.int .u8 c.kind) := by
              have := hS.box.fr hf8 (fun e => by have e' : w.heap.size = m.l := e; omega)
              rw [this.cell]; rfl
            have hbel := hS.below
            replace hlt := Lib.hid hS.lt
            replace hu := Lib.hid hu
            refine anyK_last _ (by kernel_rfl) rfl (by decide) rfl (wp_of_run (v := .tuple #[]) (w' := w8) (by have c0 := hu.out; go_simp) ?_)
            clear hu hm8 hS hbx b0
            (try simp only [Act.put, Z1, Z2, Z3, Z4, Z5, Z6])
            refine anyK_done (by kernel_rfl) ?_ _
            go_upto_region 23 with (fail)
            refine no_implicit_lambda% (wp_region_lit ?_)
            refine no_implicit_lambda% (wpl_val ?_ rfl ?_ ?_)
            rotate_left
            · (go_simp; (try with_reducible rfl))
            (try simp only [Act.put, Z1, Z2, Z4, Z5, Z6])
            refine no_implicit_lambda% (wpl_val ?_ rfl ?_ ?_)
            rotate_left
            · (have c0 := b08; go_simp; (try with_reducible rfl))
            (try simp only [Act.put, Z1, Z2, Z3, Z4, Z5, Z6])
            refine no_implicit_lambda% (wpl_val ?_ rfl ?_ ?_)
            rotate_left
            · (go_simp; (try with_reducible rfl))
            (try simp only [Act.put, Z1, Z2, Z3, Z4, Z5, Z6])
            refine no_implicit_lambda% (wpList_nil ?_)
            go_upto_region 25 with (fail)
            refine no_implicit_lambda% (wp_region_lit ?_)
            iterate 2
              refine no_implicit_lambda% (wpl_val ?_ rfl ?_ ?_)
              rotate_left
              · (go_simp; (try with_reducible rfl))
              (try simp only [Act.put, Z1, Z2, Z3, Z4, Z5, Z6])
            have hcom := com_any hms2 (P.ok_del ok c.txn) hT8 hnt hnn
            refine wpl_call _ _ rfl (by go_simp) _ hcom ?_
            rintro e w6 ⟨rfl, m3, e3, hms3, hf6, hown3⟩
            refine ⟨_, rfl, ?_⟩
            have hlt8 := hf8.size
            have hres6 := hres8.fr hf6 (fun e => by have := hlt.out _ (hown2 _ e); omega)
            generalize P.com { M with live := del M.live c.txn } T = R at *
            obtain ⟨M9, r9⟩ := R
            clear hcom
            (try simp only [Act.put, Z1, Z2, Z3, Z4, Z5, Z6])
            refine wpList_store_fr rfl 56 _ _ rfl (w.heap.size + 1) (rpA r9) rfl rfl 56 _ hres6 (size40 _) (by simp only [rpA_size]) (rpA_one _) ?_
            intro w7 hB7 hF7
            refine no_implicit_lambda% (wpList_nil ?_)
            go_wp2_with fail
            refine bodyPost_ret (v := .agg (rpA r9)) ?_ rfl ?_
            · exact results_cell_row rfl _ _ (w.heap.size + 1) 56 (rpA r9) (0, 0) _ rfl hB7 Try.underlying56 rfl (size40 _)
            rw [HC.out]
            refine ⟨rfl, m3, e3, hms3.fr hF7 (fun b hb e => ?_), ?_, fun b hb => ?_⟩
            · rcases hown3 b hb with h | h
              · have := hlt.out b (hown2 b h); omega
              · have := hres8.lt; omega
            · exact (((Fr.of_below hbel m.own).trans hf8 fun i hi e => e ▸ hlm).trans hf6 fun i hi e => hown2 i e).trans hF7 fun i hi e => by omega
            · rcases hown3 b hb with h | h
              · exact .inl (hown2 b h)
              · have := hbel.size; right; omega
end Go.Proofs.Ytnemaolbmocncaa
