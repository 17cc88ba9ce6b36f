/- The walk of few: a history's first transactions, in new memory. -/
import Derived.Test.YtnemaolbmocncaaHArg
namespace Go.Proofs.Ytnemaolbmocncaa
open Go.RowKit
set_option linter.unusedSimpArgs false
set_option linter.unusedVariables false
attribute [local irreducible] wpList
def fewP (a : P.Pst) : P.Pst := { a with reads := a.reads.take 6, writes := a.writes.take 6 }
def fewL (L : List P.Pst) : List P.Pst := (L.take 9).map fewP
theorem run_build0 {P : Program} {a : Act} {o : Oper} {w : World} {t e : TypeId} {i : TypeInfo} (ho : o.op = .buildSlice t 0 #[]) (ht : P.underlying t = some (.slice e)) (hi : P.info? e = some i) :
    (execOp a.eval o).run P w = .ok (.value (.slice (some ⟨w.heap.size, 0, none⟩) 0 0)) (w.alloc (.cells #[] e)) := by
  unfold execOp
  simp [ho, Instr.buildSlice, run_underlying ht, sizeOf, typeInfo, hi, newRow, Instr.fill, Result.andThen]
  congr 2
  exact Array.eq_empty_of_size_eq_zero (by simp)
theorem own0 (w : World) (base : Nat) (e : TypeId) (size : Nat) (hb : base ≤ w.heap.size) : (w.alloc (.cells #[] e)).ownsRow base e size (.slice (some ⟨w.heap.size, 0, none⟩) 0 0) 0 [] :=
  ⟨by simp, .inr ⟨_, 0, #[], rfl, hb, Blk.alloc_new w #[] e, Nat.le_refl _, Nat.zero_le _, by simp, by simp⟩⟩
theorem run_min6 {P : Program} {a : Act} {o : Oper} {w : World} {n : Nat} {x : Operand} (ho : o.op = .call { callee := .builtin .min, args := #[x, .const (.int .i64 6)], argTypes := #[3, 3] }) (hx : a.eval x = .int .i64 (n : Int)) :
    (execOp a.eval o).run P w = .ok (.value (.int .i64 ((min n 6 : Nat) : Int))) w := by
  have hk : a.eval (.const (.int .i64 6)) = .int .i64 6 := rfl
  unfold execOp
  simp only [ho, resolve, invoke, builtin, Sem.run_bind, Sem.run_pure, Result.andThen_ok, List.map_toArray, List.map_cons, List.map_nil, hx, hk]
  have e : (if (6 : Int) < (n : Int) then (6 : Int) else (n : Int)) = ((min n 6 : Nat) : Int) := by split <;> omega
  simp [Builtin.min_, Builtin.min2, Result.andThen, e]
theorem run_slice_6 {P : Program} {t e : TypeId} {size : Nat} (ht : P.underlying t = some (.slice e)) (hs : (P.info? e).map (·.size) = some size) {ao : Option Addr} {n cap i : Nat} (h0 : ao = none → cap = 0) (hn : n ≤ cap) (h1 : i ≤ cap) (w : World) :
    (Instr.slice t (.slice ao n cap) none (some (.int .i64 (i : Int))) none).run P w = .ok (.slice ao i cap) w := by
  obtain ⟨i', hi', hz⟩ := Option.map_eq_some_iff.1 hs
  have e2 := fun code w => bound_in (P := P) (k := .i64) (x := (i : Int)) (z := i) (y := cap) (code := code) (w := w) rfl h1
  cases ao with
  | none =>
    have := h0 rfl
    subst this
    obtain rfl : i = 0 := by omega
    have e3 := fun code w => bound_in (P := P) (k := .i64) (x := 0) (z := 0) (y := 0) (code := code) (w := w) rfl (Nat.le_refl 0)
    clear e2
    simp [e3, Instr.slice, Instr.sliceBounds, run_underlying ht, sizeOf, typeInfo, hi', hz]
  | some a =>
    simp [Instr.slice, Instr.sliceBounds, run_underlying ht, e2, sizeOf, typeInfo, hi', hz, Addr.add]
/-- The box holds what is written. -/
theorem box_set {W : World} {b : Nat} {cs : Array Value} {t : TypeId} (h : Blk W b cs t) (i : Nat) (v : Value) : Blk (W.setCell ⟨b, i, none⟩ v) b (cs.setIfInBounds i v) t := by rw [h.setCell]; exact h.setRow _
theorem info43 : (Try.prog.info? 43).map (fun i => (i.zero, i.size, i.bytes)) = some (some (.agg #[.int .u16 0, .int .u32 0]), 2, 8) := by kernel_rfl
theorem info41 : (Try.prog.info? 41).map (fun i => (i.zero, i.size, i.bytes)) = some (some (.int .u16 0), 1, 2) := by kernel_rfl
theorem info36 : (Try.prog.info? 36).map (fun i => (i.zero, i.size, i.bytes)) = some (some (.agg (pcA noR)), 5, 64) := by kernel_rfl
theorem size33 : (Try.prog.info? 33).map (·.size) = some 1 := by kernel_rfl
theorem size34 : (Try.prog.info? 34).map (·.size) = some 1 := by kernel_rfl
theorem fill36 (x : Rec) : Instr.fill (fun i => some (i * 5, 5)) ((Array.range (1 * 5)).map ((Value.agg (pcA noR)).cells[· % (Value.agg (pcA noR)).cells.size]!)) [(0, .agg (pcA x))] = some (pcA x) := by kernel_rfl
set_option maxRecDepth 100000 in
set_option maxHeartbeats 16000000 in
theorem few_any {w : World} {ao : Option Addr} {cap : Nat} {R : List Rec} (h : AAt w ao R) (hcap : R.length ≤ cap) (hmx : R.length ≤ maxLen) :
    Calls Try.prog 10 #[.slice ao R.length cap] w fun e w' => ∃ v R', e = .returned v ∧ OwnH w.heap.size w' v R' ∧ his R' = fewL (his R) ∧ (∀ x ∈ R', ∀ b, vblk x.2.1 = some b ∨ vblk x.2.2 = some b → w.heap.size ≤ b) ∧ Below w.heap.size w w' := by
  have hz36 := zero36.1
  have hH := Lib.hid h
  have h0 : Hid (Below w.heap.size w w) := Below.refl _ _
  clear h
  go_enter Try.func10, Try.ntmps10
  go_wp2_with fail
  go_loopw [4, 3] (fun i o wr => ∃ (k : Nat) (R' : List Rec), i = .int .i64 k ∧ k ≤ R.length ∧ k ≤ 9 ∧ OwnH w.heap.size wr o R' ∧ Hid (his R' = ((his R).take k).map fewP) ∧ Hid (∀ x ∈ R', ∀ b, vblk x.2.1 = some b ∨ vblk x.2.2 = some b → w.heap.size ≤ b) ∧ Below w.heap.size w wr) (fun i _ _ => 9 - (intOf i).toNat)
  case atStart => exact ⟨0, [], rfl, Nat.zero_le _, Nat.zero_le _, OwnH.nil _ _, rfl, fun x hx => (by cases hx), h0.out⟩
  case round =>
    obtain ⟨k, R', rfl, hk, hk9, hO, hT, hN, hS⟩ := hrel
    by_cases hlt : k < R.length
    · have hlt' : decide ((k : Int) < (R.length : Int)) = true := by simp; omega
      by_cases hl9 : k < 9
      · have hl9' : decide ((k : Int) < 9) = true := by simp; omega
        have hlt2 : (k : Int) < (R.length : Int) := by omega
        go_upto_region 3 with (fail)
        refine no_implicit_lambda% (wp_region_lit ?_)
        iterate 2
          refine no_implicit_lambda% (wpl_val ?_ rfl ?_ ?_)
          rotate_left
          · (go_simp; (try with_reducible rfl))
          (try simp only [Act.put, Z1, Z2, Z3, Z4, Z5, Z6])
        refine no_implicit_lambda% (wpl_val ?_ rfl ?_ ?_)
        rotate_left
        · (go_simp; (try with_reducible rfl))
        (try simp only [Act.put, Z1, Z2, Z3, Z4, Z5, Z6])
        iterate 5
          refine no_implicit_lambda% (wpl_val ?_ rfl ?_ ?_)
          rotate_left
          · (go_simp; (try with_reducible rfl))
          (try simp only [Act.put, Z1, Z2, Z3, Z4, Z5, Z6])
        refine no_implicit_lambda% (wpList_nil ?_)
        clear hlt' hl9'
        obtain ⟨x, hx⟩ : ∃ x, R[k]? = some x := ⟨_, List.getElem?_eq_getElem hlt⟩
        obtain ⟨b, o', rfl, hbl, hr⟩ := (hH.out.below hS).row k x hx
        replace hr := Lib.hid hr
        have hxh := Lib.hid (his_get hx)
        obtain ⟨hrd, hwt, hok⟩ := hH.out.sub x (List.mem_of_getElem? hx)
        clear hx
        obtain ⟨⟨s, c, d, rs, ws⟩, rv, wv⟩ := x
        obtain ⟨aor, capr, e1, hcr, hrr⟩ := hrd
        obtain ⟨aow, capw, e2, hcw, hrw⟩ := hwt
        dsimp only at e1 e2 hcr hcw hrr hrw
        subst e1 e2
        have hone : Hid ((pcA (⟨s, c, d, rs, ws⟩, .slice aor rs.length capr, .slice aow ws.length capw)).all (·.oneCell') = true) := by simp [Hid, pcA, Value.oneCell']
        go_upto_region 5 with (fail)
        refine no_implicit_lambda% (wp_region_lit ?_)
        iterate 3
          refine no_implicit_lambda% (wpl_val ?_ rfl ?_ ?_)
          rotate_left
          · (go_simp; (try with_reducible rfl))
          (try simp only [Act.put, Z1, Z2, Z3, Z4, Z5, Z6])
        refine wpList_load_mid rfl 36 _ rfl b (o' + k * 5) rfl (pcL (⟨s, c, d, rs, ws⟩, .slice aor rs.length capr, .slice aow ws.length capw)) _ hr.out Try.underlying36 rfl (size36' _) ?_
        (try simp only [Act.put, Z1, Z2, Z3, Z4, Z5, Z6])
        refine wpl_alloc 36 (pcA noR) rfl rfl hz36 ?_
        (try simp only [Act.put, Z1, Z2, Z3, Z4, Z5, Z6])
        refine wpList_store_fr rfl 36 _ _ rfl wr.heap.size (pcA (⟨s, c, d, rs, ws⟩, .slice aor rs.length capr, .slice aow ws.length capw)) rfl rfl 36 _ (Blk.alloc_new _ _ _) (size36 _) rfl hone.out ?_
        intro W hBx hF9
        (try simp only [Act.put, Z1, Z2, Z3, Z4, Z5, Z6])
        refine no_implicit_lambda% (wpList_nil ?_)
        have hWB := box_below hF9
        have hS0 := Lib.hid hS
        have hwl := hS.size
        have hbl2 := hBx.lt
        generalize hbx : wr.heap.size = bx at *
        replace hbx := Lib.hid hbx
        clear hF9 hr hbl hone hS
        replace hrr := Lib.hid hrr
        replace hrw := Lib.hid hrw
        replace hcr := Lib.hid hcr
        replace hcw := Lib.hid hcw
        obtain ⟨ie, hie, ze, se, ye⟩ := info_parts info43
        go_upto_region 6 with (fail)
        refine no_implicit_lambda% (wp_region_lit ?_)
        refine wpl_run _ _ rfl (run_build0 rfl Try.underlying33 hie) ?_
        have hown0 := own0 W w.heap.size 43 2 (by omega)
        have hW1 : Below bx wr (W.alloc (.cells #[] 43)) := hWB.alloc (by omega) _
        have hB1 := hBx.alloc (.cells #[] 43)
        have hs1 : W.heap.size < (W.alloc (.cells #[] 43)).heap.size := by simp
        have hA1 : Below W.heap.size W (W.alloc (.cells #[] 43)) := (Below.refl _ _).alloc (Nat.le_refl _) _
        (try simp only [Act.put, Z1, Z2, Z3, Z4, Z5, Z6])
        clear hWB hBx
        generalize W.alloc (.cells #[] 43) = W1 at *
        generalize hg1 : W.heap.size = g1 at *
        replace hg1 := Lib.hid hg1
        refine no_implicit_lambda% (wpl_val ?_ rfl ?_ ?_)
        rotate_left
        · (go_simp; (try with_reducible rfl))
        (try simp only [Act.put, Z1, Z2, Z3, Z4, Z5, Z6])
        refine no_implicit_lambda% (wpl_val ?_ rfl ?_ ?_)
        rotate_left
        · (have c0 := (show W1.cell? ⟨bx, 3, none⟩ = some (.slice aor rs.length capr) by rw [hB1.cell]; rfl); go_simp; (try with_reducible rfl))
        (try simp only [Act.put, Z1, Z2, Z3, Z4, Z5, Z6])
        refine no_implicit_lambda% (wpl_val ?_ rfl ?_ ?_)
        rotate_left
        · (go_simp; (try with_reducible rfl))
        (try simp only [Act.put, Z1, Z2, Z3, Z4, Z5, Z6])
        refine no_implicit_lambda% (wpl_val ?_ rfl ?_ ?_)
        rotate_left
        · (have c0 := (show W1.cell? ⟨bx, 3, none⟩ = some (.slice aor rs.length capr) by rw [hB1.cell]; rfl); go_simp; (try with_reducible rfl))
        (try simp only [Act.put, Z1, Z2, Z3, Z4, Z5, Z6])
        refine no_implicit_lambda% (wpl_val ?_ rfl ?_ ?_)
        rotate_left
        · (go_simp; (try with_reducible rfl))
        (try simp only [Act.put, Z1, Z2, Z3, Z4, Z5, Z6])
        refine wpl_val (.int .i64 ((min rs.length 6 : Nat) : Int)) rfl (run_min6 rfl rfl) ?_
        (try simp only [Act.put, Z1, Z2, Z3, Z4, Z5, Z6])
        have hsl := run_slice_6 (P := Try.prog) Try.underlying33 (size := 2) (by kernel_rfl) hcr.out.2 hcr.out.1 (i := min rs.length 6) (by have := hcr.out.1; omega)
        have hsrc := Lib.hid (RowAt.src (f := seC) (sz := 2) (fun _ => rfl) ((hrr.out.below (hS0.out.trans (hW1.mono hwl))).take 6) (m := min rs.length 6) (cap := capr) (by rw [List.length_take]; omega) hcr.out.2 (by have := hcr.out.1; omega) (by decide))
        have hml : Hid (min rs.length 6 = (rs.take 6).length ∧ min rs.length 6 ≤ 6) := by unfold Hid; rw [List.length_take]; omega
        generalize min rs.length 6 = m at *
        have hm6 := hml.out.2
        refine no_implicit_lambda% (wpl_val ?_ rfl ?_ ?_)
        rotate_left
        · (go_simp; (try with_reducible rfl))
        (try simp only [Act.put, Z1, Z2, Z3, Z4, Z5, Z6])
        clear hsl
        refine wpl_law rfl (wp_append_src _ _ 33 rfl w.heap.size 43 ie _ 2 8 Try.underlying33 hie ze se ye rfl (by decide) (.slice (some ⟨g1, 0, none⟩) 0 0) 0 [] rfl hown0 (.slice aor m capr) m ((rs.take 6).flatMap seC) rfl hsrc.out (by rw [flat_length (sz := 2) (fun _ => rfl), hml.out.1]) (flat_one fun x _ u hu => by simp [seC] at hu; (rcases hu with rfl | rfl <;> rfl)) ?_ ?_ ?_ ?_)
        · unfold maxLen; omega
        · omega
        · omega
        intro v3 W3 ownv3 grV _ hlocV
        replace ownv3 : (W3).ownsRow w.heap.size 43 2 v3 (rs.take 6).length ((rs.take 6).flatMap seC) := by rw [← hml.out.1]; simpa using ownv3
        have hVv3 : ∀ b, v3.ownBlock = some b → bx < b := fun b hb => by
          rcases hlocV with e | e
          · rw [hb] at e; have e9 : b = g1 := Option.some.inj e; omega
          · rw [hb] at e; have e9 := Option.some.inj e; omega
        have hB2 := hB1.fr (Fr.of_grown grV) (fun e => by have e9 : g1 = bx := Option.some.inj e; omega)
        have hW2 : Below bx wr W3 := Fr.below hW1 (Fr.of_grown grV) (Nat.le_of_eq hbx.out.symm) (fun i e => by have e9 : g1 = i := Option.some.inj e; omega)
        have hA2 : Below W.heap.size W W3 := by rw [hg1.out]; exact Fr.below hA1 (Fr.of_grown grV) (Nat.le_of_eq hg1.out.symm) (fun i e => by have e9 : g1 = i := Option.some.inj e; omega)
        clear hsrc hml hm6 hown0 hW1 hB1 grV hlocV hs1 hA1 hg1
        clear W1
        (try simp only [Act.put, Z1, Z2, Z3, Z4, Z5, Z6])
        refine no_implicit_lambda% (wpl_val ?_ rfl ?_ ?_)
        rotate_left
        · (go_simp; (try with_reducible rfl))
        (try simp only [Act.put, Z1, Z2, Z3, Z4, Z5, Z6])
        refine wpl_law rfl (wp_store_one 33 _ _ rfl ⟨bx, 3, none⟩ (.slice aor rs.length capr) v3 rfl rfl size33 (own_one ownv3) (by rw [hB2.cell]; rfl) (hB2.free 3) ?_)
        (try simp only [Act.put, Z1, Z2, Z3, Z4, Z5, Z6])
        refine no_implicit_lambda% (wpList_nil ?_)
        have hBx : Blk (W3.setCell ⟨bx, 3, none⟩ v3) bx #[.int .u32 s, .int .u32 c, .bool d, v3, .slice aow ws.length capw] 36 := box_set hB2 3 v3
        have hF3 : Fr (fun i => i = bx) W3 (W3.setCell ⟨bx, 3, none⟩ v3) := (Fr.refl _ _).setCell _ _ fun _ => rfl
        have hWB : Below bx wr (W3.setCell ⟨bx, 3, none⟩ v3) := Fr.below hW2 hF3 (Nat.le_of_eq hbx.out.symm) fun i e => by omega
        replace ownv3 := own_fr ownv3 hF3 (fun b hb e => by have := hVv3 b hb; omega)
        have hbl2 := hBx.lt
        clear hB2 hW2 hF3 hA2
        clear W
        generalize W3.setCell ⟨bx, 3, none⟩ v3 = W at *
        clear W3
        obtain ⟨ie, hie, ze, se, ye⟩ := info_parts info41
        go_upto_region 7 with (fail)
        refine no_implicit_lambda% (wp_region_lit ?_)
        refine wpl_run _ _ rfl (run_build0 rfl Try.underlying34 hie) ?_
        have hown0 := own0 W w.heap.size 41 1 (by omega)
        have hW1 : Below bx wr (W.alloc (.cells #[] 41)) := hWB.alloc (by omega) _
        have hB1 := hBx.alloc (.cells #[] 41)
        have hs1 : W.heap.size < (W.alloc (.cells #[] 41)).heap.size := by simp
        have hA1 : Below W.heap.size W (W.alloc (.cells #[] 41)) := (Below.refl _ _).alloc (Nat.le_refl _) _
        (try simp only [Act.put, Z1, Z2, Z3, Z4, Z5, Z6])
        clear hWB hBx
        generalize W.alloc (.cells #[] 41) = W1 at *
        generalize hg1 : W.heap.size = g1 at *
        replace hg1 := Lib.hid hg1
        refine no_implicit_lambda% (wpl_val ?_ rfl ?_ ?_)
        rotate_left
        · (go_simp; (try with_reducible rfl))
        (try simp only [Act.put, Z1, Z2, Z3, Z4, Z5, Z6])
        refine no_implicit_lambda% (wpl_val ?_ rfl ?_ ?_)
        rotate_left
        · (have c0 := (show W1.cell? ⟨bx, 4, none⟩ = some (.slice aow ws.length capw) by rw [hB1.cell]; rfl); go_simp; (try with_reducible rfl))
        (try simp only [Act.put, Z1, Z2, Z3, Z4, Z5, Z6])
        refine no_implicit_lambda% (wpl_val ?_ rfl ?_ ?_)
        rotate_left
        · (go_simp; (try with_reducible rfl))
        (try simp only [Act.put, Z1, Z2, Z3, Z4, Z5, Z6])
        refine no_implicit_lambda% (wpl_val ?_ rfl ?_ ?_)
        rotate_left
        · (have c0 := (show W1.cell? ⟨bx, 4, none⟩ = some (.slice aow ws.length capw) by rw [hB1.cell]; rfl); go_simp; (try with_reducible rfl))
        (try simp only [Act.put, Z1, Z2, Z3, Z4, Z5, Z6])
        refine no_implicit_lambda% (wpl_val ?_ rfl ?_ ?_)
        rotate_left
        · (go_simp; (try with_reducible rfl))
        (try simp only [Act.put, Z1, Z2, Z3, Z4, Z5, Z6])
        refine wpl_val (.int .i64 ((min ws.length 6 : Nat) : Int)) rfl (run_min6 rfl rfl) ?_
        (try simp only [Act.put, Z1, Z2, Z3, Z4, Z5, Z6])
        have hsl := run_slice_6 (P := Try.prog) Try.underlying34 (size := 1) (by kernel_rfl) hcw.out.2 hcw.out.1 (i := min ws.length 6) (by have := hcw.out.1; omega)
        have hsrc := Lib.hid (RowAt.src (f := pgC) (sz := 1) (fun _ => rfl) ((hrw.out.below (hS0.out.trans (hW1.mono hwl))).take 6) (m := min ws.length 6) (cap := capw) (by rw [List.length_take]; omega) hcw.out.2 (by have := hcw.out.1; omega) (by decide))
        have hml : Hid (min ws.length 6 = (ws.take 6).length ∧ min ws.length 6 ≤ 6) := by unfold Hid; rw [List.length_take]; omega
        generalize min ws.length 6 = m at *
        have hm6 := hml.out.2
        refine no_implicit_lambda% (wpl_val ?_ rfl ?_ ?_)
        rotate_left
        · (go_simp; (try with_reducible rfl))
        (try simp only [Act.put, Z1, Z2, Z3, Z4, Z5, Z6])
        clear hsl
        refine wpl_law rfl (wp_append_src _ _ 34 rfl w.heap.size 41 ie _ 1 2 Try.underlying34 hie ze se ye rfl (by decide) (.slice (some ⟨g1, 0, none⟩) 0 0) 0 [] rfl hown0 (.slice aow m capw) m ((ws.take 6).flatMap pgC) rfl hsrc.out (by rw [flat_length (sz := 1) (fun _ => rfl), hml.out.1]) (flat_one fun x _ u hu => by simp [pgC] at hu; (subst hu; rfl)) ?_ ?_ ?_ ?_)
        · unfold maxLen; omega
        · omega
        · omega
        intro v5 W3 ownv5 grV _ hlocV
        replace ownv5 : (W3).ownsRow w.heap.size 41 1 v5 (ws.take 6).length ((ws.take 6).flatMap pgC) := by rw [← hml.out.1]; simpa using ownv5
        have hVv5 : ∀ b, v5.ownBlock = some b → bx < b := fun b hb => by
          rcases hlocV with e | e
          · rw [hb] at e; have e9 : b = g1 := Option.some.inj e; omega
          · rw [hb] at e; have e9 := Option.some.inj e; omega
        have hB2 := hB1.fr (Fr.of_grown grV) (fun e => by have e9 : g1 = bx := Option.some.inj e; omega)
        have hW2 : Below bx wr W3 := Fr.below hW1 (Fr.of_grown grV) (Nat.le_of_eq hbx.out.symm) (fun i e => by have e9 : g1 = i := Option.some.inj e; omega)
        have hA2 : Below W.heap.size W W3 := by rw [hg1.out]; exact Fr.below hA1 (Fr.of_grown grV) (Nat.le_of_eq hg1.out.symm) (fun i e => by have e9 : g1 = i := Option.some.inj e; omega)
        clear hsrc hml hm6 hown0 hW1 hB1 grV hlocV hs1 hA1 hg1
        clear W1
        (try simp only [Act.put, Z1, Z2, Z3, Z4, Z5, Z6])
        refine no_implicit_lambda% (wpl_val ?_ rfl ?_ ?_)
        rotate_left
        · (go_simp; (try with_reducible rfl))
        (try simp only [Act.put, Z1, Z2, Z3, Z4, Z5, Z6])
        refine wpl_law rfl (wp_store_one 34 _ _ rfl ⟨bx, 4, none⟩ (.slice aow ws.length capw) v5 rfl rfl size34 (own_one ownv5) (by rw [hB2.cell]; rfl) (hB2.free 4) ?_)
        (try simp only [Act.put, Z1, Z2, Z3, Z4, Z5, Z6])
        refine no_implicit_lambda% (wpList_nil ?_)
        have hBx : Blk (W3.setCell ⟨bx, 4, none⟩ v5) bx #[.int .u32 s, .int .u32 c, .bool d, v3, v5] 36 := box_set hB2 4 v5
        have hF3 : Fr (fun i => i = bx) W3 (W3.setCell ⟨bx, 4, none⟩ v5) := (Fr.refl _ _).setCell _ _ fun _ => rfl
        have hWB : Below bx wr (W3.setCell ⟨bx, 4, none⟩ v5) := Fr.below hW2 hF3 (Nat.le_of_eq hbx.out.symm) fun i e => by omega
        replace ownv5 := own_fr ownv5 hF3 (fun b hb e => by have := hVv5 b hb; omega)
        have ownv3' : (W3.setCell ⟨bx, 4, none⟩ v5).ownsRow w.heap.size 43 2 v3 (rs.take 6).length ((rs.take 6).flatMap seC) := own_fr (own_fr ownv3 (Fr.of_below hA2 fun _ => False) (fun _ _ e => e)) hF3 (fun b hb e => by have := hVv3 b hb; omega)
        have hbl2 := hBx.lt
        clear hB2 hW2 hF3 ownv3 hA2
        clear W
        generalize W3.setCell ⟨bx, 4, none⟩ v5 = W at *
        clear W3
        have hsub : SubAt W (fewP ⟨s, c, d, rs, ws⟩, v3, v5) := ⟨own_rowIn (f := seC) (fun _ => rfl) ownv3', own_rowIn (f := pgC) (fun _ => rfl) ownv5, hok.start, hok.commit, fun v hv => hok.reads v (List.mem_of_mem_take hv), fun p hp => hok.writes p (List.mem_of_mem_take hp), by show (rs.take 6).length ≤ 1000; rw [List.length_take]; omega, by show (ws.take 6).length ≤ 1000; rw [List.length_take]; omega⟩
        have hap : ∀ b, vblk ((fewP ⟨s, c, d, rs, ws⟩, v3, v5) : Rec).2.1 = some b ∨ vblk ((fewP ⟨s, c, d, rs, ws⟩, v3, v5) : Rec).2.2 = some b → u3.ownBlock ≠ some b := fun b hb e => by
          have h1 := (hO.own.lt b e).2
          have h2 := hbx.out
          rcases hb with hb | hb
          · have := hVv3 b (own_vblk ownv3' hb); omega
          · have := hVv5 b (own_vblk ownv5 hb); omega
        have hT2 : Hid (his (R' ++ [(fewP ⟨s, c, d, rs, ws⟩, v3, v5)]) = ((his R).take (k + 1)).map fewP) := by
          unfold Hid
          rw [List.take_add_one, hxh.out, his, List.map_append, ← his, hT.out, List.map_append]
          rfl
        have hN2 : Hid (∀ x ∈ R' ++ [(fewP ⟨s, c, d, rs, ws⟩, v3, v5)], ∀ b, vblk x.2.1 = some b ∨ vblk x.2.2 = some b → w.heap.size ≤ b) := fun x hx b hb => by
          rcases List.mem_append.1 hx with hx | hx
          · exact hN.out x hx b hb
          · obtain rfl := List.mem_singleton.1 hx
            rcases hb with hb | hb
            · have := hVv3 b (own_vblk ownv3' hb); omega
            · have := hVv5 b (own_vblk ownv5 hb); omega
        have hRl : R'.length = k := by
          have h1 := congrArg List.length hT.out
          rw [his_length, List.length_map, List.length_take, his_length] at h1
          omega
        obtain ⟨ie, hie, ze, se, ye⟩ := info_parts info36
        go_upto_region 8 with (fail)
        refine no_implicit_lambda% (wp_region_lit ?_)
        refine no_implicit_lambda% (wpl_val ?_ rfl ?_ ?_)
        rotate_left
        · (go_simp; (try with_reducible rfl))
        (try simp only [Act.put, Z1, Z2, Z4, Z5, Z6])
        refine wpl_val (.agg (pcA (fewP ⟨s, c, d, rs, ws⟩, v3, v5))) rfl (run_load_cs rfl rfl hBx Try.underlying36 rfl zero36.2) ?_
        (try simp only [Act.put, Z1, Z2, Z3, Z4, Z5, Z6])
        refine wpl_law rfl (wp_buildSlice 22 36 1 _ rfl (pcA (fewP ⟨s, c, d, rs, ws⟩, v3, v5)) ie _ Try.underlying22 hie ze (by rw [se]; decide) (by rw [se]; decide) ?c1 ?_)
        case c1 => (simp only [se, List.map_toArray, List.map_cons, List.map_nil]; exact fill36 _)
        have hlit : Blk (W.alloc (.cells (pcA (fewP ⟨s, c, d, rs, ws⟩, v3, v5)) 36)) W.heap.size (pcL (fewP ⟨s, c, d, rs, ws⟩, v3, v5)).toArray 36 := Blk.alloc_new _ _ _
        have hW4 : Below bx wr (W.alloc (.cells (pcA (fewP ⟨s, c, d, rs, ws⟩, v3, v5)) 36)) := hWB.alloc (by omega) _
        have hsub4 := hsub.below ((Below.refl _ _).alloc (Nat.le_refl _) (.cells (pcA (fewP ⟨s, c, d, rs, ws⟩, v3, v5)) 36))
        have hone := Lib.hid hsub.one
        (try simp only [Act.put, Z1, Z2, Z3, Z4, Z5, Z6])
        generalize (fewP ⟨s, c, d, rs, ws⟩, v3, v5) = x' at *
        clear hBx ownv3' ownv5 hVv3 hVv5 hsub hW4
        have hWB4 : Below bx wr (W.alloc (.cells (pcA x') 36)) := hWB.alloc (by omega) _
        have hbl4 : bx < (W.alloc (.cells (pcA x') 36)).heap.size := by simp; omega
        clear hWB
        generalize W.alloc (.cells (pcA x') 36) = V at *
        generalize W.heap.size = lb at *
        clear W
        have hO4 := hO.below (by rw [hbx.out]; exact hWB4)
        refine wpl_law rfl (wp_append_src _ _ 22 rfl w.heap.size 36 ie _ 5 64 Try.underlying22 hie ze se ye rfl (by decide) u3 R'.length _ rfl hO4.own _ 1 (pcL x') rfl (src_blk hlit) (pcL_length _) (fun u hu => by have := hone.out; rw [Array.all_eq_true_iff_forall_mem] at this; exact this u (by simpa [pcA, pcL] using hu)) ?_ ?_ ?_ ?_)
        · unfold maxLen; omega
        · omega
        · omega
        intro v7 W7 own7 gr7 _ hloc7
        have hO7 := hO4.push hsub4 hap own7 gr7 hloc7
        have hS7 : Below w.heap.size w W7 := Fr.below (hS0.out.trans (hWB4.mono hwl)) (Fr.of_grown gr7) (Nat.le_refl _) fun i e => (hO4.own.lt i e).1
        clear hN hO hO4 hsub4 hap own7 gr7 hloc7 hlit hone hT hWB4 hxh hrr hrw hok hcr hcw hS0
        (try simp only [Act.put, Z1, Z2, Z3, Z4, Z5, Z6])
        refine no_implicit_lambda% (wpl_val ?_ rfl ?_ ?_)
        rotate_left
        · (go_simp; (try with_reducible rfl))
        (try simp only [Act.put, Z1, Z2, Z3, Z4, Z5, Z6])
        refine no_implicit_lambda% (wpList_nil ?_)
        go_wp2_with fail
        go_roundw
        case rel => exact ⟨k + 1, _, by go_num, by omega, by omega, hO7, hT2, hN2, hS7⟩
        case measure => simp [intOf]; omega
      · obtain rfl : k = 9 := by omega
        have hl9' : decide ((9 : Int) < 9) = false := by simp
        have hlt9 : decide ((9 : Int) < (R.length : Int)) = true := by simp; omega
        go_upto_region 3 with (fail)
        refine no_implicit_lambda% (wp_region_lit ?_)
        iterate 2
          refine no_implicit_lambda% (wpl_val ?_ rfl ?_ ?_)
          rotate_left
          · (go_simp; (try with_reducible rfl))
          (try simp only [Act.put, Z1, Z2, Z3, Z4, Z5, Z6])
        refine no_implicit_lambda% (wpl_val ?_ rfl ?_ ?_)
        rotate_left
        · (go_simp; (try with_reducible rfl))
        (try simp only [Act.put, Z1, Z2, Z3, Z4, Z5, Z6])
        iterate 5
          refine no_implicit_lambda% (wpl_val ?_ rfl ?_ ?_)
          rotate_left
          · (go_simp; (try with_reducible rfl))
          (try simp only [Act.put, Z1, Z2, Z3, Z4, Z5, Z6])
        refine no_implicit_lambda% (wpList_nil ?_)
        go_wp2_with fail
        go_ret
        exact ⟨_, R', rfl, hO, hT.out, hN.out, hS⟩
    · have hlt' : decide ((k : Int) < (R.length : Int)) = false := by simp; omega
      have hT2 : Hid (his R' = fewL (his R)) := by
        unfold Hid fewL
        rw [hT.out, List.take_of_length_le (by rw [his_length]; omega), List.take_of_length_le (by rw [his_length]; omega)]
      clear hT
      go_upto_region 3 with (fail)
      refine no_implicit_lambda% (wp_region_lit ?_)
      iterate 2
        refine no_implicit_lambda% (wpl_val ?_ rfl ?_ ?_)
        rotate_left
        · (go_simp; (try with_reducible rfl))
        (try simp only [Act.put, Z1, Z2, Z3, Z4, Z5, Z6])
      refine no_implicit_lambda% (wpl_val ?_ rfl ?_ ?_)
      rotate_left
      · (go_simp; (try with_reducible rfl))
      (try simp only [Act.put, Z1, Z2, Z3, Z4, Z5, Z6])
      iterate 2
        refine no_implicit_lambda% (wpl_val ?_ rfl ?_ ?_)
        rotate_left
        · (go_simp; (try with_reducible rfl))
        (try simp only [Act.put, Z1, Z2, Z3, Z4, Z5, Z6])
      iterate 2
        refine no_implicit_lambda% (wpl_skip rfl ?_)
        (try simp only [Act.put, Z1, Z2, Z3, Z4, Z5, Z6])
      refine no_implicit_lambda% (wpl_val ?_ rfl ?_ ?_)
      rotate_left
      · (go_simp; (try with_reducible rfl))
      (try simp only [Act.put, Z1, Z2, Z3, Z4, Z5, Z6])
      refine no_implicit_lambda% (wpList_nil ?_)
      go_wp2_with fail
      go_ret
      exact ⟨_, R', rfl, hO, hT2.out, hN.out, hS⟩
end Go.Proofs.Ytnemaolbmocncaa
