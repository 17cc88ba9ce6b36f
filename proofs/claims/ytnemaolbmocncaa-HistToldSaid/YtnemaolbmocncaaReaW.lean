/- The walk of reach. -/
import Derived.Test.YtnemaolbmocncaaReaS
import Derived.Test.YtnemaolbmocncaaReaP
import Derived.Test.YtnemaolbmocncaaRefH3W
namespace Go.Proofs.Ytnemaolbmocncaa
open Go.RowKit
set_option linter.unusedSimpArgs false
set_option linter.unusedVariables false
attribute [local irreducible] wpList
theorem run_mk74 {a : Act} {o : Oper} {w : World} {x : Operand} {n : Nat} (ho : o.op = .makeSlice 74 x x) (hx : a.eval x = .int .i64 (n : Int)) (hn : n ≤ 100000) :
    (execOp a.eval o).run Try.prog w = .ok (.value (.slice (some ⟨w.heap.size, 0, none⟩) n n)) (w.alloc (.cells (rowV n fun _ => .bool false) 4)) := by
  unfold execOp
  simp only [ho, Sem.run_bind, Sem.run_pure, Result.andThen_ok, hx, run_seen n hn]
theorem run_one96 {a : Act} {o : Oper} {w : World} {x : Operand} {n : Nat} (ho : o.op = .buildSlice 96 1 #[(0, x)]) (hx : a.eval x = .int .i64 (n : Int)) :
    (execOp a.eval o).run Try.prog w = .ok (.value (.slice (some ⟨w.heap.size, 0, none⟩) 1 1)) (w.alloc (.cells #[.int .i64 (n : Int)] 3)) := by
  obtain ⟨i, hi0, hi1, hi2, hi3⟩ := info_parts (P := Try.prog) (e := 3) (z := .int .i64 0) (size := 1) (bytes := 8) rfl
  unfold execOp
  simp [ho, hx, Instr.buildSlice, run_underlying Try.underlying96, sizeOf, typeInfo, zeroValue, hi0, hi1, hi2, Instr.fill, newRow, Result.andThen, Value.cells, show Array.range 1 = #[0] by decide]
theorem run_app96 {a : Act} {o : Oper} {w w' : World} {s x : Operand} {v1 v2 v' : Value} (ho : o.op = .call { callee := .builtin .append, args := #[s, x], argTypes := #[96, 96] }) (hty : o.type = 96) (hs : a.eval s = v1) (hx : a.eval x = v2)
    (h : (Builtin.append_ #[96, 96] 96 #[v1, v2]).run Try.prog w = .ok v' w') : (execOp a.eval o).run Try.prog w = .ok (.value v') w' := by
  unfold execOp
  simp only [ho, hty, resolve, invoke, builtin, Sem.run_bind, Sem.run_pure, Result.andThen_ok, List.map_toArray, List.map_cons, List.map_nil, hs, hx, h]
/-- Who comes after whom, in the document's reach. -/
def rrel (R : List Rec) (wide : Bool) (y z : Nat) : Prop := P.dep (his R) y z ∨ (wide = true ∧ P.sta (his R) y z)
theorem rrel_lt {R : List Rec} {wide : Bool} {y z : Nat} (h : rrel R wide y z) : z < R.length := by
  rcases h with h | ⟨_, h⟩
  · simpa [his] using (P.dep_lt h).2
  · simpa [his] using (P.sta_lt h).2
theorem up_set {s : List Bool} {i y f : Nat} (h : y = f ∨ s[y]? = some true) : y = f ∨ (s.set i true)[y]? = some true := by
  refine h.imp_right fun hy => ?_
  by_cases e : i = y
  · subst e
    rw [List.getElem?_set_self (List.getElem?_eq_some_iff.1 hy).1]
  · rw [List.getElem?_set_ne e]; exact hy
theorem one_new (W : World) (i : Nat) : (W.alloc (.cells #[.int .i64 (i : Int)] 3)).cell? ⟨W.heap.size, 0, none⟩ = some (.int .i64 (i : Int)) := by
  have h : (W.alloc (.cells #[.int .i64 (i : Int)] 3)).heap[W.heap.size]? = some (.cells #[.int .i64 (i : Int)] 3 (0, 0)) := by show (W.heap.push _)[W.heap.size]? = _; exact Array.getElem?_push_size
  rw [heap_cell h]; rfl
set_option maxRecDepth 100000 in
set_option maxHeartbeats 16000000 in
theorem reach_any {w : World} {ao : Option Addr} {cap : Nat} {R : List Rec} (h : HAt w ao R) (hR : R.length ≤ 1000) {f : Nat} (hf : f < R.length) (wide : Bool) :
    Calls Try.prog 24 #[.slice ao R.length cap, .int .i64 f, .bool wide] w fun e w' => ∃ g s, e = .returned (.slice (some ⟨g, 0, none⟩) R.length R.length) ∧ w.heap.size ≤ g ∧ SAt w' g s ∧ s.length = R.length ∧ (∀ y, s[y]? = some true ↔ P.Path (rrel R wide) f y) ∧ Below w.heap.size w w' := by
  have hH := Lib.hid h
  have h0 : Hid (Below w.heap.size w w) := Below.refl _ _
  have hms := fun W => run_seen (w := W) R.length (by omega)
  clear h
  go_enter Try.func24, Try.ntmps24
  go_upto_region 1 with (fail)
  refine no_implicit_lambda% (wp_region_lit ?_)
  refine no_implicit_lambda% (wpl_val ?_ rfl ?_ ?_)
  rotate_left
  · (go_simp; (try with_reducible rfl))
  (try simp only [Act.put, Z1, Z2, Z4, Z5, Z6])
  refine no_implicit_lambda% (wpl_val ?_ rfl ?_ ?_)
  rotate_left
  · (go_simp; (try with_reducible rfl))
  (try simp only [Act.put, Z1, Z2, Z3, Z4, Z5, Z6])
  refine wpl_run _ _ rfl (run_mk74 rfl rfl (by omega)) ?_
  (try simp only [Act.put, Z1, Z2, Z3, Z4, Z5, Z6])
  have hA : Hid (SAt (w.alloc (.cells (rowV R.length fun _ => .bool false) 4)) w.heap.size (List.replicate R.length false)) := SAt.alloc w R.length
  have hB1 : Hid (Below w.heap.size w (w.alloc (.cells (rowV R.length fun _ => .bool false) 4))) := (Below.refl _ _).alloc (Nat.le_refl _) _
  have hs1 : (w.alloc (.cells (rowV R.length fun _ => .bool false) 4)).heap.size = w.heap.size + 1 := by simp
  generalize w.alloc (.cells (rowV R.length fun _ => .bool false) 4) = W1 at *
  refine no_implicit_lambda% (wpl_val ?_ rfl ?_ ?_)
  rotate_left
  · (go_simp; (try with_reducible rfl))
  (try simp only [Act.put, Z1, Z2, Z3, Z4, Z5, Z6])
  refine no_implicit_lambda% (wpList_nil ?_)
  go_upto_region 2 with (fail)
  refine no_implicit_lambda% (wp_region_lit ?_)
  refine no_implicit_lambda% (wpl_val ?_ rfl ?_ ?_)
  rotate_left
  · (go_simp; (try with_reducible rfl))
  (try simp only [Act.put, Z1, Z2, Z4, Z5, Z6])
  refine wpl_run _ _ rfl (run_one96 rfl rfl) ?_
  (try simp only [Act.put, Z1, Z2, Z3, Z4, Z5, Z6])
  have hRS : Hid (RS w w.heap.size (List.replicate R.length false) (.slice (some ⟨W1.heap.size, 0, none⟩) 1 1) [f] (W1.alloc (.cells #[.int .i64 (f : Int)] 3))) :=
    ⟨hB1.out.alloc (by omega) _, Nat.le_refl _, hA.out.block ((Fr.refl (fun _ => False) W1).alloc _) id, QAt.start W1 f (by omega)⟩
  generalize W1.alloc (.cells #[.int .i64 (f : Int)] 3) = W2 at *
  generalize Value.slice (some ⟨W1.heap.size, 0, none⟩) 1 1 = v at *
  have hRc : Hid (P.Rch (rrel R wide) R.length f (List.replicate R.length false) [f] f R.length) := P.Rch.start _ _ _
  clear hA hB1 hs1
  clear W1
  refine no_implicit_lambda% (wpl_val ?_ rfl ?_ ?_)
  rotate_left
  · (go_simp; (try with_reducible rfl))
  (try simp only [Act.put, Z1, Z2, Z3, Z4, Z5, Z6])
  refine no_implicit_lambda% (wpList_nil ?_)
  have hne : Hid (P.rst (List.replicate R.length false) [f] ≤ 1001) := by unfold Hid; rw [P.rst_start]; omega
  go_wp2_with fail
  go_loopw [8] (fun l wr => ∃ (s : List Bool) (q : List Nat) (x : Nat), Hid (RS w w.heap.size s l q wr) ∧ Hid (P.Rch (rrel R wide) R.length f s q x R.length) ∧ Hid (P.rst s q ≤ 1001)) (fun l wr => cntF wr w.heap.size + lenV l)
  case atStart => exact ⟨_, _, _, hRS, hRc, hne⟩
  case round =>
   obtain ⟨s, q, x, hS, hC, hN⟩ := hrel
   cases q with
   | nil =>
    obtain ⟨b, off, cap', cur, rfl, _⟩ := hS.out.list
    have hfin := Lib.hid (hC.out.fin fun y z hyz => rrel_lt hyz)
    go_upto_region 3 with (fail)
    refine no_implicit_lambda% (wp_region_lit ?_)
    refine no_implicit_lambda% (wpl_val ?_ rfl ?_ ?_)
    rotate_left
    · (go_simp; (try with_reducible rfl))
    (try simp only [Act.put, Z1, Z2, Z4, Z5, Z6])
    refine no_implicit_lambda% (wpl_val ?_ rfl ?_ ?_)
    rotate_left
    · (go_simp; (try with_reducible rfl))
    (try simp only [Act.put, Z1, Z2, Z3, Z4, Z5, Z6])
    refine no_implicit_lambda% (wpl_val ?_ rfl ?_ ?_)
    rotate_left
    · (go_simp; (try with_reducible rfl))
    (try simp only [Act.put, Z1, Z2, Z3, Z4, Z5, Z6])
    refine no_implicit_lambda% (wpList_nil ?_)
    go_wp2_with fail
    go_ret
    exact ⟨w.heap.size, s, rfl, Nat.le_refl _, hS.out.seen, hC.out.len, hfin.out, hS.out.below⟩
   | cons y q =>
    obtain ⟨b, off, cap', rfl, hb, hy⟩ := hS.out.list.head
    have d0 : decide ((0 : Int) < ((q.length + 1 : Nat) : Int)) = true := by simp
    have d1 : (0 : Int) < ((q.length + 1 : Nat) : Int) := by omega
    go_upto_region 3 with (fail)
    refine no_implicit_lambda% (wp_region_lit ?_)
    refine no_implicit_lambda% (wpl_val ?_ rfl ?_ ?_)
    rotate_left
    · (go_simp; (try with_reducible rfl))
    (try simp only [Act.put, Z1, Z2, Z4, Z5, Z6])
    refine no_implicit_lambda% (wpl_val ?_ rfl ?_ ?_)
    rotate_left
    · (go_simp; (try with_reducible rfl))
    (try simp only [Act.put, Z1, Z2, Z3, Z4, Z5, Z6])
    refine no_implicit_lambda% (wpl_val ?_ rfl ?_ ?_)
    rotate_left
    · (go_simp; (try with_reducible rfl))
    (try simp only [Act.put, Z1, Z2, Z3, Z4, Z5, Z6])
    refine no_implicit_lambda% (wpList_nil ?_)
    go_upto_region 4 with (fail)
    refine no_implicit_lambda% (wp_region_lit ?_)
    iterate 2
      refine no_implicit_lambda% (wpl_val ?_ rfl ?_ ?_)
      rotate_left
      · (go_simp; (try with_reducible rfl))
      (try simp only [Act.put, Z1, Z2, Z3, Z4, Z5, Z6])
    refine no_implicit_lambda% (wpl_val ?_ rfl ?_ ?_)
    rotate_left
    · (have c0 := hy; go_simp; (try with_reducible rfl))
    (try simp only [Act.put, Z1, Z2, Z3, Z4, Z5, Z6])
    refine no_implicit_lambda% (wpl_val ?_ rfl ?_ ?_)
    rotate_left
    · (go_simp; (try with_reducible rfl))
    (try simp only [Act.put, Z1, Z2, Z3, Z4, Z5, Z6])
    refine no_implicit_lambda% (wpList_nil ?_)
    clear hy d0 d1
    have hyR : y < R.length := hC.out.pop.2.elim (fun e => e ▸ hf) fun e => hC.out.len ▸ (List.getElem?_eq_some_iff.1 e).1
    have hC1 : Hid (P.Rch (rrel R wide) R.length f s q y 0) := hC.out.pop.1
    have hX : Hid (y = f ∨ s[y]? = some true) := hC.out.pop.2
    obtain ⟨m, hm0⟩ : ∃ m, m = P.rst s q + 1 := ⟨_, rfl⟩
    have hm : Hid (m ≤ 1001) := by have := hN.out; rw [P.rst_pop] at this; unfold Hid; omega
    have hmc : Hid (cntF wr w.heap.size + lenV (.slice (some ⟨b, off, none⟩) (q.length + 1) cap') = m) := by
      unfold Hid
      rw [hS.out.seen.cnt, hm0]
      show s.count false + (q.length + 1) = P.rst s q + 1
      unfold P.rst; omega
    have hN1 : Hid (P.rst s q + 1 ≤ m) := Nat.le_of_eq hm0.symm
    obtain ⟨v1, hv1, hQ1, _⟩ := hS.out.list.pop
    have hS1 : Hid (RS w w.heap.size s v1 q wr) := ⟨hS.out.below, hS.out.ge, hS.out.seen, hQ1⟩
    clear hC hN hS hQ1 hm0
    go_upto_region 5 with (fail)
    refine no_implicit_lambda% (wp_region_lit ?_)
    iterate 3
      refine no_implicit_lambda% (wpl_val ?_ rfl ?_ ?_)
      rotate_left
      · (go_simp; (try with_reducible rfl))
      (try simp only [Act.put, Z1, Z2, Z3, Z4, Z5, Z6])
    refine no_implicit_lambda% (wpList_nil ?_)
    clear hv1
    go_upto_region 6 with (fail)
    refine no_implicit_lambda% (wp_region_lit ?_)
    refine no_implicit_lambda% (wpl_val ?_ rfl ?_ ?_)
    rotate_left
    · (go_simp; (try with_reducible rfl))
    (try simp only [Act.put, Z1, Z2, Z4, Z5, Z6])
    refine no_implicit_lambda% (wpl_val ?_ rfl ?_ ?_)
    rotate_left
    · (go_simp; (try with_reducible rfl))
    (try simp only [Act.put, Z1, Z2, Z3, Z4, Z5, Z6])
    refine no_implicit_lambda% (wpl_val ?_ rfl ?_ ?_)
    rotate_left
    · (go_simp; (try with_reducible rfl))
    (try simp only [Act.put, Z1, Z2, Z3, Z4, Z5, Z6])
    refine no_implicit_lambda% (wpList_nil ?_)
    go_wp2_with fail
    go_loopw [26, 8] (fun k l wq => ∃ (i : Nat) (s1 : List Bool) (q1 : List Nat), k = .int .i64 i ∧ i ≤ R.length ∧ Hid (RS w w.heap.size s1 l q1 wq) ∧ Hid (P.Rch (rrel R wide) R.length f s1 q1 y i) ∧ Hid (y = f ∨ s1[y]? = some true) ∧ Hid (P.rst s1 q1 + 1 ≤ m)) (fun k _ _ => R.length - (intOf k).toNat)
    case atStart => exact ⟨0, s, q, rfl, Nat.zero_le _, hS1, hC1, hX, hN1⟩
    case round =>
      clear hS1 hC1 hX hN1 hRS hRc hne
      obtain ⟨i, s1, q1, rfl, hi, hS, hC, hX, hN1⟩ := hrel
      by_cases hlm : i < R.length
      · have hlm' : (i : Int) < (R.length : Int) := by omega
        obtain ⟨c, hsi⟩ : ∃ c, s1[i]? = some c := ⟨_, List.getElem?_eq_getElem (by rw [hC.out.len]; exact hlm)⟩
        have hcs := hS.out.seen.get hsi
        have hfs := heap_free hS.out.seen i
        replace hsi := Lib.hid hsi
        cases c with
        | true =>
          clear hfs
          go_upto_region 9 with (fail)
          refine no_implicit_lambda% (wp_region_lit ?_)
          iterate 3
            refine no_implicit_lambda% (wpl_val ?_ rfl ?_ ?_)
            rotate_left
            · (go_simp; (try with_reducible rfl))
            (try simp only [Act.put, Z1, Z2, Z3, Z4, Z5, Z6])
          refine no_implicit_lambda% (wpl_val ?_ rfl ?_ ?_)
          rotate_left
          · (have c0 := hcs; go_simp; (try with_reducible rfl))
          (try simp only [Act.put, Z1, Z2, Z3, Z4, Z5, Z6])
          iterate 2
            refine no_implicit_lambda% (wpl_val ?_ rfl ?_ ?_)
            rotate_left
            · (go_simp; (try with_reducible rfl))
            (try simp only [Act.put, Z1, Z2, Z3, Z4, Z5, Z6])
          iterate 13
            refine no_implicit_lambda% (wpl_skip rfl ?_)
            (try simp only [Act.put, Z1, Z2, Z3, Z4, Z5, Z6])
          refine no_implicit_lambda% (wpl_val ?_ rfl ?_ ?_)
          rotate_left
          · (go_simp; (try with_reducible rfl))
          (try simp only [Act.put, Z1, Z2, Z3, Z4, Z5, Z6])
          refine no_implicit_lambda% (wpList_nil ?_)
          clear hcs
          have hC6 := Lib.hid (hC.out.miss (fun _ => hsi.out))
          clear hC
          go_wp2_with fail
          go_roundw
          case rel => exact ⟨i + 1, s1, q1, by go_num, by omega, hS, hC6, hX, hN1⟩
          case measure => simp [intOf]; omega
        | false =>
          have hdp := depends_any (cap := cap) (hH.out.below hS.out.below) hR hyR hlm
          go_upto_region 9 with (fail)
          refine no_implicit_lambda% (wp_region_lit ?_)
          iterate 3
            refine no_implicit_lambda% (wpl_val ?_ rfl ?_ ?_)
            rotate_left
            · (go_simp; (try with_reducible rfl))
            (try simp only [Act.put, Z1, Z2, Z3, Z4, Z5, Z6])
          refine no_implicit_lambda% (wpl_val ?_ rfl ?_ ?_)
          rotate_left
          · (have c0 := hcs; go_simp; (try with_reducible rfl))
          (try simp only [Act.put, Z1, Z2, Z3, Z4, Z5, Z6])
          iterate 5
            refine no_implicit_lambda% (wpl_val ?_ rfl ?_ ?_)
            rotate_left
            · (go_simp; (try with_reducible rfl))
            (try simp only [Act.put, Z1, Z2, Z3, Z4, Z5, Z6])
          refine wpl_call _ _ rfl (by go_simp) _ hdp ?_
          rintro e w5 ⟨c, rfl, hcd, hb5⟩
          refine ⟨_, rfl, ?_⟩
          clear hdp hcs hfs
          replace hS := Lib.hid (hS.out.call hb5)
          clear hb5
          (try simp only [Act.put, Z1, Z2, Z3, Z4, Z5, Z6])
          cases c with
          | true =>
            have hR6 : Hid (rrel R wide y i) := .inl (hcd.1 rfl)
            have hcs := hS.out.seen.get hsi.out
            have hfs := heap_free hS.out.seen i
            clear hcd
            refine no_implicit_lambda% (wpl_val ?_ rfl ?_ ?_)
            rotate_left
            · (go_simp; (try with_reducible rfl))
            (try simp only [Act.put, Z1, Z2, Z3, Z4, Z5, Z6])
            iterate 7
              refine no_implicit_lambda% (wpl_skip rfl ?_)
              (try simp only [Act.put, Z1, Z2, Z3, Z4, Z5, Z6])
            iterate 2
              refine no_implicit_lambda% (wpl_val ?_ rfl ?_ ?_)
              rotate_left
              · (go_simp; (try with_reducible rfl))
              (try simp only [Act.put, Z1, Z2, Z3, Z4, Z5, Z6])
            refine no_implicit_lambda% (wpList_nil ?_)
            have hC6 := Lib.hid (hC.out.hit hX.out hlm hR6.out)
            have hN6 : Hid (P.rst (s1.set i true) (q1 ++ [i]) + 1 ≤ m) := by unfold Hid; rw [P.rst_hit hsi.out]; exact hN1.out
            have hX6 : Hid (y = f ∨ (s1.set i true)[y]? = some true) := up_set hX.out
            have hq6 : q1.length + 1 ≤ 100000 := by have h1 := hN1.out; have h2 := hm.out; unfold P.rst at h1; omega
            clear hC hN1 hX hR6 hsi
            replace hS := Lib.hid (hS.out.put i)
            go_upto_region 10 with (fail)
            refine no_implicit_lambda% (wp_region_lit ?_)
            iterate 3
              refine no_implicit_lambda% (wpl_val ?_ rfl ?_ ?_)
              rotate_left
              · (go_simp; (try with_reducible rfl))
              (try simp only [Act.put, Z1, Z2, Z3, Z4, Z5, Z6])
            refine wpl_law rfl (wp_store_one 4 _ _ rfl ⟨w.heap.size, i, none⟩ (.bool false) (.bool true) rfl rfl (by kernel_rfl) rfl hcs hfs ?_)
            clear hcs hfs
            (try simp only [Act.put, Z1, Z2, Z3, Z4, Z5, Z6])
            refine no_implicit_lambda% (wpList_nil ?_)
            generalize World.setCell _ _ _ = V1 at *
            go_upto_region 11 with (fail)
            refine no_implicit_lambda% (wp_region_lit ?_)
            iterate 2
              refine no_implicit_lambda% (wpl_val ?_ rfl ?_ ?_)
              rotate_left
              · (go_simp; (try with_reducible rfl))
              (try simp only [Act.put, Z1, Z2, Z3, Z4, Z5, Z6])
            refine wpl_run _ _ rfl (run_one96 rfl rfl) ?_
            (try simp only [Act.put, Z1, Z2, Z3, Z4, Z5, Z6])
            replace hS := hS.out.alloc (.cells #[.int .i64 (i : Int)] 3)
            have hpu := hS.push hq6 ⟨V1.heap.size, 0, none⟩ 1 i (one_new V1 i) rfl
            clear hS
            obtain ⟨v6, w6, hrun, hS⟩ := hpu
            refine wpl_run v6 w6 rfl (run_app96 rfl rfl rfl rfl hrun) ?_
            (try simp only [Act.put, Z1, Z2, Z3, Z4, Z5, Z6])
            clear hrun
            refine no_implicit_lambda% (wpl_val ?_ rfl ?_ ?_)
            rotate_left
            · (go_simp; (try with_reducible rfl))
            (try simp only [Act.put, Z1, Z2, Z3, Z4, Z5, Z6])
            refine no_implicit_lambda% (wpList_nil ?_)
            replace hS := Lib.hid hS
            go_wp2_with fail
            go_roundw
            case rel => exact ⟨i + 1, s1.set i true, q1 ++ [i], by go_num, by omega, hS, hC6, hX6, hN6⟩
            case measure => simp [intOf]; omega
          | false =>
            have hnd : Hid (¬ P.dep (his R) y i) := fun e => by have := hcd.2 e; cases this
            clear hcd
            cases hwd : wide with
            | false =>
              subst hwd
              have hno : Hid (¬ rrel R false y i) := fun e => by
                rcases e with e | e
                · exact hnd.out e
                · cases e.1
              clear hnd
              iterate 3
                refine no_implicit_lambda% (wpl_val ?_ rfl ?_ ?_)
                rotate_left
                · (go_simp; (try with_reducible rfl))
                (try simp only [Act.put, Z1, Z2, Z3, Z4, Z5, Z6])
              iterate 4
                refine no_implicit_lambda% (wpl_skip rfl ?_)
                (try simp only [Act.put, Z1, Z2, Z3, Z4, Z5, Z6])
              iterate 3
                refine no_implicit_lambda% (wpl_val ?_ rfl ?_ ?_)
                rotate_left
                · (go_simp; (try with_reducible rfl))
                (try simp only [Act.put, Z1, Z2, Z3, Z4, Z5, Z6])
              refine no_implicit_lambda% (wpList_nil ?_)
              have hC6 := Lib.hid (hC.out.miss (fun e => absurd e hno.out))
              clear hC
              go_wp2_with fail
              go_roundw
              case rel => exact ⟨i + 1, s1, q1, by go_num, by omega, hS, hC6, hX, hN1⟩
              case measure => simp [intOf]; omega
            | true =>
              subst hwd
              have hah := ahead_any (cap := cap) (hH.out.below hS.out.below) hR hyR hlm
              iterate 6
                refine no_implicit_lambda% (wpl_val ?_ rfl ?_ ?_)
                rotate_left
                · (go_simp; (try with_reducible rfl))
                (try simp only [Act.put, Z1, Z2, Z3, Z4, Z5, Z6])
              refine wpl_call _ _ rfl (by go_simp) _ hah ?_
              rintro e w6 ⟨c, rfl, hca, hb6⟩
              refine ⟨_, rfl, ?_⟩
              clear hah
              replace hS := Lib.hid (hS.out.call hb6)
              clear hb6
              (try simp only [Act.put, Z1, Z2, Z3, Z4, Z5, Z6])
              cases c with
              | true =>
                have hR6 : Hid (rrel R true y i) := .inr ⟨rfl, hca.1 rfl⟩
                have hcs := hS.out.seen.get hsi.out
                have hfs := heap_free hS.out.seen i
                clear hca hnd
                iterate 3
                  refine no_implicit_lambda% (wpl_val ?_ rfl ?_ ?_)
                  rotate_left
                  · (go_simp; (try with_reducible rfl))
                  (try simp only [Act.put, Z1, Z2, Z3, Z4, Z5, Z6])
                refine no_implicit_lambda% (wpList_nil ?_)
                have hC6 := Lib.hid (hC.out.hit hX.out hlm hR6.out)
                have hN6 : Hid (P.rst (s1.set i true) (q1 ++ [i]) + 1 ≤ m) := by unfold Hid; rw [P.rst_hit hsi.out]; exact hN1.out
                have hX6 : Hid (y = f ∨ (s1.set i true)[y]? = some true) := up_set hX.out
                have hq6 : q1.length + 1 ≤ 100000 := by have h1 := hN1.out; have h2 := hm.out; unfold P.rst at h1; omega
                clear hC hN1 hX hR6 hsi
                replace hS := Lib.hid (hS.out.put i)
                go_upto_region 10 with (fail)
                refine no_implicit_lambda% (wp_region_lit ?_)
                iterate 3
                  refine no_implicit_lambda% (wpl_val ?_ rfl ?_ ?_)
                  rotate_left
                  · (go_simp; (try with_reducible rfl))
                  (try simp only [Act.put, Z1, Z2, Z3, Z4, Z5, Z6])
                refine wpl_law rfl (wp_store_one 4 _ _ rfl ⟨w.heap.size, i, none⟩ (.bool false) (.bool true) rfl rfl (by kernel_rfl) rfl hcs hfs ?_)
                clear hcs hfs
                (try simp only [Act.put, Z1, Z2, Z3, Z4, Z5, Z6])
                refine no_implicit_lambda% (wpList_nil ?_)
                generalize World.setCell _ _ _ = V1 at *
                go_upto_region 11 with (fail)
                refine no_implicit_lambda% (wp_region_lit ?_)
                iterate 2
                  refine no_implicit_lambda% (wpl_val ?_ rfl ?_ ?_)
                  rotate_left
                  · (go_simp; (try with_reducible rfl))
                  (try simp only [Act.put, Z1, Z2, Z3, Z4, Z5, Z6])
                refine wpl_run _ _ rfl (run_one96 rfl rfl) ?_
                (try simp only [Act.put, Z1, Z2, Z3, Z4, Z5, Z6])
                replace hS := hS.out.alloc (.cells #[.int .i64 (i : Int)] 3)
                have hpu := hS.push hq6 ⟨V1.heap.size, 0, none⟩ 1 i (one_new V1 i) rfl
                clear hS
                obtain ⟨v6, w6, hrun, hS⟩ := hpu
                refine wpl_run v6 w6 rfl (run_app96 rfl rfl rfl rfl hrun) ?_
                (try simp only [Act.put, Z1, Z2, Z3, Z4, Z5, Z6])
                clear hrun
                refine no_implicit_lambda% (wpl_val ?_ rfl ?_ ?_)
                rotate_left
                · (go_simp; (try with_reducible rfl))
                (try simp only [Act.put, Z1, Z2, Z3, Z4, Z5, Z6])
                refine no_implicit_lambda% (wpList_nil ?_)
                replace hS := Lib.hid hS
                go_wp2_with fail
                go_roundw
                case rel => exact ⟨i + 1, s1.set i true, q1 ++ [i], by go_num, by omega, hS, hC6, hX6, hN6⟩
                case measure => simp [intOf]; omega
              | false =>
                have hno : Hid (¬ rrel R true y i) := fun e => by
                  rcases e with e | e
                  · exact hnd.out e
                  · have := hca.2 e.2; cases this
                clear hca hnd
                iterate 3
                  refine no_implicit_lambda% (wpl_val ?_ rfl ?_ ?_)
                  rotate_left
                  · (go_simp; (try with_reducible rfl))
                  (try simp only [Act.put, Z1, Z2, Z3, Z4, Z5, Z6])
                refine no_implicit_lambda% (wpList_nil ?_)
                have hC6 := Lib.hid (hC.out.miss (fun e => absurd e hno.out))
                clear hC
                go_wp2_with fail
                go_roundw
                case rel => exact ⟨i + 1, s1, q1, by go_num, by omega, hS, hC6, hX, hN1⟩
                case measure => simp [intOf]; omega
      · obtain rfl : i = R.length := by omega
        have hlt : Hid (cntF wr w.heap.size + lenV u8 < m) := by
          unfold Hid
          rw [hS.out.seen.cnt, hS.out.list.len]
          exact hN1.out
        have hN3 : Hid (P.rst s1 q1 ≤ 1001) := by have := hN1.out; have := hm.out; unfold Hid; omega
        clear hN1 hX
        go_wp2_with fail
        exact ⟨⟨s1, q1, y, hS, hC, hN3⟩, by rw [hmc.out]; exact hlt.out⟩
end Go.Proofs.Ytnemaolbmocncaa
