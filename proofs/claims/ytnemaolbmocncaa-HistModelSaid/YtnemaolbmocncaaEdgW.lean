/- The walk of edges: who depends on whom. -/
import Derived.Test.YtnemaolbmocncaaEdgP
namespace Go.Proofs.Ytnemaolbmocncaa
open Go.RowKit
set_option linter.unusedSimpArgs false
set_option linter.unusedVariables false
attribute [local irreducible] wpList
theorem run_or {a : Act} {o : Oper} {w : World} {x : Operand} {n m k : Int} (ho : o.op = .binOp .or 5 x (.const (.int .u8 k)) 5) (hx : a.eval x = .int .u8 n) (h : ∀ w, (binOp .or 5 (.int .u8 n) (.int .u8 k)).run Try.prog w = .ok (.int .u8 m) w) :
    (execOp a.eval o).run Try.prog w = .ok (.value (.int .u8 m)) w := by
  unfold execOp
  have hk : a.eval (.const (.int .u8 k)) = .int .u8 k := rfl
  simp [ho, hx, hk, eqGuard, h, Result.andThen]
theorem or1 (a b c d : Bool) (w : World) : (binOp .or 5 (.int .u8 (P.ob a b c d)) (.int .u8 1)).run Try.prog w = .ok (.int .u8 (P.ob true b c d)) w := by cases a <;> cases b <;> cases c <;> cases d <;> kernel_rfl
theorem or2 (a b c d : Bool) (w : World) : (binOp .or 5 (.int .u8 (P.ob a b c d)) (.int .u8 2)).run Try.prog w = .ok (.int .u8 (P.ob a true c d)) w := by cases a <;> cases b <;> cases c <;> cases d <;> kernel_rfl
theorem or4 (a b c d : Bool) (w : World) : (binOp .or 5 (.int .u8 (P.ob a b c d)) (.int .u8 4)).run Try.prog w = .ok (.int .u8 (P.ob a b true d)) w := by cases a <;> cases b <;> cases c <;> cases d <;> kernel_rfl
theorem or8 (a b c d : Bool) (w : World) : (binOp .or 5 (.int .u8 (P.ob a b c d)) (.int .u8 8)).run Try.prog w = .ok (.int .u8 (P.ob a b c true)) w := by cases a <;> cases b <;> cases c <;> cases d <;> kernel_rfl
theorem box_below {w w9 : World} {o : Obj} (h : Fr (fun i => i = w.heap.size) (w.alloc o) w9) : Below w.heap.size w w9 := Fr.below ((Below.refl _ _).alloc (Nat.le_refl _) _) h (Nat.le_refl _) fun i e => by omega
theorem getB_mem {w : World} {rb : Nat} {B : P.Bx} (h : IdxAt w rb B) {v : Int × Int} {i : Nat} : G.get B v = some i ↔ (v, i) ∈ B := ⟨G.get_mem, fun h' => G.get_of_mem h.keys h'⟩
theorem rd_at {w : World} {x : Rec} (h : SubAt w x) {ao : Option Addr} {n cap : Nat} (e : x.2.1 = .slice ao n cap) : RowAt w ao 2 seC x.1.reads := by
  obtain ⟨a, c, e2, _, hr⟩ := h.rd
  rw [e] at e2
  injection e2 with e3
  subst e3; exact hr
theorem wt_at {w : World} {x : Rec} (h : SubAt w x) {ao : Option Addr} {n cap : Nat} (e : x.2.2 = .slice ao n cap) : RowAt w ao 1 pgC x.1.writes := by
  obtain ⟨a, c, e2, _, hr⟩ := h.wt
  rw [e] at e2
  injection e2 with e3
  subst e3; exact hr
/-- What the first loop hands on. -/
def Ed1 (w0 : World) (g : Nat) (ao : Option Addr) (cap : Nat) (R : List Rec) (rb rd ra it : Nat) (B : P.Bx) (m : Nat) (wr : World) : Prop :=
  ∃ (T : P.Bx) (D : List Ed), T.length = m ∧ IxIt wr it rb B T ∧ GS w0 wr g ao cap R rb rd ra B D [] ∧ it < wr.heap.size ∧ Hid (T.Nodup ∧ P.E1 (his R) B T D)
/-- What the second and the third hand on. -/
def Ed2 (w0 : World) (g : Nat) (ao : Option Addr) (cap : Nat) (R : List Rec) (rb rd ra : Nat) (B : P.Bx) (k m : Nat) (out : Value) (wr : World) : Prop :=
  ∃ (D A : List Ed) (a : Bool), out = .int .u8 (P.ob a false false false) ∧ GS w0 wr g ao cap R rb rd ra B D A ∧ Hid (P.E2 (his R) B k m D A a)
set_option maxRecDepth 100000 in
set_option maxHeartbeats 16000000 in
theorem edges_any {w0 w : World} {g : Nat} {ao : Option Addr} {cap : Nat} {R : List Rec} {rb rd ra : Nat} {B : P.Bx} (h : GS w0 w g ao cap R rb rd ra B [] []) (hR : R.length ≤ 1000) (hbad : ¬ P.bad (his R)) (hB : P.BOk (his R) B) :
    Calls Try.prog 20 #[.pointer (some ⟨g, 0, none⟩)] w fun e w' => ∃ (D A : List Ed) (a : Bool), e = .returned (.int .u8 (P.ob a false false false)) ∧ GS w0 w' g ao cap R rb rd ra B D A ∧
      (∀ e : Ed, e ∈ D ↔ P.dep (his R) e.1 e.2) ∧ (∀ e : Ed, e ∈ A ↔ P.ant (his R) e.1 e.2) ∧ (a = true ↔ P.abo (his R)) := by
  have hz43 := zero43.1
  have hz36 := zero36.1
  replace hbad := Lib.hid hbad
  replace hB := Lib.hid hB
  have hnd : Hid B.Nodup := nodup_of_map h.fb.keys
  have hlt := Lib.hid h.lt
  obtain ⟨W, hrun, hIt, hb1, hsz⟩ := h.fb.range
  have c1 := h.c1
  have hg := h.below hb1
  clear h
  go_enter Try.func20, Try.ntmps20
  go_upto_region 2 with (fail)
  refine no_implicit_lambda% (wp_region_lit ?_)
  iterate 3
    refine no_implicit_lambda% (wpl_val ?_ rfl ?_ ?_)
    rotate_left
    · (go_simp; (try with_reducible rfl))
    (try simp only [Act.put, Z1, Z2, Z3, Z4, Z5, Z6])
  refine no_implicit_lambda% (wpl_val ?_ rfl ?_ ?_)
  rotate_left
  · (have c0 := c1; go_simp; (try with_reducible rfl))
  (try simp only [Act.put, Z1, Z2, Z3, Z4, Z5, Z6])
  refine wpl_run (.pointer (some ⟨w.heap.size, 0, none⟩)) W rfl (by go_simp) ?_
  (try simp only [Act.put, Z1, Z2, Z3, Z4, Z5, Z6])
  refine no_implicit_lambda% (wpList_nil ?_)
  have hin : Hid (w.heap.size ≠ g ∧ w.heap.size ≠ rb ∧ w.heap.size ≠ rd ∧ w.heap.size ≠ ra ∧ w0.heap.size ≤ w.heap.size) := by
    have := hlt.out
    have := hg.bl.size
    have h0 := hg.lo
    unfold Hid; omega
  have hL0 : Ed1 w0 g ao cap R rb rd ra w.heap.size B B.length W := ⟨B, [], rfl, hIt, hg, by omega, hnd.out, P.E1.start _ _⟩
  clear hrun hb1 c1 hg hIt hlt hsz
  generalize w.heap.size = it at *
  replace hL0 := Lib.hid hL0
  go_wp2_with fail
  go_loopg [] B.length (fun m wr => Ed1 w0 g ao cap R rb rd ra it B m wr)
  case atStart => exact hL0.out
  case round =>
    clear hL0
    obtain ⟨T, D, rfl, hIt, hS, hil, hT⟩ := hrel
    rcases hIt.next hin.out.2.1 with ⟨h0, hrun⟩ | ⟨j, q, w', hj, hqB, hrun, hIt2, hF, hent⟩
    · subst h0
      go_upto_region 3 with (fail)
      refine no_implicit_lambda% (wp_region_lit ?_)
      refine wpl_run (.tuple #[.bool false]) wr rfl (by go_simp) ?_
      (try simp only [Act.put, Z1, Z2, Z3, Z4, Z5, Z6])
      refine no_implicit_lambda% (wpl_val ?_ rfl ?_ ?_)
      rotate_left
      · (go_simp; (try with_reducible rfl))
      (try simp only [Act.put, Z1, Z2, Z3, Z4, Z5, Z6])
      refine no_implicit_lambda% (wpList_nil ?_)
      have hL2 : Ed2 w0 g ao cap R rb rd ra B 0 0 (.int .u8 (P.ob false false false false)) wr := ⟨D, [], false, rfl, hS, P.E2.start hT.out.2⟩
      have c0 := hS.c0
      clear hrun hIt hT hS hil
      go_upto_region 8 with (fail)
      refine no_implicit_lambda% (wp_region_lit ?_)
      iterate 3
        refine no_implicit_lambda% (wpl_val ?_ rfl ?_ ?_)
        rotate_left
        · (go_simp; (try with_reducible rfl))
        (try simp only [Act.put, Z1, Z2, Z3, Z4, Z5, Z6])
      refine no_implicit_lambda% (wpl_val ?_ rfl ?_ ?_)
      rotate_left
      · (have c0 := c0; go_simp; (try with_reducible rfl))
      (try simp only [Act.put, Z1, Z2, Z3, Z4, Z5, Z6])
      refine no_implicit_lambda% (wpl_val ?_ rfl ?_ ?_)
      rotate_left
      · (go_simp; (try with_reducible rfl))
      (try simp only [Act.put, Z1, Z2, Z3, Z4, Z5, Z6])
      refine no_implicit_lambda% (wpl_val ?_ rfl ?_ ?_)
      rotate_left
      · (go_simp; (try with_reducible rfl))
      (try simp only [Act.put, Z1, Z2, Z3, Z4, Z5, Z6])
      refine no_implicit_lambda% (wpList_nil ?_)
      clear c0
      replace hL2 := Lib.hid hL2
      go_wp2_with fail
      go_loopw [46, 3] (fun i o wr => ∃ k : Nat, i = .int .i64 k ∧ k ≤ R.length ∧ Ed2 w0 g ao cap R rb rd ra B k 0 o wr) (fun i _ _ => R.length - (intOf i).toNat)
      case atStart => exact ⟨0, rfl, Nat.zero_le _, hL2.out⟩
      case round =>
        clear hL2
        obtain ⟨k, rfl, hk, D, A, a, rfl, hS, hE⟩ := hrel
        by_cases hlk : k < R.length
        · have hlk' : (k : Int) < (R.length : Int) := by omega
          obtain ⟨x, hx⟩ : ∃ x, R[k]? = some x := ⟨_, List.getElem?_eq_getElem hlk⟩
          obtain ⟨b, o, rfl, hbl, hr⟩ := hS.h.row k x hx
          replace hr := Lib.hid hr
          have hsub := hS.h.sub x (List.mem_of_getElem? hx)
          have hone := Lib.hid hsub.one
          have hxh := Lib.hid (his_get hx)
          have hmem := Lib.hid (List.mem_of_getElem? hx)
          clear hx
          go_upto_region 10 with (fail)
          refine no_implicit_lambda% (wp_region_lit ?_)
          iterate 2
            refine no_implicit_lambda% (wpl_val ?_ rfl ?_ ?_)
            rotate_left
            · (go_simp; (try with_reducible rfl))
            (try simp only [Act.put, Z1, Z2, Z3, Z4, Z5, Z6])
          refine wpList_load_mid rfl 36 _ rfl b (o + k * 5) rfl (pcL x) _ hr.out Try.underlying36 rfl (size36' x) ?_
          (try simp only [Act.put, Z1, Z2, Z3, Z4, Z5, Z6])
          refine wpl_alloc 36 (pcA noR) rfl rfl hz36 ?_
          (try simp only [Act.put, Z1, Z2, Z3, Z4, Z5, Z6])
          refine no_implicit_lambda% (wpl_val ?_ rfl ?_ ?_)
          rotate_left
          · (go_simp; (try with_reducible rfl))
          (try simp only [Act.put, Z1, Z2, Z3, Z4, Z5, Z6])
          refine wpList_store_fr rfl 36 _ _ rfl wr.heap.size (pcA x) rfl rfl 36 _ (Blk.alloc_new _ _ _) (size36 x) rfl hone.out ?_
          intro w9 hB9 hF9
          (try simp only [Act.put, Z1, Z2, Z3, Z4, Z5, Z6])
          refine no_implicit_lambda% (wpList_nil ?_)
          have hb9 := box_below hF9
          replace hS := hS.below hb9
          replace hsub := hsub.below hb9
          clear hF9 hr hbl hb9 hone
          generalize wr.heap.size = bx at *
          cases hd : x.1.done with
          | false =>
            have hE2 : Hid (P.E2 (his R) B (k + 1) 0 D A a) := hE.out.next hxh.out (.inr hd)
            have cd : w9.cell? ⟨bx, 2, none⟩ = some (.bool false) := by rw [hB9.cell, ← hd]; rfl
            clear hE hsub
            go_upto_region 11 with (fail)
            refine no_implicit_lambda% (wp_region_lit ?_)
            refine no_implicit_lambda% (wpl_val ?_ rfl ?_ ?_)
            rotate_left
            · (go_simp; (try with_reducible rfl))
            (try simp only [Act.put, Z1, Z2, Z4, Z5, Z6])
            refine no_implicit_lambda% (wpl_val ?_ rfl ?_ ?_)
            rotate_left
            · (have c0 := cd; go_simp; (try with_reducible rfl))
            (try simp only [Act.put, Z1, Z2, Z3, Z4, Z5, Z6])
            refine no_implicit_lambda% (wpl_val ?_ rfl ?_ ?_)
            rotate_left
            · (go_simp; (try with_reducible rfl))
            (try simp only [Act.put, Z1, Z2, Z3, Z4, Z5, Z6])
            refine no_implicit_lambda% (wpList_nil ?_)
            clear cd hd hxh
            go_wp2_with fail
            go_roundw
            case rel => exact ⟨k + 1, by go_num, by omega, D, A, a, rfl, hS, hE2⟩
            case measure => simp [intOf]; omega
          | true =>
            have cd : w9.cell? ⟨bx, 2, none⟩ = some (.bool true) := by rw [hB9.cell, ← hd]; rfl
            replace hd := Lib.hid hd
            go_upto_region 11 with (fail)
            refine no_implicit_lambda% (wp_region_lit ?_)
            refine no_implicit_lambda% (wpl_val ?_ rfl ?_ ?_)
            rotate_left
            · (go_simp; (try with_reducible rfl))
            (try simp only [Act.put, Z1, Z2, Z4, Z5, Z6])
            refine no_implicit_lambda% (wpl_val ?_ rfl ?_ ?_)
            rotate_left
            · (have c0 := cd; go_simp; (try with_reducible rfl))
            (try simp only [Act.put, Z1, Z2, Z3, Z4, Z5, Z6])
            refine no_implicit_lambda% (wpl_val ?_ rfl ?_ ?_)
            rotate_left
            · (go_simp; (try with_reducible rfl))
            (try simp only [Act.put, Z1, Z2, Z3, Z4, Z5, Z6])
            refine no_implicit_lambda% (wpList_nil ?_)
            clear cd
            obtain ⟨aor, capr, hrv, hcr, hrr⟩ := hsub.rd
            have hok := Lib.hid hsub.ok
            have cr : w9.cell? ⟨bx, 3, none⟩ = some (.slice aor x.1.reads.length capr) := by rw [hB9.cell, ← hrv]; rfl
            replace hrv := Lib.hid hrv
            clear hsub
            go_upto_region 12 with (fail)
            refine no_implicit_lambda% (wp_region_lit ?_)
            refine no_implicit_lambda% (wpl_val ?_ rfl ?_ ?_)
            rotate_left
            · (go_simp; (try with_reducible rfl))
            (try simp only [Act.put, Z1, Z2, Z4, Z5, Z6])
            refine no_implicit_lambda% (wpl_val ?_ rfl ?_ ?_)
            rotate_left
            · (have c0 := cr; go_simp; (try with_reducible rfl))
            (try simp only [Act.put, Z1, Z2, Z3, Z4, Z5, Z6])
            refine no_implicit_lambda% (wpl_val ?_ rfl ?_ ?_)
            rotate_left
            · (go_simp; (try with_reducible rfl))
            (try simp only [Act.put, Z1, Z2, Z3, Z4, Z5, Z6])
            refine no_implicit_lambda% (wpl_val ?_ rfl ?_ ?_)
            rotate_left
            · (go_simp; (try with_reducible rfl))
            (try simp only [Act.put, Z1, Z2, Z3, Z4, Z5, Z6])
            refine no_implicit_lambda% (wpList_nil ?_)
            clear cr hB9 hrr
            have HL := Lib.hid (show Ed2 w0 g (some ⟨b, o, none⟩) cap R rb rd ra B k 0 (.int .u8 (P.ob a false false false)) w9 from ⟨D, A, a, rfl, hS, hE⟩)
            have hrl := hok.out.rl
            clear hS hE
            go_wp2_with fail
            go_loopw [57, 3] (fun i o' wr => ∃ m : Nat, i = .int .i64 m ∧ m ≤ x.1.reads.length ∧ Ed2 w0 g (some ⟨b, o, none⟩) cap R rb rd ra B k m o' wr) (fun i _ _ => x.1.reads.length - (intOf i).toNat)
            case atStart => exact ⟨0, rfl, Nat.zero_le _, HL.out⟩
            case round =>
              clear HL
              obtain ⟨m, rfl, hm, D, A, a, rfl, hS, hE⟩ := hrel
              by_cases hlm : m < x.1.reads.length
              · have hlm' : (m : Int) < (x.1.reads.length : Int) := by omega
                obtain ⟨v, hv⟩ : ∃ v, x.1.reads[m]? = some v := ⟨_, List.getElem?_eq_getElem hlm⟩
                obtain ⟨b2, o2, rfl, hbl2, hr2⟩ := (rd_at (hS.h.sub x hmem.out) hrv.out) m v hv
                replace hr2 := Lib.hid hr2
                have hvw : Hid (DS v) := hok.out.reads v (List.mem_of_getElem? hv)
                replace hv := Lib.hid hv
                go_upto_region 14 with (fail)
                refine no_implicit_lambda% (wp_region_lit ?_)
                refine no_implicit_lambda% (wpl_val ?_ rfl ?_ ?_)
                rotate_left
                · (go_simp; (try with_reducible rfl))
                (try simp only [Act.put, Z1, Z2, Z4, Z5, Z6])
                refine wpList_load_mid rfl 43 _ rfl b2 (o2 + m * 2) rfl (seC v) _ hr2.out Try.underlying43 rfl zero43.2 ?_
                (try simp only [Act.put, Z1, Z2, Z3, Z4, Z5, Z6])
                refine wpl_alloc 43 #[.int .u16 0, .int .u32 0] rfl rfl hz43 ?_
                (try simp only [Act.put, Z1, Z2, Z3, Z4, Z5, Z6])
                refine wpList_store_fr rfl 43 _ _ rfl wr.heap.size #[.int .u16 v.1, .int .u32 v.2] rfl rfl 43 _ (Blk.alloc_new _ _ _) zero43.2 rfl (by simp [Value.oneCell']) ?_
                intro w9 hB9 hF9
                (try simp only [Act.put, Z1, Z2, Z3, Z4, Z5, Z6])
                refine no_implicit_lambda% (wpList_nil ?_)
                replace hS := hS.below (box_below hF9)
                clear hF9 hr2 hbl2
                generalize wr.heap.size = bx at *
                cases hgv : G.get B v with
                | none =>
                  have lk : ∀ w', GS w0 w' g (some ⟨b, o, none⟩) cap R rb rd ra B D A → (Instr.lookup 65 (.map (some rb)) (.agg #[.int .u16 v.1, .int .u32 v.2]) true).run Try.prog w' = .ok (.tuple #[.int .i64 0, .bool false]) w' := fun w' h => by have := h.fb.look hvw.out; rw [hgv] at this; exact this
                  have hno : Hid (¬ ∃ j, (v, j) ∈ B) := fun ⟨j, hj⟩ => by have := (getB_mem hS.fb).2 hj; rw [hgv] at this; cases this
                  clear hgv
                  go_upto_region 15 with (fail)
                  refine wp_region_held (S := (fun w' => GS w0 w' g (some ⟨b, o, none⟩) cap R rb rd ra B D A ∧ Blk w' bx #[.int .u16 v.1, .int .u32 v.2] 43)) (by kernel_rfl) ?_
                  change wpAnyH _ _ _ _ _ _ _ _ (World.drew _)
                  (try simp only [Act.put])
                  replace hS := And.intro (hS.below (Below.refl _ _).drew) (hB9.drew)
                  clear hB9
                  generalize w9.drew = V at *
                  refine anyH_pure 0 _ ?_ rfl (by kernel_rfl) (by kernel_rfl) (by kernel_rfl) (fun _ _ _ h => h) rfl ?_ hS ?_
                  rotate_left
                  · (intro w'; go_simp; (try with_reducible rfl))
                  (try simp only [Act.put, Z1, Z2, Z4, Z5, Z6])
                  refine anyH_pure 1 _ ?_ rfl (by kernel_rfl) (by kernel_rfl) (by kernel_rfl) (fun _ _ _ h => h) rfl ?_ hS ?_
                  rotate_left
                  · (intro w'; go_simp; (try with_reducible rfl))
                  (try simp only [Act.put, Z1, Z2, Z3, Z4, Z5, Z6])
                  refine anyH_pure 2 _ ?_ rfl (by kernel_rfl) (by kernel_rfl) (by kernel_rfl) (fun _ _ _ h => h) rfl ?_ hS ?_
                  rotate_left
                  · (intro w'; go_simp; (try with_reducible rfl))
                  (try simp only [Act.put, Z1, Z2, Z3, Z4, Z5, Z6])
                  refine anyH_if 3 _ ?_ rfl (by kernel_rfl) (by kernel_rfl) (by kernel_rfl) (fun _ _ _ h => h) rfl ?_ hS ?_
                  rotate_left
                  · (intro w' h; have c0 := h.1.c1; go_simp; (try with_reducible rfl))
                  (try simp only [Act.put, Z1, Z2, Z3, Z4, Z5, Z6])
                  refine anyH_if 4 _ (.agg #[.int .u16 v.1, .int .u32 v.2]) rfl (by kernel_rfl) (by kernel_rfl) (by kernel_rfl) (fun _ _ _ h => h) rfl (fun w' h => run_load_cs rfl rfl h.2 Try.underlying43 rfl zero43.2) hS ?_
                  (try simp only [Act.put, Z1, Z2, Z3, Z4, Z5, Z6])
                  refine anyH_if 5 _ ?_ rfl (by kernel_rfl) (by kernel_rfl) (by kernel_rfl) (fun _ _ _ h => h) rfl ?_ hS ?_
                  rotate_left
                  · (intro w' h; have c0 := lk w' h.1; go_simp; (try with_reducible rfl))
                  (try simp only [Act.put, Z1, Z2, Z3, Z4, Z5, Z6])
                  refine anyH_pure 6 _ ?_ rfl (by kernel_rfl) (by kernel_rfl) (by kernel_rfl) (fun _ _ _ h => h) rfl ?_ hS ?_
                  rotate_left
                  · (intro w'; go_simp; (try with_reducible rfl))
                  (try simp only [Act.put, Z1, Z2, Z3, Z4, Z5, Z6])
                  refine anyH_pure 7 _ ?_ rfl (by kernel_rfl) (by kernel_rfl) (by kernel_rfl) (fun _ _ _ h => h) rfl ?_ hS ?_
                  rotate_left
                  · (intro w'; go_simp; (try with_reducible rfl))
                  (try simp only [Act.put, Z1, Z2, Z3, Z4, Z5, Z6])
                  refine anyH_pure 8 _ ?_ rfl (by kernel_rfl) (by kernel_rfl) (by kernel_rfl) (fun _ _ _ h => h) rfl ?_ hS ?_
                  rotate_left
                  · (intro w'; go_simp; (try with_reducible rfl))
                  (try simp only [Act.put, Z1, Z2, Z3, Z4, Z5, Z6])
                  refine anyH_pure 9 _ ?_ rfl (by kernel_rfl) (by kernel_rfl) (by kernel_rfl) (fun _ _ _ h => h) rfl ?_ hS ?_
                  rotate_left
                  · (intro w'; go_simp; (try with_reducible rfl))
                  (try simp only [Act.put, Z1, Z2, Z3, Z4, Z5, Z6])
                  refine anyH_pure 10 _ ?_ rfl (by kernel_rfl) (by kernel_rfl) (by kernel_rfl) (fun _ _ _ h => h) rfl ?_ hS ?_
                  rotate_left
                  · (intro w'; go_simp; (try with_reducible rfl))
                  (try simp only [Act.put, Z1, Z2, Z3, Z4, Z5, Z6])
                  refine wpAnyH_done (by kernel_rfl) ?_ _
                  clear lk
                  obtain ⟨hS, hBx⟩ := hS
                  by_cases hts : 0 < v.2
                  · have hts' : decide (0 < v.2) = true := by simp [hts]
                    have HE : Hid (P.E2 (his R) B k (m + 1) D A true) := hE.out.step hxh.out hd.out hv.out (fun e => ⟨.inl, fun h => h.elim id fun h => absurd ⟨_, h.2.2⟩ hno.out⟩) (fun e => ⟨.inl, fun h => h.elim id fun h => absurd h.2.2.1 (fun h8 => h8.elim hno.out (fun h7 => by omega))⟩) ⟨fun _ => .inr ⟨hno.out, hts⟩, fun _ => rfl⟩
                    clear hE hno hts hv
                    go_upto_region 16 with (fail)
                    refine no_implicit_lambda% (wp_region_lit ?_)
                    iterate 4
                      refine no_implicit_lambda% (wpl_val ?_ rfl ?_ ?_)
                      rotate_left
                      · (go_simp; (try with_reducible rfl))
                      (try simp only [Act.put, Z1, Z2, Z3, Z4, Z5, Z6])
                    refine no_implicit_lambda% (wpl_val ?_ rfl ?_ ?_)
                    rotate_left
                    · (have c0 := (show V.cell? ⟨bx, 1, none⟩ = some (.int .u32 v.2) by rw [hBx.cell]; rfl); go_simp; (try with_reducible rfl))
                    (try simp only [Act.put, Z1, Z2, Z3, Z4, Z5, Z6])
                    iterate 2
                      refine no_implicit_lambda% (wpl_val ?_ rfl ?_ ?_)
                      rotate_left
                      · (go_simp; (try with_reducible rfl))
                      (try simp only [Act.put, Z1, Z2, Z3, Z4, Z5, Z6])
                    refine no_implicit_lambda% (wpList_nil ?_)
                    clear hBx
                    go_upto_region 17 with (fail)
                    refine no_implicit_lambda% (wp_region_lit ?_)
                    refine no_implicit_lambda% (wpl_val ?_ rfl ?_ ?_)
                    rotate_left
                    · (go_simp; (try with_reducible rfl))
                    (try simp only [Act.put, Z1, Z2, Z4, Z5, Z6])
                    refine wpl_val (.int .u8 (P.ob true false false false)) rfl (run_or rfl rfl (or1 _ _ _ _)) ?_
                    (try simp only [Act.put, Z1, Z2, Z3, Z4, Z5, Z6])
                    refine no_implicit_lambda% (wpl_val ?_ rfl ?_ ?_)
                    rotate_left
                    · (go_simp; (try with_reducible rfl))
                    (try simp only [Act.put, Z1, Z2, Z3, Z4, Z5, Z6])
                    refine no_implicit_lambda% (wpList_nil ?_)
                    go_wp2_with fail
                    go_roundw
                    case rel => exact ⟨m + 1, by go_num, by omega, D, A, true, rfl, hS, HE⟩
                    case measure => simp [intOf]; omega
                  · have hts' : decide (0 < v.2) = false := by simp; omega
                    have HZ : Hid (¬ ((¬ ∃ j, (v, j) ∈ B) ∧ 0 < v.2)) := fun h => hts h.2
                    have HD : Hid (∀ e : Ed, e ∈ D ↔ e ∈ D ∨ (e.1 ≠ e.2 ∧ e.2 = k ∧ (v, e.1) ∈ B)) := fun e => ⟨.inl, fun h => h.elim id fun h => absurd ⟨_, h.2.2⟩ hno.out⟩
                    obtain ⟨D2, hD2⟩ : ∃ D2, D2 = D := ⟨_, rfl⟩
                    replace HD : Hid (∀ e : Ed, e ∈ D2 ↔ e ∈ D ∨ (e.1 ≠ e.2 ∧ e.2 = k ∧ (v, e.1) ∈ B)) := by rw [hD2]; exact HD
                    rw [← hD2] at hS
                    clear hD2 hno
                    go_upto_region 16 with (fail)
                    refine no_implicit_lambda% (wp_region_lit ?_)
                    iterate 4
                      refine no_implicit_lambda% (wpl_val ?_ rfl ?_ ?_)
                      rotate_left
                      · (go_simp; (try with_reducible rfl))
                      (try simp only [Act.put, Z1, Z2, Z3, Z4, Z5, Z6])
                    refine no_implicit_lambda% (wpl_val ?_ rfl ?_ ?_)
                    rotate_left
                    · (have c0 := (show V.cell? ⟨bx, 1, none⟩ = some (.int .u32 v.2) by rw [hBx.cell]; rfl); go_simp; (try with_reducible rfl))
                    (try simp only [Act.put, Z1, Z2, Z3, Z4, Z5, Z6])
                    iterate 2
                      refine no_implicit_lambda% (wpl_val ?_ rfl ?_ ?_)
                      rotate_left
                      · (go_simp; (try with_reducible rfl))
                      (try simp only [Act.put, Z1, Z2, Z3, Z4, Z5, Z6])
                    refine no_implicit_lambda% (wpList_nil ?_)
                    clear hts hts'
                    go_upto_region 18 with (fail)
                    refine no_implicit_lambda% (wp_region_lit ?_)
                    iterate 2
                      refine no_implicit_lambda% (wpl_val ?_ rfl ?_ ?_)
                      rotate_left
                      · (go_simp; (try with_reducible rfl))
                      (try simp only [Act.put, Z1, Z2, Z3, Z4, Z5, Z6])
                    iterate 3
                      refine no_implicit_lambda% (wpl_skip rfl ?_)
                      (try simp only [Act.put, Z1, Z2, Z3, Z4, Z5, Z6])
                    refine no_implicit_lambda% (wpl_val ?_ rfl ?_ ?_)
                    rotate_left
                    · (go_simp; (try with_reducible rfl))
                    (try simp only [Act.put, Z1, Z2, Z3, Z4, Z5, Z6])
                    refine no_implicit_lambda% (wpList_nil ?_)
                    have hnx := next_any hS v
                    go_upto_region 20 with (fail)
                    refine no_implicit_lambda% (wp_region_lit ?_)
                    refine no_implicit_lambda% (wpl_val ?_ rfl ?_ ?_)
                    rotate_left
                    · (go_simp; (try with_reducible rfl))
                    (try simp only [Act.put, Z1, Z2, Z4, Z5, Z6])
                    refine wpl_val (.agg #[.int .u16 v.1, .int .u32 v.2]) rfl (run_load_cs rfl rfl hBx Try.underlying43 rfl zero43.2) ?_
                    (try simp only [Act.put, Z1, Z2, Z3, Z4, Z5, Z6])
                    refine wpl_call _ _ rfl (by go_simp) _ hnx ?_
                    rintro e w6 ⟨r, rfl, hr, hb6⟩
                    refine ⟨_, rfl, ?_⟩
                    (try simp only [Act.put, Z1, Z2, Z3, Z4, Z5, Z6])
                    refine no_implicit_lambda% (wpl_val ?_ rfl ?_ ?_)
                    rotate_left
                    · (go_simp; (try with_reducible rfl))
                    (try simp only [Act.put, Z1, Z2, Z3, Z4, Z5, Z6])
                    refine no_implicit_lambda% (wpList_nil ?_)
                    replace hS := hS.below hb6
                    clear hnx hb6 hBx
                    rcases P.nxtB_cases hB.out hr with ⟨rfl, hno⟩ | ⟨k', rfl, hyes⟩
                    · have HE : Hid (P.E2 (his R) B k (m + 1) D2 A a) := hE.out.step hxh.out hd.out hv.out HD.out (fun e => ⟨.inl, fun h => h.elim id fun h => absurd h.2.2.2 (hno _)⟩) ⟨.inl, fun h => h.elim id fun h => absurd h HZ.out⟩
                      clear hE HD HZ hr hno hv
                      go_upto_region 21 with (fail)
                      refine no_implicit_lambda% (wp_region_lit ?_)
                      iterate 3
                        refine no_implicit_lambda% (wpl_val ?_ rfl ?_ ?_)
                        rotate_left
                        · (go_simp; (try with_reducible rfl))
                        (try simp only [Act.put, Z1, Z2, Z3, Z4, Z5, Z6])
                      iterate 3
                        refine no_implicit_lambda% (wpl_skip rfl ?_)
                        (try simp only [Act.put, Z1, Z2, Z3, Z4, Z5, Z6])
                      refine no_implicit_lambda% (wpl_val ?_ rfl ?_ ?_)
                      rotate_left
                      · (go_simp; (try with_reducible rfl))
                      (try simp only [Act.put, Z1, Z2, Z3, Z4, Z5, Z6])
                      refine no_implicit_lambda% (wpList_nil ?_)
                      go_wp2_with fail
                      go_roundw
                      case rel => exact ⟨m + 1, by go_num, by omega, D2, A, a, rfl, hS, HE⟩
                      case measure => simp [intOf]; omega
                    · have h0' : decide ((0 : Int) ≤ (k' : Int)) = true := by simp
                      by_cases hkk : k' = k
                      · subst hkk
                        have hne' : ((k' : Int) != (k' : Int)) = false := by simp
                        have HE : Hid (P.E2 (his R) B k' (m + 1) D2 A a) := hE.out.step hxh.out hd.out hv.out HD.out (fun e => ⟨.inl, fun h => h.elim id fun h => absurd (P.nxt_inj hbad.out h.2.2.2 hyes) (fun e2 => h.1 (h.2.1.trans e2.symm))⟩) ⟨.inl, fun h => h.elim id fun h => absurd h HZ.out⟩
                        clear hE HD HZ hr hyes hv
                        go_upto_region 21 with (fail)
                        refine no_implicit_lambda% (wp_region_lit ?_)
                        iterate 7
                          refine no_implicit_lambda% (wpl_val ?_ rfl ?_ ?_)
                          rotate_left
                          · (go_simp; (try with_reducible rfl))
                          (try simp only [Act.put, Z1, Z2, Z3, Z4, Z5, Z6])
                        refine no_implicit_lambda% (wpList_nil ?_)
                        go_wp2_with fail
                        go_roundw
                        case rel => exact ⟨m + 1, by go_num, by omega, D2, A, a, rfl, hS, HE⟩
                        case measure => simp [intOf]; omega
                      · have hne' : ((k' : Int) != (k : Int)) = true := by simp; omega
                        have hk9 : k' < R.length := by
                          obtain ⟨t', hby, _⟩ := hyes
                          have := P.by_lt hby
                          rwa [his_length] at this
                        have HE : Hid (P.E2 (his R) B k (m + 1) D2 (P.ins A (k, k')) a) := hE.out.step hxh.out hd.out hv.out HD.out (fun e => by
                          rw [P.mem_ins]
                          refine or_congr Iff.rfl ⟨?_, fun h => Prod.ext h.2.1 (P.nxt_inj hbad.out h.2.2.2 hyes)⟩
                          rintro rfl
                          exact ⟨Ne.symm hkk, rfl, Classical.byContradiction fun h9 => HZ.out ⟨fun h8 => h9 (.inl h8), by have : ¬ v.2 ≤ 0 := fun h8 => h9 (.inr h8); omega⟩, hyes⟩) ⟨.inl, fun h => h.elim id fun h => absurd h HZ.out⟩
                        obtain ⟨w7, hup, hS7, _⟩ := hS.putA (i := k) (k := k') (by omega) (by omega)
                        have c3 := hS.c3
                        clear hE HD HZ hr hyes hkk hS hv
                        generalize P.ins A (k, k') = A2 at *
                        go_upto_region 21 with (fail)
                        refine no_implicit_lambda% (wp_region_lit ?_)
                        iterate 7
                          refine no_implicit_lambda% (wpl_val ?_ rfl ?_ ?_)
                          rotate_left
                          · (go_simp; (try with_reducible rfl))
                          (try simp only [Act.put, Z1, Z2, Z3, Z4, Z5, Z6])
                        refine no_implicit_lambda% (wpList_nil ?_)
                        go_upto_region 22 with (fail)
                        refine no_implicit_lambda% (wp_region_lit ?_)
                        iterate 3
                          refine no_implicit_lambda% (wpl_val ?_ rfl ?_ ?_)
                          rotate_left
                          · (go_simp; (try with_reducible rfl))
                          (try simp only [Act.put, Z1, Z2, Z3, Z4, Z5, Z6])
                        refine no_implicit_lambda% (wpl_val ?_ rfl ?_ ?_)
                        rotate_left
                        · (have c0 := c3; go_simp; (try with_reducible rfl))
                        (try simp only [Act.put, Z1, Z2, Z3, Z4, Z5, Z6])
                        iterate 2
                          refine no_implicit_lambda% (wpl_val ?_ rfl ?_ ?_)
                          rotate_left
                          · (go_simp; (try with_reducible rfl))
                          (try simp only [Act.put, Z1, Z2, Z3, Z4, Z5, Z6])
                        refine wpl_val (.agg #[.int .i64 k, .int .i64 k']) rfl (run_buildE rfl (by go_simp; exact b72 k k')) ?_
                        (try simp only [Act.put, Z1, Z2, Z3, Z4, Z5, Z6])
                        refine wpl_law rfl (wp_mapUpdateE rfl rfl rfl rfl hup ?_)
                        (try simp only [Act.put, Z1, Z2, Z3, Z4, Z5, Z6])
                        refine no_implicit_lambda% (wpList_nil ?_)
                        clear hup c3
                        go_wp2_with fail
                        go_roundw
                        case rel => exact ⟨m + 1, by go_num, by omega, D2, A2, a, rfl, hS7, HE⟩
                        case measure => simp [intOf]; omega
                | some i =>
                  have lk : ∀ w', GS w0 w' g (some ⟨b, o, none⟩) cap R rb rd ra B D A → (Instr.lookup 65 (.map (some rb)) (.agg #[.int .u16 v.1, .int .u32 v.2]) true).run Try.prog w' = .ok (.tuple #[.int .i64 (i : Nat), .bool true]) w' := fun w' h => by have := h.fb.look hvw.out; rw [hgv] at this; exact this
                  have hyi : Hid (∀ j, (v, j) ∈ B ↔ j = i) := fun j => by
                    rw [← getB_mem hS.fb, hgv]
                    exact ⟨fun h => (Option.some.inj h).symm, fun h => by rw [h]⟩
                  have HZ : Hid (¬ ((¬ ∃ j, (v, j) ∈ B) ∧ 0 < v.2)) := fun h => h.1 ⟨i, (hyi.out i).2 rfl⟩
                  have hi9 : i < R.length := by
                    have := P.by_lt ((hB.out _).1 ((hyi.out i).2 rfl))
                    rwa [his_length] at this
                  clear hgv
                  go_upto_region 15 with (fail)
                  refine wp_region_held (S := (fun w' => GS w0 w' g (some ⟨b, o, none⟩) cap R rb rd ra B D A ∧ Blk w' bx #[.int .u16 v.1, .int .u32 v.2] 43)) (by kernel_rfl) ?_
                  change wpAnyH _ _ _ _ _ _ _ _ (World.drew _)
                  (try simp only [Act.put])
                  replace hS := And.intro (hS.below (Below.refl _ _).drew) (hB9.drew)
                  clear hB9
                  generalize w9.drew = V at *
                  refine anyH_pure 0 _ ?_ rfl (by kernel_rfl) (by kernel_rfl) (by kernel_rfl) (fun _ _ _ h => h) rfl ?_ hS ?_
                  rotate_left
                  · (intro w'; go_simp; (try with_reducible rfl))
                  (try simp only [Act.put, Z1, Z2, Z4, Z5, Z6])
                  refine anyH_pure 1 _ ?_ rfl (by kernel_rfl) (by kernel_rfl) (by kernel_rfl) (fun _ _ _ h => h) rfl ?_ hS ?_
                  rotate_left
                  · (intro w'; go_simp; (try with_reducible rfl))
                  (try simp only [Act.put, Z1, Z2, Z3, Z4, Z5, Z6])
                  refine anyH_pure 2 _ ?_ rfl (by kernel_rfl) (by kernel_rfl) (by kernel_rfl) (fun _ _ _ h => h) rfl ?_ hS ?_
                  rotate_left
                  · (intro w'; go_simp; (try with_reducible rfl))
                  (try simp only [Act.put, Z1, Z2, Z3, Z4, Z5, Z6])
                  refine anyH_if 3 _ ?_ rfl (by kernel_rfl) (by kernel_rfl) (by kernel_rfl) (fun _ _ _ h => h) rfl ?_ hS ?_
                  rotate_left
                  · (intro w' h; have c0 := h.1.c1; go_simp; (try with_reducible rfl))
                  (try simp only [Act.put, Z1, Z2, Z3, Z4, Z5, Z6])
                  refine anyH_if 4 _ (.agg #[.int .u16 v.1, .int .u32 v.2]) rfl (by kernel_rfl) (by kernel_rfl) (by kernel_rfl) (fun _ _ _ h => h) rfl (fun w' h => run_load_cs rfl rfl h.2 Try.underlying43 rfl zero43.2) hS ?_
                  (try simp only [Act.put, Z1, Z2, Z3, Z4, Z5, Z6])
                  refine anyH_if 5 _ ?_ rfl (by kernel_rfl) (by kernel_rfl) (by kernel_rfl) (fun _ _ _ h => h) rfl ?_ hS ?_
                  rotate_left
                  · (intro w' h; have c0 := lk w' h.1; go_simp; (try with_reducible rfl))
                  (try simp only [Act.put, Z1, Z2, Z3, Z4, Z5, Z6])
                  refine anyH_pure 6 _ ?_ rfl (by kernel_rfl) (by kernel_rfl) (by kernel_rfl) (fun _ _ _ h => h) rfl ?_ hS ?_
                  rotate_left
                  · (intro w'; go_simp; (try with_reducible rfl))
                  (try simp only [Act.put, Z1, Z2, Z3, Z4, Z5, Z6])
                  refine anyH_pure 7 _ ?_ rfl (by kernel_rfl) (by kernel_rfl) (by kernel_rfl) (fun _ _ _ h => h) rfl ?_ hS ?_
                  rotate_left
                  · (intro w'; go_simp; (try with_reducible rfl))
                  (try simp only [Act.put, Z1, Z2, Z3, Z4, Z5, Z6])
                  refine anyH_pure 8 _ ?_ rfl (by kernel_rfl) (by kernel_rfl) (by kernel_rfl) (fun _ _ _ h => h) rfl ?_ hS ?_
                  rotate_left
                  · (intro w'; go_simp; (try with_reducible rfl))
                  (try simp only [Act.put, Z1, Z2, Z3, Z4, Z5, Z6])
                  refine anyH_pure 9 _ ?_ rfl (by kernel_rfl) (by kernel_rfl) (by kernel_rfl) (fun _ _ _ h => h) rfl ?_ hS ?_
                  rotate_left
                  · (intro w'; go_simp; (try with_reducible rfl))
                  (try simp only [Act.put, Z1, Z2, Z3, Z4, Z5, Z6])
                  refine anyH_pure 10 _ ?_ rfl (by kernel_rfl) (by kernel_rfl) (by kernel_rfl) (fun _ _ _ h => h) rfl ?_ hS ?_
                  rotate_left
                  · (intro w'; go_simp; (try with_reducible rfl))
                  (try simp only [Act.put, Z1, Z2, Z3, Z4, Z5, Z6])
                  refine wpAnyH_done (by kernel_rfl) ?_ _
                  clear lk
                  obtain ⟨hS, hBx⟩ := hS
                  go_upto_region 16 with (fail)
                  refine no_implicit_lambda% (wp_region_lit ?_)
                  iterate 3
                    refine no_implicit_lambda% (wpl_val ?_ rfl ?_ ?_)
                    rotate_left
                    · (go_simp; (try with_reducible rfl))
                    (try simp only [Act.put, Z1, Z2, Z3, Z4, Z5, Z6])
                  iterate 3
                    refine no_implicit_lambda% (wpl_skip rfl ?_)
                    (try simp only [Act.put, Z1, Z2, Z3, Z4, Z5, Z6])
                  refine no_implicit_lambda% (wpl_val ?_ rfl ?_ ?_)
                  rotate_left
                  · (go_simp; (try with_reducible rfl))
                  (try simp only [Act.put, Z1, Z2, Z3, Z4, Z5, Z6])
                  refine no_implicit_lambda% (wpList_nil ?_)
                  by_cases hik : i = k
                  · have hki := hik.symm
                    subst hki
                    have hne' : ((k : Int) != (k : Int)) = false := by simp
                    have HD : Hid (∀ e : Ed, e ∈ D ↔ e ∈ D ∨ (e.1 ≠ e.2 ∧ e.2 = k ∧ (v, e.1) ∈ B)) := fun e => ⟨.inl, fun h => h.elim id fun h => absurd ((hyi.out _).1 h.2.2) (fun e2 => h.1 (e2.trans h.2.1.symm))⟩
                    obtain ⟨D2, hD2⟩ : ∃ D2, D2 = D := ⟨_, rfl⟩
                    replace HD : Hid (∀ e : Ed, e ∈ D2 ↔ e ∈ D ∨ (e.1 ≠ e.2 ∧ e.2 = k ∧ (v, e.1) ∈ B)) := by rw [hD2]; exact HD
                    rw [← hD2] at hS
                    clear hD2 hyi hik
                    go_upto_region 18 with (fail)
                    refine no_implicit_lambda% (wp_region_lit ?_)
                    iterate 6
                      refine no_implicit_lambda% (wpl_val ?_ rfl ?_ ?_)
                      rotate_left
                      · (go_simp; (try with_reducible rfl))
                      (try simp only [Act.put, Z1, Z2, Z3, Z4, Z5, Z6])
                    refine no_implicit_lambda% (wpList_nil ?_)
                    clear hne'
                    have hnx := next_any hS v
                    go_upto_region 20 with (fail)
                    refine no_implicit_lambda% (wp_region_lit ?_)
                    refine no_implicit_lambda% (wpl_val ?_ rfl ?_ ?_)
                    rotate_left
                    · (go_simp; (try with_reducible rfl))
                    (try simp only [Act.put, Z1, Z2, Z4, Z5, Z6])
                    refine wpl_val (.agg #[.int .u16 v.1, .int .u32 v.2]) rfl (run_load_cs rfl rfl hBx Try.underlying43 rfl zero43.2) ?_
                    (try simp only [Act.put, Z1, Z2, Z3, Z4, Z5, Z6])
                    refine wpl_call _ _ rfl (by go_simp) _ hnx ?_
                    rintro e w6 ⟨r, rfl, hr, hb6⟩
                    refine ⟨_, rfl, ?_⟩
                    (try simp only [Act.put, Z1, Z2, Z3, Z4, Z5, Z6])
                    refine no_implicit_lambda% (wpl_val ?_ rfl ?_ ?_)
                    rotate_left
                    · (go_simp; (try with_reducible rfl))
                    (try simp only [Act.put, Z1, Z2, Z3, Z4, Z5, Z6])
                    refine no_implicit_lambda% (wpList_nil ?_)
                    replace hS := hS.below hb6
                    clear hnx hb6 hBx
                    rcases P.nxtB_cases hB.out hr with ⟨rfl, hno⟩ | ⟨k', rfl, hyes⟩
                    · have HE : Hid (P.E2 (his R) B k (m + 1) D2 A a) := hE.out.step hxh.out hd.out hv.out HD.out (fun e => ⟨.inl, fun h => h.elim id fun h => absurd h.2.2.2 (hno _)⟩) ⟨.inl, fun h => h.elim id fun h => absurd h HZ.out⟩
                      clear hE HD HZ hr hno hv
                      go_upto_region 21 with (fail)
                      refine no_implicit_lambda% (wp_region_lit ?_)
                      iterate 3
                        refine no_implicit_lambda% (wpl_val ?_ rfl ?_ ?_)
                        rotate_left
                        · (go_simp; (try with_reducible rfl))
                        (try simp only [Act.put, Z1, Z2, Z3, Z4, Z5, Z6])
                      iterate 3
                        refine no_implicit_lambda% (wpl_skip rfl ?_)
                        (try simp only [Act.put, Z1, Z2, Z3, Z4, Z5, Z6])
                      refine no_implicit_lambda% (wpl_val ?_ rfl ?_ ?_)
                      rotate_left
                      · (go_simp; (try with_reducible rfl))
                      (try simp only [Act.put, Z1, Z2, Z3, Z4, Z5, Z6])
                      refine no_implicit_lambda% (wpList_nil ?_)
                      go_wp2_with fail
                      go_roundw
                      case rel => exact ⟨m + 1, by go_num, by omega, D2, A, a, rfl, hS, HE⟩
                      case measure => simp [intOf]; omega
                    · have h0' : decide ((0 : Int) ≤ (k' : Int)) = true := by simp
                      by_cases hkk : k' = k
                      · subst hkk
                        have hne' : ((k' : Int) != (k' : Int)) = false := by simp
                        have HE : Hid (P.E2 (his R) B k' (m + 1) D2 A a) := hE.out.step hxh.out hd.out hv.out HD.out (fun e => ⟨.inl, fun h => h.elim id fun h => absurd (P.nxt_inj hbad.out h.2.2.2 hyes) (fun e2 => h.1 (h.2.1.trans e2.symm))⟩) ⟨.inl, fun h => h.elim id fun h => absurd h HZ.out⟩
                        clear hE HD HZ hr hyes hv
                        go_upto_region 21 with (fail)
                        refine no_implicit_lambda% (wp_region_lit ?_)
                        iterate 7
                          refine no_implicit_lambda% (wpl_val ?_ rfl ?_ ?_)
                          rotate_left
                          · (go_simp; (try with_reducible rfl))
                          (try simp only [Act.put, Z1, Z2, Z3, Z4, Z5, Z6])
                        refine no_implicit_lambda% (wpList_nil ?_)
                        go_wp2_with fail
                        go_roundw
                        case rel => exact ⟨m + 1, by go_num, by omega, D2, A, a, rfl, hS, HE⟩
                        case measure => simp [intOf]; omega
                      · have hne' : ((k' : Int) != (k : Int)) = true := by simp; omega
                        have hk9 : k' < R.length := by
                          obtain ⟨t', hby, _⟩ := hyes
                          have := P.by_lt hby
                          rwa [his_length] at this
                        have HE : Hid (P.E2 (his R) B k (m + 1) D2 (P.ins A (k, k')) a) := hE.out.step hxh.out hd.out hv.out HD.out (fun e => by
                          rw [P.mem_ins]
                          refine or_congr Iff.rfl ⟨?_, fun h => Prod.ext h.2.1 (P.nxt_inj hbad.out h.2.2.2 hyes)⟩
                          rintro rfl
                          exact ⟨Ne.symm hkk, rfl, Classical.byContradiction fun h9 => HZ.out ⟨fun h8 => h9 (.inl h8), by have : ¬ v.2 ≤ 0 := fun h8 => h9 (.inr h8); omega⟩, hyes⟩) ⟨.inl, fun h => h.elim id fun h => absurd h HZ.out⟩
                        obtain ⟨w7, hup, hS7, _⟩ := hS.putA (i := k) (k := k') (by omega) (by omega)
                        have c3 := hS.c3
                        clear hE HD HZ hr hyes hkk hS hv
                        generalize P.ins A (k, k') = A2 at *
                        go_upto_region 21 with (fail)
                        refine no_implicit_lambda% (wp_region_lit ?_)
                        iterate 7
                          refine no_implicit_lambda% (wpl_val ?_ rfl ?_ ?_)
                          rotate_left
                          · (go_simp; (try with_reducible rfl))
                          (try simp only [Act.put, Z1, Z2, Z3, Z4, Z5, Z6])
                        refine no_implicit_lambda% (wpList_nil ?_)
                        go_upto_region 22 with (fail)
                        refine no_implicit_lambda% (wp_region_lit ?_)
                        iterate 3
                          refine no_implicit_lambda% (wpl_val ?_ rfl ?_ ?_)
                          rotate_left
                          · (go_simp; (try with_reducible rfl))
                          (try simp only [Act.put, Z1, Z2, Z3, Z4, Z5, Z6])
                        refine no_implicit_lambda% (wpl_val ?_ rfl ?_ ?_)
                        rotate_left
                        · (have c0 := c3; go_simp; (try with_reducible rfl))
                        (try simp only [Act.put, Z1, Z2, Z3, Z4, Z5, Z6])
                        iterate 2
                          refine no_implicit_lambda% (wpl_val ?_ rfl ?_ ?_)
                          rotate_left
                          · (go_simp; (try with_reducible rfl))
                          (try simp only [Act.put, Z1, Z2, Z3, Z4, Z5, Z6])
                        refine wpl_val (.agg #[.int .i64 k, .int .i64 k']) rfl (run_buildE rfl (by go_simp; exact b72 k k')) ?_
                        (try simp only [Act.put, Z1, Z2, Z3, Z4, Z5, Z6])
                        refine wpl_law rfl (wp_mapUpdateE rfl rfl rfl rfl hup ?_)
                        (try simp only [Act.put, Z1, Z2, Z3, Z4, Z5, Z6])
                        refine no_implicit_lambda% (wpList_nil ?_)
                        clear hup c3
                        go_wp2_with fail
                        go_roundw
                        case rel => exact ⟨m + 1, by go_num, by omega, D2, A2, a, rfl, hS7, HE⟩
                        case measure => simp [intOf]; omega
                  · have hne' : ((i : Int) != (k : Int)) = true := by simp; omega
                    have HD : Hid (∀ e : Ed, e ∈ P.ins D (i, k) ↔ e ∈ D ∨ (e.1 ≠ e.2 ∧ e.2 = k ∧ (v, e.1) ∈ B)) := fun e => by
                      rw [P.mem_ins]
                      refine or_congr Iff.rfl ⟨?_, fun h => Prod.ext ((hyi.out _).1 h.2.2) h.2.1⟩
                      rintro rfl
                      exact ⟨hik, rfl, (hyi.out i).2 rfl⟩
                    obtain ⟨w5, hup, hS5, hF5⟩ := hS.putD (i := i) (k := k) (by omega) (by omega)
                    have hbx5 : bx ≠ rd := fun e => by have := hS.fd.1; obtain ⟨es, cl, h8, _⟩ := this; have h9 : V.heap[bx]? = _ := hBx; rw [e, h8] at h9; cases h9
                    replace hBx := hBx.fr hF5 hbx5
                    have c2 := hS.c2
                    clear hS hik hyi hbx5 hF5
                    replace hS5 := Lib.hid hS5
                    generalize P.ins D (i, k) = D2 at *
                    go_upto_region 18 with (fail)
                    refine no_implicit_lambda% (wp_region_lit ?_)
                    iterate 6
                      refine no_implicit_lambda% (wpl_val ?_ rfl ?_ ?_)
                      rotate_left
                      · (go_simp; (try with_reducible rfl))
                      (try simp only [Act.put, Z1, Z2, Z3, Z4, Z5, Z6])
                    refine no_implicit_lambda% (wpList_nil ?_)
                    clear hne'
                    go_upto_region 19 with (fail)
                    refine no_implicit_lambda% (wp_region_lit ?_)
                    iterate 3
                      refine no_implicit_lambda% (wpl_val ?_ rfl ?_ ?_)
                      rotate_left
                      · (go_simp; (try with_reducible rfl))
                      (try simp only [Act.put, Z1, Z2, Z3, Z4, Z5, Z6])
                    refine no_implicit_lambda% (wpl_val ?_ rfl ?_ ?_)
                    rotate_left
                    · (have c0 := c2; go_simp; (try with_reducible rfl))
                    (try simp only [Act.put, Z1, Z2, Z3, Z4, Z5, Z6])
                    iterate 2
                      refine no_implicit_lambda% (wpl_val ?_ rfl ?_ ?_)
                      rotate_left
                      · (go_simp; (try with_reducible rfl))
                      (try simp only [Act.put, Z1, Z2, Z3, Z4, Z5, Z6])
                    refine wpl_val (.agg #[.int .i64 i, .int .i64 k]) rfl (run_buildE rfl (by go_simp; exact b72 i k)) ?_
                    (try simp only [Act.put, Z1, Z2, Z3, Z4, Z5, Z6])
                    refine wpl_law rfl (wp_mapUpdateE rfl rfl rfl rfl hup ?_)
                    (try simp only [Act.put, Z1, Z2, Z3, Z4, Z5, Z6])
                    refine no_implicit_lambda% (wpList_nil ?_)
                    clear hup c2
                    have hS := hS5.out
                    clear hS5
                    have hnx := next_any hS v
                    go_upto_region 20 with (fail)
                    refine no_implicit_lambda% (wp_region_lit ?_)
                    refine no_implicit_lambda% (wpl_val ?_ rfl ?_ ?_)
                    rotate_left
                    · (go_simp; (try with_reducible rfl))
                    (try simp only [Act.put, Z1, Z2, Z4, Z5, Z6])
                    refine wpl_val (.agg #[.int .u16 v.1, .int .u32 v.2]) rfl (run_load_cs rfl rfl hBx Try.underlying43 rfl zero43.2) ?_
                    (try simp only [Act.put, Z1, Z2, Z3, Z4, Z5, Z6])
                    refine wpl_call _ _ rfl (by go_simp) _ hnx ?_
                    rintro e w6 ⟨r, rfl, hr, hb6⟩
                    refine ⟨_, rfl, ?_⟩
                    (try simp only [Act.put, Z1, Z2, Z3, Z4, Z5, Z6])
                    refine no_implicit_lambda% (wpl_val ?_ rfl ?_ ?_)
                    rotate_left
                    · (go_simp; (try with_reducible rfl))
                    (try simp only [Act.put, Z1, Z2, Z3, Z4, Z5, Z6])
                    refine no_implicit_lambda% (wpList_nil ?_)
                    replace hS := hS.below hb6
                    clear hnx hb6 hBx
                    rcases P.nxtB_cases hB.out hr with ⟨rfl, hno⟩ | ⟨k', rfl, hyes⟩
                    · have HE : Hid (P.E2 (his R) B k (m + 1) D2 A a) := hE.out.step hxh.out hd.out hv.out HD.out (fun e => ⟨.inl, fun h => h.elim id fun h => absurd h.2.2.2 (hno _)⟩) ⟨.inl, fun h => h.elim id fun h => absurd h HZ.out⟩
                      clear hE HD HZ hr hno hv
                      go_upto_region 21 with (fail)
                      refine no_implicit_lambda% (wp_region_lit ?_)
                      iterate 3
                        refine no_implicit_lambda% (wpl_val ?_ rfl ?_ ?_)
                        rotate_left
                        · (go_simp; (try with_reducible rfl))
                        (try simp only [Act.put, Z1, Z2, Z3, Z4, Z5, Z6])
                      iterate 3
                        refine no_implicit_lambda% (wpl_skip rfl ?_)
                        (try simp only [Act.put, Z1, Z2, Z3, Z4, Z5, Z6])
                      refine no_implicit_lambda% (wpl_val ?_ rfl ?_ ?_)
                      rotate_left
                      · (go_simp; (try with_reducible rfl))
                      (try simp only [Act.put, Z1, Z2, Z3, Z4, Z5, Z6])
                      refine no_implicit_lambda% (wpList_nil ?_)
                      go_wp2_with fail
                      go_roundw
                      case rel => exact ⟨m + 1, by go_num, by omega, D2, A, a, rfl, hS, HE⟩
                      case measure => simp [intOf]; omega
                    · have h0' : decide ((0 : Int) ≤ (k' : Int)) = true := by simp
                      by_cases hkk : k' = k
                      · subst hkk
                        have hne' : ((k' : Int) != (k' : Int)) = false := by simp
                        have HE : Hid (P.E2 (his R) B k' (m + 1) D2 A a) := hE.out.step hxh.out hd.out hv.out HD.out (fun e => ⟨.inl, fun h => h.elim id fun h => absurd (P.nxt_inj hbad.out h.2.2.2 hyes) (fun e2 => h.1 (h.2.1.trans e2.symm))⟩) ⟨.inl, fun h => h.elim id fun h => absurd h HZ.out⟩
                        clear hE HD HZ hr hyes hv
                        go_upto_region 21 with (fail)
                        refine no_implicit_lambda% (wp_region_lit ?_)
                        iterate 7
                          refine no_implicit_lambda% (wpl_val ?_ rfl ?_ ?_)
                          rotate_left
                          · (go_simp; (try with_reducible rfl))
                          (try simp only [Act.put, Z1, Z2, Z3, Z4, Z5, Z6])
                        refine no_implicit_lambda% (wpList_nil ?_)
                        go_wp2_with fail
                        go_roundw
                        case rel => exact ⟨m + 1, by go_num, by omega, D2, A, a, rfl, hS, HE⟩
                        case measure => simp [intOf]; omega
                      · have hne' : ((k' : Int) != (k : Int)) = true := by simp; omega
                        have hk9 : k' < R.length := by
                          obtain ⟨t', hby, _⟩ := hyes
                          have := P.by_lt hby
                          rwa [his_length] at this
                        have HE : Hid (P.E2 (his R) B k (m + 1) D2 (P.ins A (k, k')) a) := hE.out.step hxh.out hd.out hv.out HD.out (fun e => by
                          rw [P.mem_ins]
                          refine or_congr Iff.rfl ⟨?_, fun h => Prod.ext h.2.1 (P.nxt_inj hbad.out h.2.2.2 hyes)⟩
                          rintro rfl
                          exact ⟨Ne.symm hkk, rfl, Classical.byContradiction fun h9 => HZ.out ⟨fun h8 => h9 (.inl h8), by have : ¬ v.2 ≤ 0 := fun h8 => h9 (.inr h8); omega⟩, hyes⟩) ⟨.inl, fun h => h.elim id fun h => absurd h HZ.out⟩
                        obtain ⟨w7, hup, hS7, _⟩ := hS.putA (i := k) (k := k') (by omega) (by omega)
                        have c3 := hS.c3
                        clear hE HD HZ hr hyes hkk hS hv
                        generalize P.ins A (k, k') = A2 at *
                        go_upto_region 21 with (fail)
                        refine no_implicit_lambda% (wp_region_lit ?_)
                        iterate 7
                          refine no_implicit_lambda% (wpl_val ?_ rfl ?_ ?_)
                          rotate_left
                          · (go_simp; (try with_reducible rfl))
                          (try simp only [Act.put, Z1, Z2, Z3, Z4, Z5, Z6])
                        refine no_implicit_lambda% (wpList_nil ?_)
                        go_upto_region 22 with (fail)
                        refine no_implicit_lambda% (wp_region_lit ?_)
                        iterate 3
                          refine no_implicit_lambda% (wpl_val ?_ rfl ?_ ?_)
                          rotate_left
                          · (go_simp; (try with_reducible rfl))
                          (try simp only [Act.put, Z1, Z2, Z3, Z4, Z5, Z6])
                        refine no_implicit_lambda% (wpl_val ?_ rfl ?_ ?_)
                        rotate_left
                        · (have c0 := c3; go_simp; (try with_reducible rfl))
                        (try simp only [Act.put, Z1, Z2, Z3, Z4, Z5, Z6])
                        iterate 2
                          refine no_implicit_lambda% (wpl_val ?_ rfl ?_ ?_)
                          rotate_left
                          · (go_simp; (try with_reducible rfl))
                          (try simp only [Act.put, Z1, Z2, Z3, Z4, Z5, Z6])
                        refine wpl_val (.agg #[.int .i64 k, .int .i64 k']) rfl (run_buildE rfl (by go_simp; exact b72 k k')) ?_
                        (try simp only [Act.put, Z1, Z2, Z3, Z4, Z5, Z6])
                        refine wpl_law rfl (wp_mapUpdateE rfl rfl rfl rfl hup ?_)
                        (try simp only [Act.put, Z1, Z2, Z3, Z4, Z5, Z6])
                        refine no_implicit_lambda% (wpList_nil ?_)
                        clear hup c3
                        go_wp2_with fail
                        go_roundw
                        case rel => exact ⟨m + 1, by go_num, by omega, D2, A2, a, rfl, hS7, HE⟩
                        case measure => simp [intOf]; omega
              · obtain rfl : m = x.1.reads.length := by omega
                have HE : Hid (P.E2 (his R) B (k + 1) 0 D A a) := hE.out.next hxh.out (.inl rfl)
                clear hE hlm hxh hd hmem hok hrv
                go_wp2_with fail
                go_roundw
                case rel => exact ⟨k + 1, by go_num, by omega, D, A, a, rfl, hS, HE⟩
                case measure => simp [intOf]; omega
        · obtain rfl : k = R.length := by omega
          have hfin := Lib.hid (P.E2.fin hB.out (by rw [his_length]; exact hE.out))
          clear hE hlk
          go_wp2_with fail
          go_ret
          exact ⟨D, A, a, rfl, hS, hfin.out⟩
    · replace hj := Lib.hid hj
      replace hqB := Lib.hid hqB
      go_upto_region 3 with (fail)
      refine no_implicit_lambda% (wp_region_lit ?_)
      refine wpl_run (.tuple #[.bool true, .agg #[.int .u16 q.1.1, .int .u32 q.1.2], .int .i64 q.2]) w' rfl (by go_simp) ?_
      (try simp only [Act.put, Z1, Z2, Z3, Z4, Z5, Z6])
      refine no_implicit_lambda% (wpl_val ?_ rfl ?_ ?_)
      rotate_left
      · (go_simp; (try with_reducible rfl))
      (try simp only [Act.put, Z1, Z2, Z3, Z4, Z5, Z6])
      refine no_implicit_lambda% (wpList_nil ?_)
      clear hrun
      go_upto_region 4 with (fail)
      refine no_implicit_lambda% (wp_region_lit ?_)
      iterate 3
        refine no_implicit_lambda% (wpl_val ?_ rfl ?_ ?_)
        rotate_left
        · (go_simp; (try with_reducible rfl))
        (try simp only [Act.put, Z1, Z2, Z3, Z4, Z5, Z6])
      refine wpl_alloc 43 #[.int .u16 0, .int .u32 0] rfl rfl hz43 ?_
      (try simp only [Act.put, Z1, Z2, Z3, Z4, Z5, Z6])
      refine wpList_store_fr rfl 43 _ _ rfl w'.heap.size #[.int .u16 q.1.1, .int .u32 q.1.2] rfl rfl 43 _ (Blk.alloc_new _ _ _) zero43.2 rfl (by simp [Value.oneCell']) ?_
      intro w9 hB9 hF9
      (try simp only [Act.put, Z1, Z2, Z3, Z4, Z5, Z6])
      refine no_implicit_lambda% (wpl_val ?_ rfl ?_ ?_)
      rotate_left
      · (go_simp; (try with_reducible rfl))
      (try simp only [Act.put, Z1, Z2, Z3, Z4, Z5, Z6])
      refine no_implicit_lambda% (wpList_nil ?_)
      clear hent
      have hin' := hin.out
      have hws := hF.size
      have hS2 : GS w0 w' g ao cap R rb rd ra B D [] := hS.fr hF fun i hi => by omega
      have hb9 := box_below hF9
      have hS9 := hS2.below hb9
      have hIt9 : IxIt w9 it rb B (T.eraseIdx j) := hIt2.below hb9
      have hil9 : it < w9.heap.size := hIt9.lt
      have hlen := Lib.hid (erase_len hj.out)
      have hbl := hB9.lt
      have hnd2 : Hid (T.eraseIdx j).Nodup := (List.eraseIdx_sublist _ _).nodup hT.out.1
      generalize w'.heap.size = bx at *
      clear hIt hIt2 hF hF9 hS hS2 hb9 hws
      replace hin' := Lib.hid hin'
      obtain ⟨v, hvq⟩ : ∃ v, v = q.1 := ⟨_, rfl⟩
      have hnx := next_any hS9 q.1
      go_upto_region 5 with (fail)
      refine no_implicit_lambda% (wp_region_lit ?_)
      refine no_implicit_lambda% (wpl_val ?_ rfl ?_ ?_)
      rotate_left
      · (go_simp; (try with_reducible rfl))
      (try simp only [Act.put, Z1, Z2, Z4, Z5, Z6])
      refine wpl_val (.agg #[.int .u16 q.1.1, .int .u32 q.1.2]) rfl (run_load_cs rfl rfl hB9 Try.underlying43 rfl zero43.2) ?_
      (try simp only [Act.put, Z1, Z2, Z3, Z4, Z5, Z6])
      refine wpl_call _ _ rfl (by go_simp) _ hnx ?_
      rintro e w6 ⟨r, rfl, hr, hb6⟩
      refine ⟨_, rfl, ?_⟩
      (try simp only [Act.put, Z1, Z2, Z3, Z4, Z5, Z6])
      refine no_implicit_lambda% (wpl_val ?_ rfl ?_ ?_)
      rotate_left
      · (go_simp; (try with_reducible rfl))
      (try simp only [Act.put, Z1, Z2, Z3, Z4, Z5, Z6])
      refine no_implicit_lambda% (wpList_nil ?_)
      have hS := hS9.below hb6
      have hIt := hIt9.below hb6
      have hil : it < w6.heap.size := hIt.lt
      clear hnx hb6 hB9 hS9 hIt9 hil9 hbl hvq
      clear v
      rcases P.nxtB_cases hB.out hr with ⟨rfl, hno⟩ | ⟨k, rfl, hyes⟩
      · have HE : Hid (P.E1 (his R) B (T.eraseIdx j) D) := hT.out.2.same hT.out.1 hj.out fun k hk => absurd hk (hno k)
        clear hT hr hno hj hqB
        go_upto_region 6 with (fail)
        refine no_implicit_lambda% (wp_region_lit ?_)
        iterate 3
          refine no_implicit_lambda% (wpl_val ?_ rfl ?_ ?_)
          rotate_left
          · (go_simp; (try with_reducible rfl))
          (try simp only [Act.put, Z1, Z2, Z3, Z4, Z5, Z6])
        iterate 3
          refine no_implicit_lambda% (wpl_skip rfl ?_)
          (try simp only [Act.put, Z1, Z2, Z3, Z4, Z5, Z6])
        refine no_implicit_lambda% (wpl_val ?_ rfl ?_ ?_)
        rotate_left
        · (go_simp; (try with_reducible rfl))
        (try simp only [Act.put, Z1, Z2, Z3, Z4, Z5, Z6])
        refine no_implicit_lambda% (wpList_nil ?_)
        go_wp2_with fail
        go_roundg (T.eraseIdx j).length
        case measure => exact hlen.out
        case rel => exact ⟨T.eraseIdx j, D, rfl, hIt, hS, hil, hnd2.out, HE.out⟩
      · have h0' : decide ((0 : Int) ≤ (k : Int)) = true := by simp
        by_cases hkk : k = q.2
        · have hne' : ((k : Int) != (q.2 : Int)) = false := by simp [hkk]
          have HE : Hid (P.E1 (his R) B (T.eraseIdx j) D) := hT.out.2.same hT.out.1 hj.out fun k' hk => (P.nxt_inj hbad.out hk hyes).trans hkk
          clear hT hr hyes hj hqB hkk
          go_upto_region 6 with (fail)
          refine no_implicit_lambda% (wp_region_lit ?_)
          iterate 7
            refine no_implicit_lambda% (wpl_val ?_ rfl ?_ ?_)
            rotate_left
            · (go_simp; (try with_reducible rfl))
            (try simp only [Act.put, Z1, Z2, Z3, Z4, Z5, Z6])
          refine no_implicit_lambda% (wpList_nil ?_)
          go_wp2_with fail
          go_roundg (T.eraseIdx j).length
          case measure => exact hlen.out
          case rel => exact ⟨T.eraseIdx j, D, rfl, hIt, hS, hil, hnd2.out, HE.out⟩
        · have hne' : ((k : Int) != (q.2 : Int)) = true := by simp; omega
          have hk9 : k < R.length ∧ q.2 < R.length := by
            obtain ⟨t', hby, _⟩ := hyes
            have h1 := P.by_lt hby
            have h2 := P.by_lt ((hB.out q).1 hqB.out)
            rw [his_length] at h1 h2
            exact ⟨h1, h2⟩
          have HE : Hid (P.E1 (his R) B (T.eraseIdx j) (P.ins D (q.2, k))) := hT.out.2.hit hbad.out hT.out.1 hj.out hqB.out hyes hkk
          obtain ⟨w7, hup, hS7, hF7⟩ := hS.putD (i := q.2) (k := k) (by omega) (by omega)
          have hin2 := hin.out
          have hIt7 := hIt.fr hF7 (fun e => by have := hS.ne; omega) (fun e => by omega)
          have hil7 : it < w7.heap.size := hIt7.lt
          have c2 := hS.c2
          clear hT hr hyes hj hqB hkk hS hIt hil hF7 hin2
          generalize P.ins D (q.2, k) = D2 at *
          go_upto_region 6 with (fail)
          refine no_implicit_lambda% (wp_region_lit ?_)
          iterate 7
            refine no_implicit_lambda% (wpl_val ?_ rfl ?_ ?_)
            rotate_left
            · (go_simp; (try with_reducible rfl))
            (try simp only [Act.put, Z1, Z2, Z3, Z4, Z5, Z6])
          refine no_implicit_lambda% (wpList_nil ?_)
          go_upto_region 7 with (fail)
          refine no_implicit_lambda% (wp_region_lit ?_)
          iterate 3
            refine no_implicit_lambda% (wpl_val ?_ rfl ?_ ?_)
            rotate_left
            · (go_simp; (try with_reducible rfl))
            (try simp only [Act.put, Z1, Z2, Z3, Z4, Z5, Z6])
          refine no_implicit_lambda% (wpl_val ?_ rfl ?_ ?_)
          rotate_left
          · (have c0 := c2; go_simp; (try with_reducible rfl))
          (try simp only [Act.put, Z1, Z2, Z3, Z4, Z5, Z6])
          iterate 2
            refine no_implicit_lambda% (wpl_val ?_ rfl ?_ ?_)
            rotate_left
            · (go_simp; (try with_reducible rfl))
            (try simp only [Act.put, Z1, Z2, Z3, Z4, Z5, Z6])
          refine wpl_val (.agg #[.int .i64 q.2, .int .i64 k]) rfl (run_buildE rfl (by go_simp; exact b72 q.2 k)) ?_
          (try simp only [Act.put, Z1, Z2, Z3, Z4, Z5, Z6])
          refine wpl_law rfl (wp_mapUpdateE rfl rfl rfl rfl hup ?_)
          (try simp only [Act.put, Z1, Z2, Z3, Z4, Z5, Z6])
          refine no_implicit_lambda% (wpList_nil ?_)
          clear hup c2
          go_wp2_with fail
          go_roundg (T.eraseIdx j).length
          case measure => exact hlen.out
          case rel => exact ⟨T.eraseIdx j, D2, rfl, hIt7, hS7, hil7, hnd2.out, HE.out⟩
end Go.Proofs.Ytnemaolbmocncaa
