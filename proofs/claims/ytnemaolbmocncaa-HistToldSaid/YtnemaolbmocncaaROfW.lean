/- The walk of the document's Of. -/
import Derived.Test.YtnemaolbmocncaaROfA
namespace Go.Proofs.Ytnemaolbmocncaa
open Go.RowKit
set_option linter.unusedSimpArgs false
set_option linter.unusedVariables false
attribute [local irreducible] wpList
attribute [local irreducible] tdL
theorem run_slE {P : Program} {a : Act} {o : Oper} {w : World} {x y : Operand} {t e : TypeId} {v i r : Value} (ho : o.op = .slice t x (some y) none none) (ht : P.underlying t = some (.slice e)) (hx : a.eval x = v) (hy : a.eval y = i)
    (h : (Instr.slice t v (some i) none none).run P w = .ok r w) : (execOp a.eval o).run P w = .ok (.value r) w := by
  unfold execOp
  simp only [ho, Instr.sliceAt, Sem.run_bind, Sem.run_pure, run_underlying ht, Result.andThen_ok, Option.map_some, Option.map_none, hx, hy, h]
/-- How far a transaction has been gathered. -/
structure RI (x : Tr) (D : List Tr) (m : Nat) (a : P.Pst) : Prop where
  eq : P.rgo x.t (tds D) = ((tds (D.drop m)).foldl (P.ral x.t) (a, false)).1
  ok : Pok a
  l1 : a.reads.length ≤ m
  l2 : a.writes.length ≤ m
theorem RI.step {x : Tr} {D : List Tr} {m : Nat} {a a' : P.Pst} (h : RI x D m a) {y : Tr} (hy : D[m]? = some y) (hs : P.ral x.t (a, false) y.t = (a', false)) (hok : Pok a') (h1 : a'.reads.length ≤ m + 1) (h2 : a'.writes.length ≤ m + 1) : RI x D (m + 1) a' :=
  ⟨by rw [h.eq, ral_drop hy, hs], hok, h1, h2⟩
theorem RI.same {x : Tr} {D : List Tr} {m : Nat} {a : P.Pst} (h : RI x D m a) {y : Tr} (hy : D[m]? = some y) (hs : P.ral x.t (a, false) y.t = (a, false)) : RI x D (m + 1) a :=
  h.step hy hs h.ok (Nat.le_succ_of_le h.l1) (Nat.le_succ_of_le h.l2)
theorem RI.stop {x : Tr} {D : List Tr} {m : Nat} {a : P.Pst} (h : RI x D m a) {y : Tr} (hy : D[m]? = some y) (hs : P.ral x.t (a, false) y.t = (a, true)) : P.rgo x.t (tds D) = a := by
  rw [h.eq, ral_drop hy, hs, ral_done]
theorem RI.fin {x : Tr} {D : List Tr} {a : P.Pst} (h : RI x D D.length a) : P.rgo x.t (tds D) = a := by
  rw [h.eq, List.drop_length]; rfl
set_option maxRecDepth 100000 in
set_option maxHeartbeats 32000000 in
theorem rof_any {w : World} {ao : Option Addr} {cap : Nat} {T : List Tr} (h : TAt w ao T) (hcap : T.length ≤ cap) (hT : T.length ≤ 500) :
    Calls Try.prog 16 #[.slice ao T.length cap] w fun e w' => ∃ v R, e = .returned v ∧ OwnH w.heap.size w' v R ∧ his R = P.rof (tds T) ∧ R.length ≤ T.length ∧ Below w.heap.size w w' := by
  have hz61 := zero61''
  have hz36 := zero36.1
  have size33 := size33
  have size34 := size34
  have size32 : (Try.prog.info? 32).map (·.size) = some 1 := by kernel_rfl
  have size4 : (Try.prog.info? 4).map (·.size) = some 1 := by kernel_rfl
  have size61 : (Try.prog.info? 61).map (·.size) = some 77 := zero61.2
  obtain ⟨ie, hie, ze, se, ye⟩ := info_parts info36
  obtain ⟨iq, hiq, zq, sq, yq⟩ := info_parts info43
  obtain ⟨ip, hip, zp, sp, yp⟩ := info_parts info41
  have hH := Lib.hid h
  have h0 : Hid (Below w.heap.size w w) := Below.refl _ _
  clear h
  go_enter Try.func16, Try.ntmps16
  go_upto_region 2 with (fail)
  refine no_implicit_lambda% (wp_region_lit ?_)
  refine no_implicit_lambda% (wpl_val ?_ rfl ?_ ?_)
  rotate_left
  · (go_simp; (try with_reducible rfl))
  (try simp only [Act.put, Z1, Z2, Z4, Z5, Z6])
  refine no_implicit_lambda% (wpl_val ?_ rfl ?_ ?_)
  rotate_left
  · (go_simp; (try with_reducible rfl))
  (try simp only [Act.put, Z1, Z2, Z3, Z4, Z5, Z6])
  refine no_implicit_lambda% (wpl_val ?_ rfl ?_ ?_)
  rotate_left
  · (go_simp; (try with_reducible rfl))
  (try simp only [Act.put, Z1, Z2, Z3, Z4, Z5, Z6])
  refine no_implicit_lambda% (wpList_nil ?_)
  go_wp2_with fail
  go_loopw [12, 3] (fun i l wr => ∃ (k : Nat) (Rl : List Rec), i = .int .i64 k ∧ k ≤ T.length ∧ Below w.heap.size w wr ∧ OwnH w.heap.size wr l Rl ∧ Hid (his Rl ++ P.rof (tds (T.drop k)) = P.rof (tds T)) ∧ Hid (Rl.length ≤ k)) (fun i _ _ => T.length - (intOf i).toNat)
  case atStart => exact ⟨0, [], rfl, Nat.zero_le _, h0.out, OwnH.nil _ _, by unfold Hid; rfl, Nat.le_refl _⟩
  case round =>
    obtain ⟨k, Rl, rfl, hk, hS, hO, hfl, hRk⟩ := hrel
    by_cases hlt : k < T.length
    · have hlt' : (k : Int) < (T.length : Int) := by omega
      obtain ⟨x, hx⟩ : ∃ x, T[k]? = some x := ⟨_, List.getElem?_eq_getElem hlt⟩
      have hok := Lib.hid (hH.out.ok x (List.mem_of_getElem? hx))
      have hone := Lib.hid hok.out.all
      obtain ⟨b, o, rfl, hbl, hr⟩ := (hH.out.below hS).row k x hx
      replace hr := Lib.hid hr
      replace hx := Lib.hid hx
      go_upto_region 4 with (fail)
      refine no_implicit_lambda% (wp_region_lit ?_)
      iterate 2
        refine no_implicit_lambda% (wpl_val ?_ rfl ?_ ?_)
        rotate_left
        · (go_simp; (try with_reducible rfl))
        (try simp only [Act.put, Z1, Z2, Z3, Z4, Z5, Z6])
      refine wpList_load_mid rfl 61 _ rfl b (o + k * 77) rfl (tdL x) _ hr.out Try.underlying61 rfl (size61' x) ?_
      (try simp only [Act.put, Z1, Z2, Z3, Z4, Z5, Z6])
      refine wpl_alloc 61 (tdL noT).toArray rfl rfl hz61 ?_
      (try simp only [Act.put, Z1, Z2, Z3, Z4, Z5, Z6])
      refine no_implicit_lambda% (wpl_val ?_ rfl ?_ ?_)
      rotate_left
      · (go_simp; (try with_reducible rfl))
      (try simp only [Act.put, Z1, Z2, Z3, Z4, Z5, Z6])
      refine wpList_store_fr rfl 61 _ _ rfl wr.heap.size (tdL x).toArray rfl rfl 61 _ (Blk.alloc_new _ _ _) (Go.Proofs.Ytnemaolbmocncaa.size61 x) (by rw [List.size_toArray, List.size_toArray, tdL_length, tdL_length]) hone.out ?_
      intro w9 hB5 hF9
      (try simp only [Act.put, Z1, Z2, Z3, Z4, Z5, Z6])
      refine no_implicit_lambda% (wpList_nil ?_)
      have hb9 := box_below hF9
      replace hO := hO.below hb9
      replace hS := hS.trans (hb9.mono hS.size)
      clear hF9 hr hbl hone hb9
      generalize wr.heap.size = n5 at *
      have hcx := rcounts_any x w9
      go_upto_region 5 with (fail)
      refine no_implicit_lambda% (wp_region_lit ?_)
      refine wpl_val (.agg (tdL x).toArray) rfl (run_load_cs rfl rfl hB5 Try.underlying61 rfl (Go.Proofs.Ytnemaolbmocncaa.size61 x)) ?_
      (try simp only [Act.put, Z1, Z2, Z3, Z4, Z5, Z6])
      refine wpl_call _ _ rfl (by go_simp) _ hcx ?_
      rintro e w8 ⟨rfl, hb8⟩
      refine ⟨_, rfl, ?_⟩
      (try simp only [Act.put, Z1, Z2, Z3, Z4, Z5, Z6])
      replace hO := hO.below hb8
      replace hS := hS.trans (hb8.mono hS.size)
      replace hB5 := hB5.below hb8
      clear hcx hb8
      clear w9
      cases hcx : x.t.cnt with
      | false =>
        have hcn : Hid (¬ (x.t.cnt = true ∧ x.t.kind = 0)) := fun e => by have := e.1; rw [hcx] at this; cases this
        clear hcx
        iterate 2
          refine no_implicit_lambda% (wpl_val ?_ rfl ?_ ?_)
          rotate_left
          · (go_simp; (try with_reducible rfl))
          (try simp only [Act.put, Z1, Z2, Z3, Z4, Z5, Z6])
        iterate 4
          refine no_implicit_lambda% (wpl_skip rfl ?_)
          (try simp only [Act.put, Z1, Z2, Z3, Z4, Z5, Z6])
        refine no_implicit_lambda% (wpl_val ?_ rfl ?_ ?_)
        rotate_left
        · (go_simp; (try with_reducible rfl))
        (try simp only [Act.put, Z1, Z2, Z3, Z4, Z5, Z6])
        refine no_implicit_lambda% (wpList_nil ?_)
        have hfl2 : Hid (his Rl ++ P.rof (tds (T.drop (k + 1))) = P.rof (tds T)) := by
          have h1 := hfl.out
          rw [rof_drop hx.out, if_neg hcn.out] at h1
          exact h1
        have hRk2 : Hid (Rl.length ≤ k + 1) := Nat.le_succ_of_le hRk.out
        clear hfl hRk hx hB5
        go_wp2_with fail
        go_roundw
        case rel => exact ⟨k + 1, Rl, by go_num, by omega, hS, hO, hfl2, hRk2⟩
        case measure => simp [intOf]; omega
      | true =>
        replace hcx := Lib.hid hcx
        by_cases hkx : x.t.kind = 0
        · have hkx' : (x.t.kind != 0) = false := by simp [hkx]
          replace hkx := Lib.hid hkx
          iterate 4
            refine no_implicit_lambda% (wpl_val ?_ rfl ?_ ?_)
            rotate_left
            · (go_simp; (try with_reducible rfl))
            (try simp only [Act.put, Z1, Z2, Z3, Z4, Z5, Z6])
          refine no_implicit_lambda% (wpl_val ?_ rfl ?_ ?_)
          rotate_left
          · (have c0 := (tk hB5); go_simp; (try with_reducible rfl))
          (try simp only [Act.put, Z1, Z2, Z3, Z4, Z5, Z6])
          iterate 2
            refine no_implicit_lambda% (wpl_val ?_ rfl ?_ ?_)
            rotate_left
            · (go_simp; (try with_reducible rfl))
            (try simp only [Act.put, Z1, Z2, Z3, Z4, Z5, Z6])
          refine no_implicit_lambda% (wpList_nil ?_)
          clear hkx'
          go_upto_region 6 with (fail)
          refine no_implicit_lambda% (wp_region_lit ?_)
          iterate 2
            refine no_implicit_lambda% (wpl_val ?_ rfl ?_ ?_)
            rotate_left
            · (go_simp; (try with_reducible rfl))
            (try simp only [Act.put, Z1, Z2, Z3, Z4, Z5, Z6])
          refine no_implicit_lambda% (wpl_val ?_ rfl ?_ ?_)
          rotate_left
          · (have c0 := (ts hB5); go_simp; (try with_reducible rfl))
          (try simp only [Act.put, Z1, Z2, Z3, Z4, Z5, Z6])
          refine wpl_val (.agg (pcA (P.beg x.t, .slice none 0 0, .slice none 0 0))) rfl (run_buildE rfl (by go_simp; exact b36s _)) ?_
          (try simp only [Act.put, Z1, Z2, Z3, Z4, Z5, Z6])
          refine wpl_alloc 36 (pcA noR) rfl rfl hz36 ?_
          (try simp only [Act.put, Z1, Z2, Z3, Z4, Z5, Z6])
          refine wpList_store_fr rfl 36 _ _ rfl w8.heap.size (pcA (P.beg x.t, .slice none 0 0, .slice none 0 0)) rfl rfl 36 _ (Blk.alloc_new _ _ _) (size36 (P.beg x.t, .slice none 0 0, .slice none 0 0)) rfl (by simp [pcA, P.beg, Value.oneCell']) ?_
          intro w7 hB7 hF7
          (try simp only [Act.put, Z1, Z2, Z3, Z4, Z5, Z6])
          refine no_implicit_lambda% (wpList_nil ?_)
          have hX : QX w w7 u3 Rl w8.heap.size n5 x (P.beg x.t) (.slice none 0 0) (.slice none 0 0) :=
            ⟨(QO.start hS hO).go (box_below hF7), hB5.below (box_below hF7), hB5.lt, hB7, World.ownsRow_nil _ _ _ _, World.ownsRow_nil _ _ _ _, fun b e => by cases e⟩
          clear hS hO hB5 hB7 hF7
          generalize w8.heap.size = bx at *
          clear w8
          obtain ⟨D, hD⟩ : ∃ D, D = T.drop (k + 1) := ⟨_, rfl⟩
          obtain ⟨o', ho'⟩ : ∃ o', o' = (if cap = k + 1 then o else o + (k + 1) * 77) := ⟨_, rfl⟩
          have hDl : D.length = T.length - (k + 1) := by rw [hD, List.length_drop]
          have hsl : ∀ W, (Instr.slice 46 (.slice (some ⟨b, o, none⟩) T.length cap) (some (.int .i64 ((k : Int) + 1))) none none).run Try.prog W = .ok (.slice (some ⟨b, o', none⟩) D.length (cap - (k + 1))) W := fun W => by
            have h1 := run_slice_from_at (P := Try.prog) (t := 46) (e := 61) (size := 77) Try.underlying46 size61 (g := b) (o := o) (n := T.length) (cap := cap) (i := k + 1) hlt W
            rw [hDl, ho']
            exact h1
          have hrest : Hid (∀ W, Below w.heap.size w W → RowAt W (some ⟨b, o', none⟩) 77 tdL D) := fun W hW => by
            rw [ho', hD]
            exact rest_row (hH.out.below hW).row hcap
          have hDok : Hid (∀ y ∈ D, TrOk y) := fun y hy => hH.out.ok y (List.mem_of_mem_drop (hD ▸ hy))
          have hI : Hid (RI x D 0 (P.beg x.t)) := ⟨rfl, ⟨hok.out.rts, w32 (x := 0) ⟨by decide, by decide⟩, fun v hv => (by cases hv), fun v hv => (by cases hv), by simp [P.beg], by simp [P.beg]⟩, by simp [P.beg], by simp [P.beg]⟩
          replace hD := Lib.hid hD
          clear ho'
          go_upto_region 7 with (fail)
          refine no_implicit_lambda% (wp_region_lit ?_)
          have hw1 : IntKind.i64.wrap ((k : Int) + 1) = (k : Int) + 1 := IntWalk.i64_in _ (by omega)
          iterate 3
            refine no_implicit_lambda% (wpl_val ?_ rfl ?_ ?_)
            rotate_left
            · (go_simp; (try with_reducible rfl))
            (try simp only [Act.put, Z1, Z2, Z3, Z4, Z5, Z6])
          refine wpl_val (.slice (some ⟨b, o', none⟩) D.length (cap - (k + 1))) rfl (run_slE rfl Try.underlying46 rfl rfl (hsl w7)) ?_
          (try simp only [Act.put, Z1, Z2, Z3, Z4, Z5, Z6])
          clear hsl hw1
          refine no_implicit_lambda% (wpl_val ?_ rfl ?_ ?_)
          rotate_left
          · (go_simp; (try with_reducible rfl))
          (try simp only [Act.put, Z1, Z2, Z3, Z4, Z5, Z6])
          refine no_implicit_lambda% (wpl_val ?_ rfl ?_ ?_)
          rotate_left
          · (go_simp; (try with_reducible rfl))
          (try simp only [Act.put, Z1, Z2, Z3, Z4, Z5, Z6])
          refine no_implicit_lambda% (wpList_nil ?_)
          replace hX := Lib.hid hX
          go_wp2_with fail
          go_loopw [35] (fun i wr => ∃ (m : Nat) (a : P.Pst) (rv wv : Value), i = .int .i64 m ∧ m ≤ D.length ∧ QX w wr u3 Rl bx n5 x a rv wv ∧ Hid (RI x D m a)) (fun i _ => D.length - (intOf i).toNat)
          case atStart => exact ⟨0, _, _, _, rfl, Nat.zero_le _, hX.out, hI⟩
          case round =>
            clear hX hI
            obtain ⟨m, a, rv, wv, rfl, hm, hX, hI⟩ := hrel
            by_cases hlm : m < D.length
            · have hlm' : (m : Int) < (D.length : Int) := by omega
              obtain ⟨y, hy⟩ : ∃ y, D[m]? = some y := ⟨_, List.getElem?_eq_getElem hlm⟩
              have hoy := Lib.hid (hDok.out y (List.mem_of_getElem? hy))
              have hone := Lib.hid hoy.out.all
              obtain ⟨hbl, hr⟩ := (hrest.out wr hX.so.below).at' hy
              replace hr := Lib.hid hr
              replace hy := Lib.hid hy
              go_upto_region 9 with (fail)
              refine no_implicit_lambda% (wp_region_lit ?_)
              refine no_implicit_lambda% (wpl_val ?_ rfl ?_ ?_)
              rotate_left
              · (go_simp; (try with_reducible rfl))
              (try simp only [Act.put, Z1, Z2, Z4, Z5, Z6])
              refine wpList_load_mid rfl 61 _ rfl b (o' + m * 77) rfl (tdL y) _ hr.out Try.underlying61 rfl (size61' y) ?_
              (try simp only [Act.put, Z1, Z2, Z3, Z4, Z5, Z6])
              refine wpl_alloc 61 (tdL noT).toArray rfl rfl hz61 ?_
              (try simp only [Act.put, Z1, Z2, Z3, Z4, Z5, Z6])
              refine wpList_store_fr rfl 61 _ _ rfl wr.heap.size (tdL y).toArray rfl rfl 61 _ (Blk.alloc_new _ _ _) (Go.Proofs.Ytnemaolbmocncaa.size61 y) (by rw [List.size_toArray, List.size_toArray, tdL_length, tdL_length]) hone.out ?_
              intro w9 hB8 hF9
              (try simp only [Act.put, Z1, Z2, Z3, Z4, Z5, Z6])
              refine no_implicit_lambda% (wpList_nil ?_)
              replace hX := hX.go (box_below hF9)
              clear hF9 hr hbl hone
              generalize wr.heap.size = bt at *
              have hcy := rcounts_any y w9
              go_upto_region 10 with (fail)
              refine no_implicit_lambda% (wp_region_lit ?_)
              refine wpl_val (.agg (tdL y).toArray) rfl (run_load_cs rfl rfl hB8 Try.underlying61 rfl (Go.Proofs.Ytnemaolbmocncaa.size61 y)) ?_
              (try simp only [Act.put, Z1, Z2, Z3, Z4, Z5, Z6])
              refine wpl_call _ _ rfl (by go_simp) _ hcy ?_
              rintro e w8 ⟨rfl, hb8⟩
              refine ⟨_, rfl, ?_⟩
              (try simp only [Act.put, Z1, Z2, Z3, Z4, Z5, Z6])
              replace hX := hX.go hb8
              replace hB8 := hB8.below hb8
              clear hcy hb8
              clear w9
              cases hcy : y.t.cnt with
              | false =>
                have hoff : Hid (¬ (y.t.cnt = true ∧ y.t.life = x.t.life)) := fun e => by have := e.1; rw [hcy] at this; cases this
                clear hcy
                iterate 2
                  refine no_implicit_lambda% (wpl_val ?_ rfl ?_ ?_)
                  rotate_left
                  · (go_simp; (try with_reducible rfl))
                  (try simp only [Act.put, Z1, Z2, Z3, Z4, Z5, Z6])
                iterate 5
                  refine no_implicit_lambda% (wpl_skip rfl ?_)
                  (try simp only [Act.put, Z1, Z2, Z3, Z4, Z5, Z6])
                refine no_implicit_lambda% (wpl_val ?_ rfl ?_ ?_)
                rotate_left
                · (go_simp; (try with_reducible rfl))
                (try simp only [Act.put, Z1, Z2, Z3, Z4, Z5, Z6])
                refine no_implicit_lambda% (wpList_nil ?_)
                clear hB8
                have hI2 : Hid (RI x D (m + 1) a) := hI.out.same hy.out (P.ral_off hoff.out)
                clear hI hy
                go_wp2_with fail
                go_roundw
                case rel => exact ⟨m + 1, a, rv, wv, by go_num, by omega, hX, hI2⟩
                case measure => simp [intOf]; omega
              | true =>
                replace hcy := Lib.hid hcy
                by_cases hly : y.t.life = x.t.life
                · have hly' : (y.t.life != x.t.life) = false := by simp [hly]
                  replace hly := Lib.hid hly
                  iterate 3
                    refine no_implicit_lambda% (wpl_val ?_ rfl ?_ ?_)
                    rotate_left
                    · (go_simp; (try with_reducible rfl))
                    (try simp only [Act.put, Z1, Z2, Z3, Z4, Z5, Z6])
                  refine no_implicit_lambda% (wpl_val ?_ rfl ?_ ?_)
                  rotate_left
                  · (have c0 := (tl hB8); go_simp; (try with_reducible rfl))
                  (try simp only [Act.put, Z1, Z2, Z3, Z4, Z5, Z6])
                  refine no_implicit_lambda% (wpl_val ?_ rfl ?_ ?_)
                  rotate_left
                  · (go_simp; (try with_reducible rfl))
                  (try simp only [Act.put, Z1, Z2, Z3, Z4, Z5, Z6])
                  refine no_implicit_lambda% (wpl_val ?_ rfl ?_ ?_)
                  rotate_left
                  · (have c0 := (tl hX.b5); go_simp; (try with_reducible rfl))
                  (try simp only [Act.put, Z1, Z2, Z3, Z4, Z5, Z6])
                  iterate 2
                    refine no_implicit_lambda% (wpl_val ?_ rfl ?_ ?_)
                    rotate_left
                    · (go_simp; (try with_reducible rfl))
                    (try simp only [Act.put, Z1, Z2, Z3, Z4, Z5, Z6])
                  refine no_implicit_lambda% (wpList_nil ?_)
                  clear hly'
                  by_cases hky : y.t.kind = 0
                  · have hky' : (y.t.kind == 0) = true := by simp [hky]
                    replace hky := Lib.hid hky
                    by_cases hty : y.t.rtxn = x.t.rtxn
                    · have hty' : (y.t.rtxn == x.t.rtxn) = true := by simp [hty]
                      have hrg : Hid (P.rgo x.t (tds D) = a) := hI.out.stop hy.out (P.ral_ends hcy.out hly.out hky.out hty)
                      have hIok := Lib.hid hI.out.ok
                      replace hty := Lib.hid hty
                      go_upto_region 11 with (fail)
                      refine no_implicit_lambda% (wp_region_lit ?_)
                      iterate 2
                        refine no_implicit_lambda% (wpl_val ?_ rfl ?_ ?_)
                        rotate_left
                        · (go_simp; (try with_reducible rfl))
                        (try simp only [Act.put, Z1, Z2, Z3, Z4, Z5, Z6])
                      refine no_implicit_lambda% (wpl_val ?_ rfl ?_ ?_)
                      rotate_left
                      · (have c0 := (tk hB8); go_simp; (try with_reducible rfl))
                      (try simp only [Act.put, Z1, Z2, Z3, Z4, Z5, Z6])
                      iterate 4
                        refine no_implicit_lambda% (wpl_val ?_ rfl ?_ ?_)
                        rotate_left
                        · (go_simp; (try with_reducible rfl))
                        (try simp only [Act.put, Z1, Z2, Z3, Z4, Z5, Z6])
                      refine no_implicit_lambda% (wpl_val ?_ rfl ?_ ?_)
                      rotate_left
                      · (have c0 := (tr hB8); go_simp; (try with_reducible rfl))
                      (try simp only [Act.put, Z1, Z2, Z3, Z4, Z5, Z6])
                      iterate 2
                        refine no_implicit_lambda% (wpl_val ?_ rfl ?_ ?_)
                        rotate_left
                        · (go_simp; (try with_reducible rfl))
                        (try simp only [Act.put, Z1, Z2, Z3, Z4, Z5, Z6])
                      refine no_implicit_lambda% (wpl_val ?_ rfl ?_ ?_)
                      rotate_left
                      · (have c0 := (tr hX.b5); go_simp; (try with_reducible rfl))
                      (try simp only [Act.put, Z1, Z2, Z3, Z4, Z5, Z6])
                      iterate 2
                        refine no_implicit_lambda% (wpl_val ?_ rfl ?_ ?_)
                        rotate_left
                        · (go_simp; (try with_reducible rfl))
                        (try simp only [Act.put, Z1, Z2, Z3, Z4, Z5, Z6])
                      refine no_implicit_lambda% (wpList_nil ?_)
                      clear hI hy hty' hky' hB8 hlm hlm' hm
                      obtain ⟨wz, rfl⟩ : ∃ wz, wz = w8 := ⟨_, rfl⟩
                      have hsub : SubAt wz (a, rv, wv) := ⟨own_rowIn (f := seC) (sz := 2) (fun _ => rfl) hX.rd, own_rowIn (f := pgC) (sz := 1) (fun _ => rfl) hX.wt, hIok.out⟩
                      have hap : ∀ b, vblk ((a, rv, wv) : Rec).2.1 = some b ∨ vblk ((a, rv, wv) : Rec).2.2 = some b → u3.ownBlock ≠ some b := fun b hb e => by
                        have h1 := hX.so.lt.1 b e
                        rcases hb with hb | hb
                        · have := (hX.rd.lt b (own_vblk hX.rd hb)).1; omega
                        · have := (hX.wt.lt b (own_vblk hX.wt hb)).1; omega
                      have hfl2 : Hid (his (Rl ++ [((a, rv, wv) : Rec)]) ++ P.rof (tds (T.drop (k + 1))) = P.rof (tds T)) := by
                        have h1 := hfl.out
                        rw [rof_drop hx.out, if_pos ⟨hcx.out, hkx.out⟩, ← hD.out, hrg.out] at h1
                        unfold Hid
                        rw [← h1, his, List.map_append, ← his, List.append_assoc, ← hD.out]; rfl
                      have hRk2 : Hid ((Rl ++ [((a, rv, wv) : Rec)]).length ≤ k + 1) := by unfold Hid; rw [List.length_append]; have := hRk.out; simp; omega
                      have hRl := hRk.out
                      have hbox := hX.box
                      have hso := hX.so
                      have hone := Lib.hid hsub.one
                      clear hX hfl hRk hrg
                      generalize hx0 : ((a, rv, wv) : Rec) = x0 at *
                      replace hx0 := Lib.hid hx0
                      replace hap := Lib.hid hap
                      go_upto_region 26 with (fail)
                      refine no_implicit_lambda% (wp_region_lit ?_)
                      refine no_implicit_lambda% (wpl_val ?_ rfl ?_ ?_)
                      rotate_left
                      · (go_simp; (try with_reducible rfl))
                      (try simp only [Act.put, Z1, Z2, Z4, Z5, Z6])
                      refine wpl_val (.agg (pcA x0)) rfl (run_load_cs rfl rfl hbox Try.underlying36 rfl (size36 x0)) ?_
                      (try simp only [Act.put, Z1, Z2, Z3, Z4, Z5, Z6])
                      refine wpl_law rfl (wp_buildSlice 22 36 1 _ rfl (pcA x0) ie _ Try.underlying22 hie ze (by rw [se]; decide) (by rw [se]; decide) ?c1 ?_)
                      case c1 => (simp only [se, List.map_toArray, List.map_cons, List.map_nil]; exact fill36 _)
                      have hlit : Blk (wz.alloc (.cells (pcA x0) 36)) wz.heap.size (pcL x0).toArray 36 := Blk.alloc_new _ _ _
                      have al := (Below.refl wz.heap.size wz).alloc (Nat.le_refl _) (.cells (pcA x0) 36)
                      have hsub4 := hsub.below al
                      have hso4 := hso.go al
                      clear al hsub hso hbox
                      (try simp only [Act.put, Z1, Z2, Z3, Z4, Z5, Z6])
                      generalize wz.alloc (.cells (pcA x0) 36) = U at *
                      generalize wz.heap.size = lb at *
                      have hlo4 := hso4.lo
                      refine wpl_law rfl (wp_append_src _ _ 22 rfl w.heap.size 36 ie _ 5 64 Try.underlying22 hie ze se ye rfl (by decide) u3 Rl.length _ rfl hso4.own.own _ 1 (pcL x0) rfl (src_blk hlit) (pcL_length _) (fun u hu => by have := hone.out; rw [Array.all_eq_true_iff_forall_mem] at this; exact this u (by simpa [pcA, pcL] using hu)) ?_ ?_ ?_ ?_)
                      · unfold maxLen; omega
                      · omega
                      · omega
                      intro v7 W7 own7 gr7 _ hloc7
                      have hO7 := hso4.own.push hsub4 hap.out own7 gr7 hloc7
                      have hS7 : Below w.heap.size w W7 := Fr.below hso4.below (Fr.of_grown gr7) (Nat.le_refl _) fun i e => (hso4.own.own.lt i e).1
                      clear hso4 hsub4 hap own7 gr7 hloc7 hlit hone hlo4 hx0
                      (try simp only [Act.put, Z1, Z2, Z3, Z4, Z5, Z6])
                      refine no_implicit_lambda% (wpl_val ?_ rfl ?_ ?_)
                      rotate_left
                      · (go_simp; (try with_reducible rfl))
                      (try simp only [Act.put, Z1, Z2, Z3, Z4, Z5, Z6])
                      refine no_implicit_lambda% (wpList_nil ?_)
                      generalize Rl ++ [x0] = Rl2 at *
                      go_wp2_with fail
                      go_roundw
                      case rel => exact ⟨k + 1, Rl2, by go_num, by omega, hS7, hO7, hfl2, hRk2⟩
                      case measure => simp [intOf]; omega
                    · have hty' : (y.t.rtxn == x.t.rtxn) = false := by simp [hty]
                      replace hty := Lib.hid hty
                      go_upto_region 11 with (fail)
                      refine no_implicit_lambda% (wp_region_lit ?_)
                      iterate 2
                        refine no_implicit_lambda% (wpl_val ?_ rfl ?_ ?_)
                        rotate_left
                        · (go_simp; (try with_reducible rfl))
                        (try simp only [Act.put, Z1, Z2, Z3, Z4, Z5, Z6])
                      refine no_implicit_lambda% (wpl_val ?_ rfl ?_ ?_)
                      rotate_left
                      · (have c0 := (tk hB8); go_simp; (try with_reducible rfl))
                      (try simp only [Act.put, Z1, Z2, Z3, Z4, Z5, Z6])
                      iterate 4
                        refine no_implicit_lambda% (wpl_val ?_ rfl ?_ ?_)
                        rotate_left
                        · (go_simp; (try with_reducible rfl))
                        (try simp only [Act.put, Z1, Z2, Z3, Z4, Z5, Z6])
                      refine no_implicit_lambda% (wpl_val ?_ rfl ?_ ?_)
                      rotate_left
                      · (have c0 := (tr hB8); go_simp; (try with_reducible rfl))
                      (try simp only [Act.put, Z1, Z2, Z3, Z4, Z5, Z6])
                      iterate 2
                        refine no_implicit_lambda% (wpl_val ?_ rfl ?_ ?_)
                        rotate_left
                        · (go_simp; (try with_reducible rfl))
                        (try simp only [Act.put, Z1, Z2, Z3, Z4, Z5, Z6])
                      refine no_implicit_lambda% (wpl_val ?_ rfl ?_ ?_)
                      rotate_left
                      · (have c0 := (tr hX.b5); go_simp; (try with_reducible rfl))
                      (try simp only [Act.put, Z1, Z2, Z3, Z4, Z5, Z6])
                      iterate 2
                        refine no_implicit_lambda% (wpl_val ?_ rfl ?_ ?_)
                        rotate_left
                        · (go_simp; (try with_reducible rfl))
                        (try simp only [Act.put, Z1, Z2, Z3, Z4, Z5, Z6])
                      refine no_implicit_lambda% (wpList_nil ?_)
                      clear hty'
                      go_upto_region 12 with (fail)
                      refine no_implicit_lambda% (wp_region_lit ?_)
                      iterate 2
                        refine no_implicit_lambda% (wpl_val ?_ rfl ?_ ?_)
                        rotate_left
                        · (go_simp; (try with_reducible rfl))
                        (try simp only [Act.put, Z1, Z2, Z3, Z4, Z5, Z6])
                      refine no_implicit_lambda% (wpl_val ?_ rfl ?_ ?_)
                      rotate_left
                      · (have c0 := (tk hB8); go_simp; (try with_reducible rfl))
                      (try simp only [Act.put, Z1, Z2, Z3, Z4, Z5, Z6])
                      iterate 2
                        refine no_implicit_lambda% (wpl_val ?_ rfl ?_ ?_)
                        rotate_left
                        · (go_simp; (try with_reducible rfl))
                        (try simp only [Act.put, Z1, Z2, Z3, Z4, Z5, Z6])
                      iterate 7
                        refine no_implicit_lambda% (wpl_skip rfl ?_)
                        (try simp only [Act.put, Z1, Z2, Z3, Z4, Z5, Z6])
                      refine no_implicit_lambda% (wpl_val ?_ rfl ?_ ?_)
                      rotate_left
                      · (go_simp; (try with_reducible rfl))
                      (try simp only [Act.put, Z1, Z2, Z3, Z4, Z5, Z6])
                      refine no_implicit_lambda% (wpList_nil ?_)
                      clear hky' hB8
                      have hI2 : Hid (RI x D (m + 1) a) := hI.out.same hy.out (P.ral_beg hky.out hty.out)
                      clear hI hy
                      go_wp2_with fail
                      go_roundw
                      case rel => exact ⟨m + 1, a, rv, wv, by go_num, by omega, hX, hI2⟩
                      case measure => simp [intOf]; omega
                  · have hky' : (y.t.kind == 0) = false := by simp [hky]
                    replace hky := Lib.hid hky
                    go_upto_region 11 with (fail)
                    refine no_implicit_lambda% (wp_region_lit ?_)
                    iterate 2
                      refine no_implicit_lambda% (wpl_val ?_ rfl ?_ ?_)
                      rotate_left
                      · (go_simp; (try with_reducible rfl))
                      (try simp only [Act.put, Z1, Z2, Z3, Z4, Z5, Z6])
                    refine no_implicit_lambda% (wpl_val ?_ rfl ?_ ?_)
                    rotate_left
                    · (have c0 := (tk hB8); go_simp; (try with_reducible rfl))
                    (try simp only [Act.put, Z1, Z2, Z3, Z4, Z5, Z6])
                    iterate 2
                      refine no_implicit_lambda% (wpl_val ?_ rfl ?_ ?_)
                      rotate_left
                      · (go_simp; (try with_reducible rfl))
                      (try simp only [Act.put, Z1, Z2, Z3, Z4, Z5, Z6])
                    iterate 7
                      refine no_implicit_lambda% (wpl_skip rfl ?_)
                      (try simp only [Act.put, Z1, Z2, Z3, Z4, Z5, Z6])
                    refine no_implicit_lambda% (wpl_val ?_ rfl ?_ ?_)
                    rotate_left
                    · (go_simp; (try with_reducible rfl))
                    (try simp only [Act.put, Z1, Z2, Z3, Z4, Z5, Z6])
                    refine no_implicit_lambda% (wpList_nil ?_)
                    by_cases hty : y.t.txn = x.t.rtxn
                    · have hty' : (y.t.txn != x.t.rtxn) = false := by simp [hty]
                      replace hty := Lib.hid hty
                      go_upto_region 12 with (fail)
                      refine no_implicit_lambda% (wp_region_lit ?_)
                      iterate 2
                        refine no_implicit_lambda% (wpl_val ?_ rfl ?_ ?_)
                        rotate_left
                        · (go_simp; (try with_reducible rfl))
                        (try simp only [Act.put, Z1, Z2, Z3, Z4, Z5, Z6])
                      refine no_implicit_lambda% (wpl_val ?_ rfl ?_ ?_)
                      rotate_left
                      · (have c0 := (tk hB8); go_simp; (try with_reducible rfl))
                      (try simp only [Act.put, Z1, Z2, Z3, Z4, Z5, Z6])
                      iterate 4
                        refine no_implicit_lambda% (wpl_val ?_ rfl ?_ ?_)
                        rotate_left
                        · (go_simp; (try with_reducible rfl))
                        (try simp only [Act.put, Z1, Z2, Z3, Z4, Z5, Z6])
                      refine no_implicit_lambda% (wpl_val ?_ rfl ?_ ?_)
                      rotate_left
                      · (have c0 := (tt hB8); go_simp; (try with_reducible rfl))
                      (try simp only [Act.put, Z1, Z2, Z3, Z4, Z5, Z6])
                      iterate 2
                        refine no_implicit_lambda% (wpl_val ?_ rfl ?_ ?_)
                        rotate_left
                        · (go_simp; (try with_reducible rfl))
                        (try simp only [Act.put, Z1, Z2, Z3, Z4, Z5, Z6])
                      refine no_implicit_lambda% (wpl_val ?_ rfl ?_ ?_)
                      rotate_left
                      · (have c0 := (tr hX.b5); go_simp; (try with_reducible rfl))
                      (try simp only [Act.put, Z1, Z2, Z3, Z4, Z5, Z6])
                      iterate 2
                        refine no_implicit_lambda% (wpl_val ?_ rfl ?_ ?_)
                        rotate_left
                        · (go_simp; (try with_reducible rfl))
                        (try simp only [Act.put, Z1, Z2, Z3, Z4, Z5, Z6])
                      refine no_implicit_lambda% (wpList_nil ?_)
                      clear hky' hty'
                      have hup := Lib.hid (P.ral_upd (a := a) hcy.out hly.out hky.out hty.out)
                      clear hcy hly hky hty
                      obtain ⟨aow, capw, hwv, hcw, hrw⟩ := own_rowIn (f := pgC) (sz := 1) (fun _ => rfl) hX.wt
                      have c4 : w8.cell? ⟨bx, 4, none⟩ = some (.slice aow a.writes.length capw) := by rw [← hwv, hX.box.cell]; rfl
                      have hca := rhas_any (cap := capw) hrw (by have := hI.out.l2; omega) y.t.page
                      replace hwv := Lib.hid hwv
                      go_upto_region 13 with (fail)
                      refine no_implicit_lambda% (wp_region_lit ?_)
                      refine no_implicit_lambda% (wpl_val ?_ rfl ?_ ?_)
                      rotate_left
                      · (go_simp; (try with_reducible rfl))
                      (try simp only [Act.put, Z1, Z2, Z4, Z5, Z6])
                      refine no_implicit_lambda% (wpl_val ?_ rfl ?_ ?_)
                      rotate_left
                      · (have c0 := c4; go_simp; (try with_reducible rfl))
                      (try simp only [Act.put, Z1, Z2, Z3, Z4, Z5, Z6])
                      iterate 2
                        refine no_implicit_lambda% (wpl_val ?_ rfl ?_ ?_)
                        rotate_left
                        · (go_simp; (try with_reducible rfl))
                        (try simp only [Act.put, Z1, Z2, Z3, Z4, Z5, Z6])
                      refine no_implicit_lambda% (wpl_val ?_ rfl ?_ ?_)
                      rotate_left
                      · (have c0 := (tp hB8); go_simp; (try with_reducible rfl))
                      (try simp only [Act.put, Z1, Z2, Z3, Z4, Z5, Z6])
                      refine wpl_call _ _ rfl (by go_simp) _ hca ?_
                      rintro e w6 ⟨rfl, hb6⟩
                      refine ⟨_, rfl, ?_⟩
                      (try simp only [Act.put, Z1, Z2, Z3, Z4, Z5, Z6])
                      replace hX := hX.go hb6
                      replace hB8 := hB8.below hb6
                      clear hca hb6 hrw c4
                      clear w8
                      refine no_implicit_lambda% (wpl_val ?_ rfl ?_ ?_)
                      rotate_left
                      · (go_simp; (try with_reducible rfl))
                      (try simp only [Act.put, Z1, Z2, Z3, Z4, Z5, Z6])
                      refine no_implicit_lambda% (wpList_nil ?_)
                      go_upto_region 14 with (fail)
                      refine no_implicit_lambda% (wp_region_lit ?_)
                      iterate 2
                        refine no_implicit_lambda% (wpl_val ?_ rfl ?_ ?_)
                        rotate_left
                        · (go_simp; (try with_reducible rfl))
                        (try simp only [Act.put, Z1, Z2, Z3, Z4, Z5, Z6])
                      refine no_implicit_lambda% (wpl_val ?_ rfl ?_ ?_)
                      rotate_left
                      · (have c0 := (tk hB8); go_simp; (try with_reducible rfl))
                      (try simp only [Act.put, Z1, Z2, Z3, Z4, Z5, Z6])
                      refine no_implicit_lambda% (wpList_nil ?_)
                      by_cases hk1 : y.t.kind = 1
                      · have hk1' : (y.t.kind == 1) = true := by simp [hk1]
                        replace hk1 := Lib.hid hk1
                        cases hm : decide (y.t.page ∈ a.writes) with
                        | true =>
                          replace hm := Lib.hid (of_decide_eq_true hm)
                          clear hB8
                          have hI2 : Hid (RI x D (m + 1) a) := hI.out.same hy.out (by rw [hup.out, upd_rd' hk1.out hm.out])
                          clear hI hy
                          go_wp2_with fail
                          go_roundw
                          case rel => exact ⟨m + 1, a, rv, wv, by go_num, by omega, hX, hI2⟩
                          case measure => simp [intOf]; omega
                        | false =>
                          replace hm := Lib.hid (of_decide_eq_false hm)
                          go_upto_region 17 with (fail)
                          refine no_implicit_lambda% (wp_region_lit ?_)
                          refine no_implicit_lambda% (wpl_val ?_ rfl ?_ ?_)
                          rotate_left
                          · (go_simp; (try with_reducible rfl))
                          (try simp only [Act.put, Z1, Z2, Z4, Z5, Z6])
                          refine no_implicit_lambda% (wpl_val ?_ rfl ?_ ?_)
                          rotate_left
                          · (have c0 := (show w6.cell? ⟨bx, 3, none⟩ = some rv by rw [hX.box.cell]; rfl); go_simp; (try with_reducible rfl))
                          (try simp only [Act.put, Z1, Z2, Z3, Z4, Z5, Z6])
                          iterate 2
                            refine no_implicit_lambda% (wpl_val ?_ rfl ?_ ?_)
                            rotate_left
                            · (go_simp; (try with_reducible rfl))
                            (try simp only [Act.put, Z1, Z2, Z3, Z4, Z5, Z6])
                          refine no_implicit_lambda% (wpl_val ?_ rfl ?_ ?_)
                          rotate_left
                          · (have c0 := (tp hB8); go_simp; (try with_reducible rfl))
                          (try simp only [Act.put, Z1, Z2, Z3, Z4, Z5, Z6])
                          iterate 2
                            refine no_implicit_lambda% (wpl_val ?_ rfl ?_ ?_)
                            rotate_left
                            · (go_simp; (try with_reducible rfl))
                            (try simp only [Act.put, Z1, Z2, Z3, Z4, Z5, Z6])
                          refine no_implicit_lambda% (wpl_val ?_ rfl ?_ ?_)
                          rotate_left
                          · (have c0 := (ts hB8); go_simp; (try with_reducible rfl))
                          (try simp only [Act.put, Z1, Z2, Z3, Z4, Z5, Z6])
                          refine wpl_val (.agg #[.int .u16 y.t.page, .int .u32 y.t.rts]) rfl (run_buildE rfl (by go_simp; exact b43 y.t.page y.t.rts)) ?_
                          (try simp only [Act.put, Z1, Z2, Z3, Z4, Z5, Z6])
                          refine wpl_law rfl (wp_buildSlice 33 43 1 _ rfl #[.int .u16 y.t.page, .int .u32 y.t.rts] iq _ Try.underlying33 hiq zq (by rw [sq]; decide) (by rw [sq]; decide) ?c1 ?_)
                          case c1 => (simp only [sq, List.map_toArray, List.map_cons, List.map_nil]; exact fill43s y.t.page y.t.rts)
                          have hlit : Blk (w6.alloc (.cells #[.int .u16 y.t.page, .int .u32 y.t.rts] 43)) w6.heap.size (seC (y.t.page, y.t.rts)).toArray 43 := Blk.alloc_new _ _ _
                          have hX1 := hX.go ((Below.refl w6.heap.size w6).alloc (Nat.le_refl _) (.cells #[.int .u16 y.t.page, .int .u32 y.t.rts] 43))
                          clear hX hB8 hk1'
                          (try simp only [Act.put, Z1, Z2, Z3, Z4, Z5, Z6])
                          generalize w6.alloc (.cells #[.int .u16 y.t.page, .int .u32 y.t.rts] 43) = V1 at *
                          generalize w6.heap.size = lb at *
                          have hlx := hI.out.l1
                          have hbl := hX1.box.lt
                          refine wpl_law rfl (wp_append_src _ _ 33 rfl (bx + 1) 43 iq _ 2 8 Try.underlying33 hiq zq sq yq rfl (by decide) rv a.reads.length _ rfl hX1.rd _ 1 (seC (y.t.page, y.t.rts)) rfl (src_blk hlit) rfl (fun u hu => by simp [seC] at hu; rcases hu with rfl | rfl <;> rfl) ?_ ?_ ?_ ?_)
                          · unfold maxLen; omega
                          · omega
                          · omega
                          intro v3 W3 own3 gr3 _ hl3
                          have hX3 := hX1.putR own3 gr3 hl3
                          have hbox3 := hX1.box.fr (Fr.of_grown gr3) fun e => by have := (hX1.rd.lt bx e).1; omega
                          (try simp only [Act.put, Z1, Z2, Z3, Z4, Z5, Z6])
                          refine no_implicit_lambda% (wpl_val ?_ rfl ?_ ?_)
                          rotate_left
                          · (go_simp; (try with_reducible rfl))
                          (try simp only [Act.put, Z1, Z2, Z3, Z4, Z5, Z6])
                          refine wpl_law rfl (wp_store_one 33 _ _ rfl ⟨bx, 3, none⟩ rv v3 rfl rfl size33 (own_one own3) (by rw [hbox3.cell]; rfl) (hbox3.free 3) ?_)
                          (try simp only [Act.put, Z1, Z2, Z3, Z4, Z5, Z6])
                          refine no_implicit_lambda% (wpList_nil ?_)
                          have hI2 : Hid (RI x D (m + 1) { a with reads := a.reads ++ [(y.t.page, y.t.rts)] }) := by
                            have h0 := hI.out.ok
                            refine hI.out.step hy.out (by rw [hup.out, upd_rd hk1.out hm.out]) ⟨h0.start, h0.commit, fun v hv => ?_, h0.writes, ?_, h0.wl⟩ ?_ (Nat.le_succ_of_le hI.out.l2)
                            · rcases List.mem_append.1 hv with hv | hv
                              · exact h0.reads v hv
                              · rw [List.mem_singleton.1 hv]; exact ⟨hoy.out.page, hoy.out.rts⟩
                            · show (a.reads ++ [(y.t.page, y.t.rts)]).length ≤ 1000
                              rw [List.length_append]; simp; omega
                            · show (a.reads ++ [(y.t.page, y.t.rts)]).length ≤ m + 1
                              rw [List.length_append]; simp; omega
                          clear hI hy hX1 own3 gr3 hl3 hbox3 hlit hup hlx hbl hwv hcw
                          generalize W3.setCell ⟨bx, 3, none⟩ v3 = W4 at *
                          go_wp2_with fail
                          go_roundw
                          case rel => exact ⟨m + 1, _, v3, wv, by go_num, by omega, hX3, hI2⟩
                          case measure => simp [intOf]; omega
                      · have hk1' : (y.t.kind == 1) = false := by simp [hk1]
                        replace hk1 := Lib.hid hk1
                        by_cases hk2 : y.t.kind = 2
                        · have hk2' : (y.t.kind == 2) = true := by simp [hk2]
                          replace hk2 := Lib.hid hk2
                          cases hm : decide (y.t.page ∈ a.writes) with
                          | true =>
                            replace hm := Lib.hid (of_decide_eq_true hm)
                            clear hB8
                            have hI2 : Hid (RI x D (m + 1) a) := hI.out.same hy.out (by rw [hup.out, upd_wt' hk2.out hm.out])
                            clear hI hy
                            go_wp2_with fail
                            go_roundw
                            case rel => exact ⟨m + 1, a, rv, wv, by go_num, by omega, hX, hI2⟩
                            case measure => simp [intOf]; omega
                          | false =>
                            replace hm := Lib.hid (of_decide_eq_false hm)
                            go_upto_region 20 with (fail)
                            refine no_implicit_lambda% (wp_region_lit ?_)
                            refine no_implicit_lambda% (wpl_val ?_ rfl ?_ ?_)
                            rotate_left
                            · (go_simp; (try with_reducible rfl))
                            (try simp only [Act.put, Z1, Z2, Z4, Z5, Z6])
                            refine no_implicit_lambda% (wpl_val ?_ rfl ?_ ?_)
                            rotate_left
                            · (have c0 := (show w6.cell? ⟨bx, 4, none⟩ = some wv by rw [hX.box.cell]; rfl); go_simp; (try with_reducible rfl))
                            (try simp only [Act.put, Z1, Z2, Z3, Z4, Z5, Z6])
                            iterate 2
                              refine no_implicit_lambda% (wpl_val ?_ rfl ?_ ?_)
                              rotate_left
                              · (go_simp; (try with_reducible rfl))
                              (try simp only [Act.put, Z1, Z2, Z3, Z4, Z5, Z6])
                            refine no_implicit_lambda% (wpl_val ?_ rfl ?_ ?_)
                            rotate_left
                            · (have c0 := (tp hB8); go_simp; (try with_reducible rfl))
                            (try simp only [Act.put, Z1, Z2, Z3, Z4, Z5, Z6])
                            refine wpl_law rfl (wp_buildSlice 34 41 1 _ rfl #[.int .u16 y.t.page] ip _ Try.underlying34 hip zp (by rw [sp]; decide) (by rw [sp]; decide) ?c1 ?_)
                            case c1 => (simp only [sp, List.map_toArray, List.map_cons, List.map_nil]; exact fill41 y.t.page)
                            have hlit : Blk (w6.alloc (.cells #[.int .u16 y.t.page] 41)) w6.heap.size (pgC y.t.page).toArray 41 := Blk.alloc_new _ _ _
                            have hX1 := hX.go ((Below.refl w6.heap.size w6).alloc (Nat.le_refl _) (.cells #[.int .u16 y.t.page] 41))
                            clear hX hB8 hk1' hk2'
                            (try simp only [Act.put, Z1, Z2, Z3, Z4, Z5, Z6])
                            generalize w6.alloc (.cells #[.int .u16 y.t.page] 41) = V1 at *
                            generalize w6.heap.size = lb at *
                            have hlx := hI.out.l2
                            have hbl := hX1.box.lt
                            refine wpl_law rfl (wp_append_src _ _ 34 rfl (bx + 1) 41 ip _ 1 2 Try.underlying34 hip zp sp yp rfl (by decide) wv a.writes.length _ rfl hX1.wt _ 1 (pgC y.t.page) rfl (src_blk hlit) rfl (fun u hu => by simp [pgC] at hu; rw [hu]; rfl) ?_ ?_ ?_ ?_)
                            · unfold maxLen; omega
                            · omega
                            · omega
                            intro v3 W3 own3 gr3 _ hl3
                            have hX3 := hX1.putW own3 gr3 hl3
                            have hbox3 := hX1.box.fr (Fr.of_grown gr3) fun e => by have := (hX1.wt.lt bx e).1; omega
                            (try simp only [Act.put, Z1, Z2, Z3, Z4, Z5, Z6])
                            refine no_implicit_lambda% (wpl_val ?_ rfl ?_ ?_)
                            rotate_left
                            · (go_simp; (try with_reducible rfl))
                            (try simp only [Act.put, Z1, Z2, Z3, Z4, Z5, Z6])
                            refine wpl_law rfl (wp_store_one 34 _ _ rfl ⟨bx, 4, none⟩ wv v3 rfl rfl size34 (own_one own3) (by rw [hbox3.cell]; rfl) (hbox3.free 4) ?_)
                            (try simp only [Act.put, Z1, Z2, Z3, Z4, Z5, Z6])
                            refine no_implicit_lambda% (wpList_nil ?_)
                            have hI2 : Hid (RI x D (m + 1) { a with writes := a.writes ++ [y.t.page] }) := by
                              have h0 := hI.out.ok
                              refine hI.out.step hy.out (by rw [hup.out, upd_wt hk2.out hm.out]) ⟨h0.start, h0.commit, h0.reads, fun p hp => ?_, h0.rl, ?_⟩ (Nat.le_succ_of_le hI.out.l1) ?_
                              · rcases List.mem_append.1 hp with hp | hp
                                · exact h0.writes p hp
                                · rw [List.mem_singleton.1 hp]; exact hoy.out.page
                              · show (a.writes ++ [y.t.page]).length ≤ 1000
                                rw [List.length_append]; simp; omega
                              · show (a.writes ++ [y.t.page]).length ≤ m + 1
                                rw [List.length_append]; simp; omega
                            clear hI hy hX1 own3 gr3 hl3 hbox3 hlit hup hlx hbl hwv hcw
                            generalize W3.setCell ⟨bx, 4, none⟩ v3 = W4 at *
                            go_wp2_with fail
                            go_roundw
                            case rel => exact ⟨m + 1, _, rv, v3, by go_num, by omega, hX3, hI2⟩
                            case measure => simp [intOf]; omega
                        · have hk2' : (y.t.kind == 2) = false := by simp [hk2]
                          replace hk2 := Lib.hid hk2
                          by_cases hk3 : y.t.kind = 3
                          · have hk3' : (y.t.kind == 3) = true := by simp [hk3]
                            replace hk3 := Lib.hid hk3
                            have hX1 := hX.set 2 (.bool true) (a' := { a with done := true }) rfl rfl rfl
                            go_upto_region 22 with (fail)
                            refine no_implicit_lambda% (wp_region_lit ?_)
                            refine no_implicit_lambda% (wpl_val ?_ rfl ?_ ?_)
                            rotate_left
                            · (go_simp; (try with_reducible rfl))
                            (try simp only [Act.put, Z1, Z2, Z4, Z5, Z6])
                            refine wpl_law rfl (wp_store_one 4 _ _ rfl ⟨bx, 2, none⟩ (.bool a.done) (.bool true) rfl rfl size4 rfl (by rw [hX.box.cell]; rfl) (hX.box.free 2) ?_)
                            (try simp only [Act.put, Z1, Z2, Z3, Z4, Z5, Z6])
                            refine no_implicit_lambda% (wpList_nil ?_)
                            have hB9 := hB8.fr ((Fr.refl (fun b => b = bx) w6).setCell ⟨bx, 2, none⟩ (.bool true) fun _ => rfl) (fun e => by have h1 : w6.heap[bt]? = some (.cells (tdL y).toArray 61 (0, 0)) := hB8; have h2 : w6.heap[bx]? = some (.cells (pcA (a, rv, wv)) 36 (0, 0)) := hX.box; rw [e, h2] at h1; injection h1 with h1; injection h1 with _ h1; exact absurd h1 (by decide))
                            clear hX hB8 hk1' hk2' hk3'
                            generalize w6.setCell ⟨bx, 2, none⟩ (.bool true) = W2 at *
                            have c4 : W2.cell? ⟨bx, 4, none⟩ = some (.slice aow a.writes.length capw) := by rw [← hwv.out, hX1.box.cell]; rfl
                            have hI0 := Lib.hid hI.out.ok
                            by_cases hw0 : 0 < a.writes.length
                            · have d1 : (0 : Int) < (a.writes.length : Int) := by omega
                              have d2 : decide ((0 : Int) < (a.writes.length : Int)) = true := decide_eq_true d1
                              go_upto_region 23 with (fail)
                              refine no_implicit_lambda% (wp_region_lit ?_)
                              refine no_implicit_lambda% (wpl_val ?_ rfl ?_ ?_)
                              rotate_left
                              · (go_simp; (try with_reducible rfl))
                              (try simp only [Act.put, Z1, Z2, Z4, Z5, Z6])
                              refine no_implicit_lambda% (wpl_val ?_ rfl ?_ ?_)
                              rotate_left
                              · (have c0 := c4; go_simp; (try with_reducible rfl))
                              (try simp only [Act.put, Z1, Z2, Z3, Z4, Z5, Z6])
                              refine no_implicit_lambda% (wpl_val ?_ rfl ?_ ?_)
                              rotate_left
                              · (go_simp; (try with_reducible rfl))
                              (try simp only [Act.put, Z1, Z2, Z3, Z4, Z5, Z6])
                              refine no_implicit_lambda% (wpl_val ?_ rfl ?_ ?_)
                              rotate_left
                              · (go_simp; (try with_reducible rfl))
                              (try simp only [Act.put, Z1, Z2, Z3, Z4, Z5, Z6])
                              refine no_implicit_lambda% (wpList_nil ?_)
                              clear c4 d1 d2
                              have hX2 := hX1.set 1 (.int .u32 y.t.rts) (a' := { a with done := true, commit := y.t.rts }) rfl rfl rfl
                              go_upto_region 24 with (fail)
                              refine no_implicit_lambda% (wp_region_lit ?_)
                              iterate 2
                                refine no_implicit_lambda% (wpl_val ?_ rfl ?_ ?_)
                                rotate_left
                                · (go_simp; (try with_reducible rfl))
                                (try simp only [Act.put, Z1, Z2, Z3, Z4, Z5, Z6])
                              refine no_implicit_lambda% (wpl_val ?_ rfl ?_ ?_)
                              rotate_left
                              · (have c0 := (ts hB9); go_simp; (try with_reducible rfl))
                              (try simp only [Act.put, Z1, Z2, Z3, Z4, Z5, Z6])
                              refine no_implicit_lambda% (wpl_val ?_ rfl ?_ ?_)
                              rotate_left
                              · (go_simp; (try with_reducible rfl))
                              (try simp only [Act.put, Z1, Z2, Z3, Z4, Z5, Z6])
                              refine wpl_law rfl (wp_store_one 32 _ _ rfl ⟨bx, 1, none⟩ (.int .u32 a.commit) (.int .u32 y.t.rts) rfl rfl size32 rfl (by rw [hX1.box.cell]; rfl) (hX1.box.free 1) ?_)
                              (try simp only [Act.put, Z1, Z2, Z3, Z4, Z5, Z6])
                              refine no_implicit_lambda% (wpList_nil ?_)
                              have hI2 : Hid (RI x D (m + 1) { a with done := true, commit := y.t.rts }) := hI.out.step hy.out (by rw [hup.out, upd_cm hk3.out, if_pos hw0]) ⟨hI0.out.start, hoy.out.rts, hI0.out.reads, hI0.out.writes, hI0.out.rl, hI0.out.wl⟩ (Nat.le_succ_of_le hI.out.l1) (Nat.le_succ_of_le hI.out.l2)
                              clear hI hy hX1 hB9 hup hwv hcw hw0
                              generalize W2.setCell ⟨bx, 1, none⟩ (.int .u32 y.t.rts) = W4 at *
                              go_wp2_with fail
                              go_roundw
                              case rel => exact ⟨m + 1, _, rv, wv, by go_num, by omega, hX2, hI2⟩
                              case measure => simp [intOf]; omega
                            · have d0 : a.writes.length = 0 := by omega
                              have d1 : ¬ (0 : Int) < (a.writes.length : Int) := by omega
                              have d2 : decide ((0 : Int) < (a.writes.length : Int)) = false := decide_eq_false d1
                              rw [d0] at c4
                              have hI2 : Hid (RI x D (m + 1) { a with done := true }) := hI.out.step hy.out (by rw [hup.out, upd_cm hk3.out, if_neg hw0]) ⟨hI0.out.start, hI0.out.commit, hI0.out.reads, hI0.out.writes, hI0.out.rl, hI0.out.wl⟩ (Nat.le_succ_of_le hI.out.l1) (Nat.le_succ_of_le hI.out.l2)
                              replace d0 := Lib.hid d0
                              clear hw0 hcw hwv
                              go_upto_region 23 with (fail)
                              refine no_implicit_lambda% (wp_region_lit ?_)
                              refine no_implicit_lambda% (wpl_val ?_ rfl ?_ ?_)
                              rotate_left
                              · (go_simp; (try with_reducible rfl))
                              (try simp only [Act.put, Z1, Z2, Z4, Z5, Z6])
                              refine no_implicit_lambda% (wpl_val ?_ rfl ?_ ?_)
                              rotate_left
                              · (have c0 := c4; go_simp; (try with_reducible rfl))
                              (try simp only [Act.put, Z1, Z2, Z3, Z4, Z5, Z6])
                              refine no_implicit_lambda% (wpl_val ?_ rfl ?_ ?_)
                              rotate_left
                              · (go_simp; (try with_reducible rfl))
                              (try simp only [Act.put, Z1, Z2, Z3, Z4, Z5, Z6])
                              refine no_implicit_lambda% (wpl_val ?_ rfl ?_ ?_)
                              rotate_left
                              · (go_simp; (try with_reducible rfl))
                              (try simp only [Act.put, Z1, Z2, Z3, Z4, Z5, Z6])
                              refine no_implicit_lambda% (wpList_nil ?_)
                              clear c4 d1 d2 hI hy hB9 hup
                              go_wp2_with fail
                              go_roundw
                              case rel => exact ⟨m + 1, _, rv, wv, by go_num, by omega, hX1, hI2⟩
                              case measure => simp [intOf]; omega
                          · have hk3' : (y.t.kind == 3) = false := by simp [hk3]
                            replace hk3 := Lib.hid hk3
                            clear hB8
                            have hI2 : Hid (RI x D (m + 1) a) := hI.out.same hy.out (by rw [hup.out, upd_no hk1.out hk2.out hk3.out])
                            clear hI hy
                            go_wp2_with fail
                            go_roundw
                            case rel => exact ⟨m + 1, a, rv, wv, by go_num, by omega, hX, hI2⟩
                            case measure => simp [intOf]; omega
                    · have hty' : (y.t.txn != x.t.rtxn) = true := by simp [hty]
                      replace hty := Lib.hid hty
                      go_upto_region 12 with (fail)
                      refine no_implicit_lambda% (wp_region_lit ?_)
                      iterate 2
                        refine no_implicit_lambda% (wpl_val ?_ rfl ?_ ?_)
                        rotate_left
                        · (go_simp; (try with_reducible rfl))
                        (try simp only [Act.put, Z1, Z2, Z3, Z4, Z5, Z6])
                      refine no_implicit_lambda% (wpl_val ?_ rfl ?_ ?_)
                      rotate_left
                      · (have c0 := (tk hB8); go_simp; (try with_reducible rfl))
                      (try simp only [Act.put, Z1, Z2, Z3, Z4, Z5, Z6])
                      iterate 4
                        refine no_implicit_lambda% (wpl_val ?_ rfl ?_ ?_)
                        rotate_left
                        · (go_simp; (try with_reducible rfl))
                        (try simp only [Act.put, Z1, Z2, Z3, Z4, Z5, Z6])
                      refine no_implicit_lambda% (wpl_val ?_ rfl ?_ ?_)
                      rotate_left
                      · (have c0 := (tt hB8); go_simp; (try with_reducible rfl))
                      (try simp only [Act.put, Z1, Z2, Z3, Z4, Z5, Z6])
                      iterate 2
                        refine no_implicit_lambda% (wpl_val ?_ rfl ?_ ?_)
                        rotate_left
                        · (go_simp; (try with_reducible rfl))
                        (try simp only [Act.put, Z1, Z2, Z3, Z4, Z5, Z6])
                      refine no_implicit_lambda% (wpl_val ?_ rfl ?_ ?_)
                      rotate_left
                      · (have c0 := (tr hX.b5); go_simp; (try with_reducible rfl))
                      (try simp only [Act.put, Z1, Z2, Z3, Z4, Z5, Z6])
                      iterate 2
                        refine no_implicit_lambda% (wpl_val ?_ rfl ?_ ?_)
                        rotate_left
                        · (go_simp; (try with_reducible rfl))
                        (try simp only [Act.put, Z1, Z2, Z3, Z4, Z5, Z6])
                      refine no_implicit_lambda% (wpList_nil ?_)
                      clear hky' hty' hB8
                      have hI2 : Hid (RI x D (m + 1) a) := hI.out.same hy.out (P.ral_other hky.out hty.out)
                      clear hI hy
                      go_wp2_with fail
                      go_roundw
                      case rel => exact ⟨m + 1, a, rv, wv, by go_num, by omega, hX, hI2⟩
                      case measure => simp [intOf]; omega
                · have hly' : (y.t.life != x.t.life) = true := by simp [hly]
                  have hoff : Hid (¬ (y.t.cnt = true ∧ y.t.life = x.t.life)) := fun e => hly e.2
                  replace hly := Lib.hid hly
                  iterate 3
                    refine no_implicit_lambda% (wpl_val ?_ rfl ?_ ?_)
                    rotate_left
                    · (go_simp; (try with_reducible rfl))
                    (try simp only [Act.put, Z1, Z2, Z3, Z4, Z5, Z6])
                  refine no_implicit_lambda% (wpl_val ?_ rfl ?_ ?_)
                  rotate_left
                  · (have c0 := (tl hB8); go_simp; (try with_reducible rfl))
                  (try simp only [Act.put, Z1, Z2, Z3, Z4, Z5, Z6])
                  refine no_implicit_lambda% (wpl_val ?_ rfl ?_ ?_)
                  rotate_left
                  · (go_simp; (try with_reducible rfl))
                  (try simp only [Act.put, Z1, Z2, Z3, Z4, Z5, Z6])
                  refine no_implicit_lambda% (wpl_val ?_ rfl ?_ ?_)
                  rotate_left
                  · (have c0 := (tl hX.b5); go_simp; (try with_reducible rfl))
                  (try simp only [Act.put, Z1, Z2, Z3, Z4, Z5, Z6])
                  iterate 2
                    refine no_implicit_lambda% (wpl_val ?_ rfl ?_ ?_)
                    rotate_left
                    · (go_simp; (try with_reducible rfl))
                    (try simp only [Act.put, Z1, Z2, Z3, Z4, Z5, Z6])
                  refine no_implicit_lambda% (wpList_nil ?_)
                  clear hly' hB8
                  have hI2 : Hid (RI x D (m + 1) a) := hI.out.same hy.out (P.ral_off hoff.out)
                  clear hI hy
                  go_wp2_with fail
                  go_roundw
                  case rel => exact ⟨m + 1, a, rv, wv, by go_num, by omega, hX, hI2⟩
                  case measure => simp [intOf]; omega
            · obtain rfl : m = D.length := by omega
              have hrg : Hid (P.rgo x.t (tds D) = a) := hI.out.fin
              have hIok := Lib.hid hI.out.ok
              clear hI hlm hm
              obtain ⟨wz, rfl⟩ : ∃ wz, wz = wr := ⟨_, rfl⟩
              have hsub : SubAt wz (a, rv, wv) := ⟨own_rowIn (f := seC) (sz := 2) (fun _ => rfl) hX.rd, own_rowIn (f := pgC) (sz := 1) (fun _ => rfl) hX.wt, hIok.out⟩
              have hap : ∀ b, vblk ((a, rv, wv) : Rec).2.1 = some b ∨ vblk ((a, rv, wv) : Rec).2.2 = some b → u3.ownBlock ≠ some b := fun b hb e => by
                have h1 := hX.so.lt.1 b e
                rcases hb with hb | hb
                · have := (hX.rd.lt b (own_vblk hX.rd hb)).1; omega
                · have := (hX.wt.lt b (own_vblk hX.wt hb)).1; omega
              have hfl2 : Hid (his (Rl ++ [((a, rv, wv) : Rec)]) ++ P.rof (tds (T.drop (k + 1))) = P.rof (tds T)) := by
                have h1 := hfl.out
                rw [rof_drop hx.out, if_pos ⟨hcx.out, hkx.out⟩, ← hD.out, hrg.out] at h1
                unfold Hid
                rw [← h1, his, List.map_append, ← his, List.append_assoc, ← hD.out]; rfl
              have hRk2 : Hid ((Rl ++ [((a, rv, wv) : Rec)]).length ≤ k + 1) := by unfold Hid; rw [List.length_append]; have := hRk.out; simp; omega
              have hRl := hRk.out
              have hbox := hX.box
              have hso := hX.so
              have hone := Lib.hid hsub.one
              clear hX hfl hRk hrg
              generalize hx0 : ((a, rv, wv) : Rec) = x0 at *
              replace hx0 := Lib.hid hx0
              replace hap := Lib.hid hap
              go_upto_region 26 with (fail)
              refine no_implicit_lambda% (wp_region_lit ?_)
              refine no_implicit_lambda% (wpl_val ?_ rfl ?_ ?_)
              rotate_left
              · (go_simp; (try with_reducible rfl))
              (try simp only [Act.put, Z1, Z2, Z4, Z5, Z6])
              refine wpl_val (.agg (pcA x0)) rfl (run_load_cs rfl rfl hbox Try.underlying36 rfl (size36 x0)) ?_
              (try simp only [Act.put, Z1, Z2, Z3, Z4, Z5, Z6])
              refine wpl_law rfl (wp_buildSlice 22 36 1 _ rfl (pcA x0) ie _ Try.underlying22 hie ze (by rw [se]; decide) (by rw [se]; decide) ?c1 ?_)
              case c1 => (simp only [se, List.map_toArray, List.map_cons, List.map_nil]; exact fill36 _)
              have hlit : Blk (wz.alloc (.cells (pcA x0) 36)) wz.heap.size (pcL x0).toArray 36 := Blk.alloc_new _ _ _
              have al := (Below.refl wz.heap.size wz).alloc (Nat.le_refl _) (.cells (pcA x0) 36)
              have hsub4 := hsub.below al
              have hso4 := hso.go al
              clear al hsub hso hbox
              (try simp only [Act.put, Z1, Z2, Z3, Z4, Z5, Z6])
              generalize wz.alloc (.cells (pcA x0) 36) = U at *
              generalize wz.heap.size = lb at *
              have hlo4 := hso4.lo
              refine wpl_law rfl (wp_append_src _ _ 22 rfl w.heap.size 36 ie _ 5 64 Try.underlying22 hie ze se ye rfl (by decide) u3 Rl.length _ rfl hso4.own.own _ 1 (pcL x0) rfl (src_blk hlit) (pcL_length _) (fun u hu => by have := hone.out; rw [Array.all_eq_true_iff_forall_mem] at this; exact this u (by simpa [pcA, pcL] using hu)) ?_ ?_ ?_ ?_)
              · unfold maxLen; omega
              · omega
              · omega
              intro v7 W7 own7 gr7 _ hloc7
              have hO7 := hso4.own.push hsub4 hap.out own7 gr7 hloc7
              have hS7 : Below w.heap.size w W7 := Fr.below hso4.below (Fr.of_grown gr7) (Nat.le_refl _) fun i e => (hso4.own.own.lt i e).1
              clear hso4 hsub4 hap own7 gr7 hloc7 hlit hone hlo4 hx0
              (try simp only [Act.put, Z1, Z2, Z3, Z4, Z5, Z6])
              refine no_implicit_lambda% (wpl_val ?_ rfl ?_ ?_)
              rotate_left
              · (go_simp; (try with_reducible rfl))
              (try simp only [Act.put, Z1, Z2, Z3, Z4, Z5, Z6])
              refine no_implicit_lambda% (wpList_nil ?_)
              generalize Rl ++ [x0] = Rl2 at *
              go_wp2_with fail
              go_roundw
              case rel => exact ⟨k + 1, Rl2, by go_num, by omega, hS7, hO7, hfl2, hRk2⟩
              case measure => simp [intOf]; omega
        · have hcn : Hid (¬ (x.t.cnt = true ∧ x.t.kind = 0)) := fun e => hkx e.2
          have hkx' : (x.t.kind != 0) = true := by simp [hkx]
          replace hkx := Lib.hid hkx
          iterate 4
            refine no_implicit_lambda% (wpl_val ?_ rfl ?_ ?_)
            rotate_left
            · (go_simp; (try with_reducible rfl))
            (try simp only [Act.put, Z1, Z2, Z3, Z4, Z5, Z6])
          refine no_implicit_lambda% (wpl_val ?_ rfl ?_ ?_)
          rotate_left
          · (have c0 := (tk hB5); go_simp; (try with_reducible rfl))
          (try simp only [Act.put, Z1, Z2, Z3, Z4, Z5, Z6])
          iterate 2
            refine no_implicit_lambda% (wpl_val ?_ rfl ?_ ?_)
            rotate_left
            · (go_simp; (try with_reducible rfl))
            (try simp only [Act.put, Z1, Z2, Z3, Z4, Z5, Z6])
          refine no_implicit_lambda% (wpList_nil ?_)
          clear hkx'
          have hfl2 : Hid (his Rl ++ P.rof (tds (T.drop (k + 1))) = P.rof (tds T)) := by
            have h1 := hfl.out
            rw [rof_drop hx.out, if_neg hcn.out] at h1
            exact h1
          have hRk2 : Hid (Rl.length ≤ k + 1) := Nat.le_succ_of_le hRk.out
          clear hfl hRk hx hB5
          go_wp2_with fail
          go_roundw
          case rel => exact ⟨k + 1, Rl, by go_num, by omega, hS, hO, hfl2, hRk2⟩
          case measure => simp [intOf]; omega
    · obtain rfl : k = T.length := by omega
      have hfin : Hid (his Rl = P.rof (tds T)) := by
        have h1 := hfl.out
        rw [List.drop_length] at h1
        exact (List.append_nil _).symm.trans h1
      have hRl := hRk.out
      clear hfl hlt hRk
      go_wp2_with fail
      go_ret
      exact ⟨_, Rl, rfl, hO, hfin.out, hRl, hS⟩
end Go.Proofs.Ytnemaolbmocncaa
