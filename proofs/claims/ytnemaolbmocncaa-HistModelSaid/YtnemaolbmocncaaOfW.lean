/- The walk of Of: of what was told, the transactions. -/
import Derived.Test.YtnemaolbmocncaaOfA
namespace Go.Proofs.Ytnemaolbmocncaa
open Go.RowKit
set_option linter.unusedSimpArgs false
set_option linter.unusedVariables false
attribute [local irreducible] wpList
attribute [local irreducible] tdL
theorem cell_fr {S : Nat → Prop} {w w' : World} {g j : Nat} {u : Value} (h : Fr S w w') (hg : g < w.heap.size) (hn : ¬ S g) (hc : w.cell? ⟨g, j, none⟩ = some u) : w'.cell? ⟨g, j, none⟩ = some u := by
  rw [← hc]
  unfold World.cell?
  rw [h.block g hg hn]
theorem frozen_fr {S : Nat → Prop} {w w' : World} {g j : Nat} (h : Fr S w w') (hg : g < w.heap.size) (hn : ¬ S g) (hc : w.frozen? ⟨g, j, none⟩ = false) : w'.frozen? ⟨g, j, none⟩ = false := by
  rw [← hc]
  unfold World.frozen?
  rw [h.block g hg hn]
theorem grown_refl (w : World) (row : Option Nat) : w.grownBy w row := ⟨rfl, rfl, rfl, Nat.le_refl _, fun _ _ _ => rfl⟩
set_option maxRecDepth 100000 in
set_option maxHeartbeats 32000000 in
theorem of_any {w : World} {ao : Option Addr} {cap : Nat} {T : List Tr} (h : TAt w ao T) (hT : T.length ≤ 500) :
    Calls Try.prog 15 #[.slice ao T.length cap] w fun e w' => ∃ v R r, e = .returned v ∧ OT r w' v R ∧ w.heap.size ≤ r ∧ his R = P.hof (tds T) ∧ R.length ≤ T.length ∧ Below w.heap.size w w' := by
  have hz61 := zero61''
  have hz82 := zero82.1
  have size33 := size33
  have size34 := size34
  have size32 : (Try.prog.info? 32).map (·.size) = some 1 := by kernel_rfl
  have size4 : (Try.prog.info? 4).map (·.size) = some 1 := by kernel_rfl
  obtain ⟨ie, hie, ze, se, ye⟩ := info_parts info36
  obtain ⟨iq, hiq, zq, sq, yq⟩ := info_parts info43
  obtain ⟨ip, hip, zp, sp, yp⟩ := info_parts info41
  have hH := Lib.hid h
  clear h
  go_enter Try.func15, Try.ntmps15
  go_upto_region 1 with (fail)
  refine no_implicit_lambda% (wp_region_lit ?_)
  have hmm := @run_makeMap Try.prog
  refine wpl_run (.map (some w.heap.size)) (w.alloc (.map #[] 0)) rfl (by go_simp) ?_
  (try simp only [Act.put, Z1, Z2, Z3, Z4, Z5, Z6])
  have hS0 : Hid (OS w (w.alloc (.map #[] 0)) w.heap.size (.slice none 0 0) [] []) := ⟨(Below.refl _ _).alloc (Nat.le_refl _) _, KeyAt.made w, OT.nil _ _, Nat.le_refl _⟩
  generalize w.alloc (.map #[] 0) = W1 at *
  clear hmm
  refine no_implicit_lambda% (wpl_val ?_ rfl ?_ ?_)
  rotate_left
  · (go_simp; (try with_reducible rfl))
  (try simp only [Act.put, Z1, Z2, Z3, Z4, Z5, Z6])
  refine no_implicit_lambda% (wpList_nil ?_)
  go_upto_region 3 with (fail)
  refine no_implicit_lambda% (wp_region_lit ?_)
  refine no_implicit_lambda% (wpl_val ?_ rfl ?_ ?_)
  rotate_left
  · (go_simp; (try with_reducible rfl))
  (try simp only [Act.put, Z1, Z2, Z4, Z5, Z6])
  refine no_implicit_lambda% (wpl_val ?_ rfl ?_ ?_)
  rotate_left
  · (go_simp; (try with_reducible rfl))
  (try simp only [Act.put, Z1, Z2, Z3, Z4, Z5, Z6])
  refine no_implicit_lambda% (wpl_val ?_ rfl ?_ ?_)
  rotate_left
  · (go_simp; (try with_reducible rfl))
  (try simp only [Act.put, Z1, Z2, Z3, Z4, Z5, Z6])
  refine no_implicit_lambda% (wpList_nil ?_)
  go_wp2_with fail
  go_loopw [14, 4] (fun i v wr => ∃ (k : Nat) (R : List Rec) (B : List ((Int × Int) × Nat)), i = .int .i64 k ∧ k ≤ T.length ∧ OS w wr w.heap.size v R B ∧ Hid ((tds (T.take k)).foldl P.ofS ([], []) = (B, his R)) ∧ Hid (Nk R k)) (fun i _ _ => T.length - (intOf i).toNat)
  case atStart => exact ⟨0, [], [], rfl, Nat.zero_le _, hS0.out, rfl, ⟨Nat.le_refl _, fun x hx => by cases hx⟩⟩
  case round =>
    clear hS0
    obtain ⟨k, R, B, rfl, hk, hS, hst, hN⟩ := hrel
    obtain ⟨aov, capv, rfl⟩ := own_slice hS.ot.own
    by_cases hlt : k < T.length
    · have hlt' : (k : Int) < (T.length : Int) := by omega
      obtain ⟨x, hx⟩ : ∃ x, T[k]? = some x := ⟨_, List.getElem?_eq_getElem hlt⟩
      have hok := Lib.hid (hH.out.ok x (List.mem_of_getElem? hx))
      have hone := Lib.hid hok.out.all
      obtain ⟨b, o, rfl, hbl, hr⟩ := (hH.out.below hS.bel).row k x hx
      replace hr := Lib.hid hr
      have hstep := Lib.hid (of_step hx hst.out)
      have hbr : w.heap.size < wr.heap.size := hS.key.lt
      have hidx : Hid (∀ (key : Int × Int) (i : Nat), G.get B key = some i → i < R.length) := fun key i hg => by have := of_lt hst.out hg; rw [his_length] at this; exact this
      clear hx hst
      go_upto_region 5 with (fail)
      refine no_implicit_lambda% (wp_region_lit ?_)
      refine no_implicit_lambda% (wpl_val ?_ rfl ?_ ?_)
      rotate_left
      · (go_simp; (try with_reducible rfl))
      (try simp only [Act.put, Z1, Z2, Z4, Z5, Z6])
      refine wpList_load_mid rfl 61 _ rfl b (o + k * 77) rfl (tdL x) _ hr.out Try.underlying61 rfl (size61' x) ?_
      (try simp only [Act.put, Z1, Z2, Z3, Z4, Z5, Z6])
      refine wpl_alloc 61 (tdL noT).toArray rfl rfl hz61 ?_
      (try simp only [Act.put, Z1, Z2, Z3, Z4, Z5, Z6])
      refine wpList_store_fr rfl 61 _ _ rfl wr.heap.size (tdL x).toArray rfl rfl 61 _ (Blk.alloc_new _ _ _) (size61 x) (by rw [List.size_toArray, List.size_toArray, tdL_length, tdL_length]) hone.out ?_
      intro w9 hB9 hF9
      (try simp only [Act.put, Z1, Z2, Z3, Z4, Z5, Z6])
      refine no_implicit_lambda% (wpList_nil ?_)
      replace hS := hS.go (box_below hF9)
      clear hF9 hr hbl hone
      generalize wr.heap.size = bx at *
      cases hop : x.t.opn with
      | true =>
        have hoff : Hid (¬ x.t.cnt = true) := by unfold Hid P.Td.cnt; rw [hop]; simp
        have f9 := to_ hB9
        rw [hop] at f9
        clear hop
        go_upto_region 6 with (fail)
        refine no_implicit_lambda% (wp_region_lit ?_)
        refine no_implicit_lambda% (wpl_val ?_ rfl ?_ ?_)
        rotate_left
        · (go_simp; (try with_reducible rfl))
        (try simp only [Act.put, Z1, Z2, Z4, Z5, Z6])
        refine no_implicit_lambda% (wpl_val ?_ rfl ?_ ?_)
        rotate_left
        · (have c0 := f9; go_simp; (try with_reducible rfl))
        (try simp only [Act.put, Z1, Z2, Z3, Z4, Z5, Z6])
        refine no_implicit_lambda% (wpl_val ?_ rfl ?_ ?_)
        rotate_left
        · (go_simp; (try with_reducible rfl))
        (try simp only [Act.put, Z1, Z2, Z3, Z4, Z5, Z6])
        iterate 4
          refine no_implicit_lambda% (wpl_skip rfl ?_)
          (try simp only [Act.put, Z1, Z2, Z3, Z4, Z5, Z6])
        refine no_implicit_lambda% (wpl_val ?_ rfl ?_ ?_)
        rotate_left
        · (go_simp; (try with_reducible rfl))
        (try simp only [Act.put, Z1, Z2, Z3, Z4, Z5, Z6])
        refine no_implicit_lambda% (wpList_nil ?_)
        clear f9 hB9
        have hst2 : Hid ((tds (T.take (k + 1))).foldl P.ofS ([], []) = (B, his R)) := by unfold Hid; rw [hstep.out]; exact ofS_off hoff.out _
        have hN2 : Hid (Nk R (k + 1)) := hN.out.up
        clear hstep hN
        go_wp2_with fail
        go_roundw
        case rel => exact ⟨k + 1, R, B, by go_num, by omega, hS, hst2, hN2⟩
        case measure => simp [intOf]; omega
      | false =>
        have f9 := to_ hB9
        rw [hop] at f9
        by_cases her : x.t.err = 0
        · have hcn : Hid (x.t.cnt = true) := by unfold Hid P.Td.cnt; rw [hop]; simp [her]
          have her' : (x.t.err != 0) = false := by simp [her]
          replace her := Lib.hid her
          clear hop
          go_upto_region 6 with (fail)
          refine no_implicit_lambda% (wp_region_lit ?_)
          refine no_implicit_lambda% (wpl_val ?_ rfl ?_ ?_)
          rotate_left
          · (go_simp; (try with_reducible rfl))
          (try simp only [Act.put, Z1, Z2, Z4, Z5, Z6])
          refine no_implicit_lambda% (wpl_val ?_ rfl ?_ ?_)
          rotate_left
          · (have c0 := f9; go_simp; (try with_reducible rfl))
          (try simp only [Act.put, Z1, Z2, Z3, Z4, Z5, Z6])
          iterate 3
            refine no_implicit_lambda% (wpl_val ?_ rfl ?_ ?_)
            rotate_left
            · (go_simp; (try with_reducible rfl))
            (try simp only [Act.put, Z1, Z2, Z3, Z4, Z5, Z6])
          refine no_implicit_lambda% (wpl_val ?_ rfl ?_ ?_)
          rotate_left
          · (have c0 := (te hB9); go_simp; (try with_reducible rfl))
          (try simp only [Act.put, Z1, Z2, Z3, Z4, Z5, Z6])
          iterate 2
            refine no_implicit_lambda% (wpl_val ?_ rfl ?_ ?_)
            rotate_left
            · (go_simp; (try with_reducible rfl))
            (try simp only [Act.put, Z1, Z2, Z3, Z4, Z5, Z6])
          refine no_implicit_lambda% (wpList_nil ?_)
          clear f9 her'
          go_upto_region 7 with (fail)
          refine no_implicit_lambda% (wp_region_lit ?_)
          refine no_implicit_lambda% (wpl_val ?_ rfl ?_ ?_)
          rotate_left
          · (go_simp; (try with_reducible rfl))
          (try simp only [Act.put, Z1, Z2, Z4, Z5, Z6])
          refine no_implicit_lambda% (wpl_val ?_ rfl ?_ ?_)
          rotate_left
          · (have c0 := (tl hB9); go_simp; (try with_reducible rfl))
          (try simp only [Act.put, Z1, Z2, Z3, Z4, Z5, Z6])
          iterate 2
            refine no_implicit_lambda% (wpl_val ?_ rfl ?_ ?_)
            rotate_left
            · (go_simp; (try with_reducible rfl))
            (try simp only [Act.put, Z1, Z2, Z3, Z4, Z5, Z6])
          refine no_implicit_lambda% (wpl_val ?_ rfl ?_ ?_)
          rotate_left
          · (have c0 := (tt hB9); go_simp; (try with_reducible rfl))
          (try simp only [Act.put, Z1, Z2, Z3, Z4, Z5, Z6])
          refine wpl_val (.agg #[.int .i64 x.t.life, .int .u64 x.t.txn]) rfl (run_buildE rfl (by go_simp; exact b82 _ _)) ?_
          (try simp only [Act.put, Z1, Z2, Z3, Z4, Z5, Z6])
          refine wpl_alloc 82 #[.int .i64 0, .int .u64 0] rfl rfl hz82 ?_
          (try simp only [Act.put, Z1, Z2, Z3, Z4, Z5, Z6])
          refine wpList_store_fr rfl 82 _ _ rfl w9.heap.size #[.int .i64 x.t.life, .int .u64 x.t.txn] rfl rfl 82 _ (Blk.alloc_new _ _ _) zero82.2 rfl (by simp [Value.oneCell']) ?_
          intro w8 hB7 hF7
          (try simp only [Act.put, Z1, Z2, Z3, Z4, Z5, Z6])
          refine no_implicit_lambda% (wpList_nil ?_)
          replace hS := hS.go (box_below hF7)
          replace hB9 := hB9.below (box_below hF7)
          clear hF7
          generalize w9.heap.size = bk at *
          clear w9
          by_cases hk0 : x.t.kind = 0
          · have hk0' : (x.t.kind == 0) = true := by simp [hk0]
            clear hB7
            go_upto_region 8 with (fail)
            refine no_implicit_lambda% (wp_region_lit ?_)
            iterate 2
              refine no_implicit_lambda% (wpl_val ?_ rfl ?_ ?_)
              rotate_left
              · (go_simp; (try with_reducible rfl))
              (try simp only [Act.put, Z1, Z2, Z3, Z4, Z5, Z6])
            refine no_implicit_lambda% (wpl_val ?_ rfl ?_ ?_)
            rotate_left
            · (have c0 := (tk hB9); go_simp; (try with_reducible rfl))
            (try simp only [Act.put, Z1, Z2, Z3, Z4, Z5, Z6])
            refine no_implicit_lambda% (wpl_val ?_ rfl ?_ ?_)
            rotate_left
            · (go_simp; (try with_reducible rfl))
            (try simp only [Act.put, Z1, Z2, Z3, Z4, Z5, Z6])
            refine no_implicit_lambda% (wpList_nil ?_)
            clear hk0'
            obtain ⟨w5, hup, hS5, hF5⟩ := hS.num (k := (x.t.life, x.t.rtxn)) ⟨hok.out.life, hok.out.rtxn⟩ R.length
            dsimp only at hup
            go_upto_region 9 with (fail)
            refine no_implicit_lambda% (wp_region_lit ?_)
            iterate 2
              refine no_implicit_lambda% (wpl_val ?_ rfl ?_ ?_)
              rotate_left
              · (go_simp; (try with_reducible rfl))
              (try simp only [Act.put, Z1, Z2, Z3, Z4, Z5, Z6])
            refine no_implicit_lambda% (wpl_val ?_ rfl ?_ ?_)
            rotate_left
            · (have c0 := (tl hB9); go_simp; (try with_reducible rfl))
            (try simp only [Act.put, Z1, Z2, Z3, Z4, Z5, Z6])
            iterate 2
              refine no_implicit_lambda% (wpl_val ?_ rfl ?_ ?_)
              rotate_left
              · (go_simp; (try with_reducible rfl))
              (try simp only [Act.put, Z1, Z2, Z3, Z4, Z5, Z6])
            refine no_implicit_lambda% (wpl_val ?_ rfl ?_ ?_)
            rotate_left
            · (have c0 := (tr hB9); go_simp; (try with_reducible rfl))
            (try simp only [Act.put, Z1, Z2, Z3, Z4, Z5, Z6])
            refine wpl_val (.agg #[.int .i64 x.t.life, .int .u64 x.t.rtxn]) rfl (run_buildE rfl (by go_simp; exact b82 _ _)) ?_
            (try simp only [Act.put, Z1, Z2, Z3, Z4, Z5, Z6])
            refine no_implicit_lambda% (wpl_val ?_ rfl ?_ ?_)
            rotate_left
            · (go_simp; (try with_reducible rfl))
            (try simp only [Act.put, Z1, Z2, Z3, Z4, Z5, Z6])
            refine no_implicit_lambda% (wpl_val ?_ rfl ?_ ?_)
            rotate_left
            · (go_simp; (try with_reducible rfl))
            (try simp only [Act.put, Z1, Z2, Z3, Z4, Z5, Z6])
            refine wpl_law rfl (wp_mapUpdateE rfl rfl rfl rfl hup ?_)
            (try simp only [Act.put, Z1, Z2, Z3, Z4, Z5, Z6])
            refine no_implicit_lambda% (wpList_nil ?_)
            replace hB9 := hB9.fr hF5 (by omega)
            clear hup hF5 hS
            have hst2 : Hid ((tds (T.take (k + 1))).foldl P.ofS ([], []) = (G.put B (x.t.life, x.t.rtxn) R.length, his (R ++ [(P.beg x.t, .slice none 0 0, .slice none 0 0)]))) := by unfold Hid; rw [hstep.out]; exact ofS_beg hcn.out hk0
            have hN2 : Hid (Nk (R ++ [(P.beg x.t, .slice none 0 0, .slice none 0 0)]) (k + 1)) := hN.out.push rfl rfl
            have hpok : Hid (Pok (P.beg x.t)) := ⟨hok.out.rts, w32 (x := 0) ⟨by decide, by decide⟩, fun v hv => (by cases hv), fun v hv => (by cases hv), by simp [P.beg], by simp [P.beg]⟩
            have hRk := hN.out.n
            replace hst2 := Lib.hid hst2
            replace hk0 := Lib.hid hk0
            clear hstep hN
            go_upto_region 10 with (fail)
            refine no_implicit_lambda% (wp_region_lit ?_)
            iterate 3
              refine no_implicit_lambda% (wpl_val ?_ rfl ?_ ?_)
              rotate_left
              · (go_simp; (try with_reducible rfl))
              (try simp only [Act.put, Z1, Z2, Z3, Z4, Z5, Z6])
            refine no_implicit_lambda% (wpl_val ?_ rfl ?_ ?_)
            rotate_left
            · (have c0 := (ts hB9); go_simp; (try with_reducible rfl))
            (try simp only [Act.put, Z1, Z2, Z3, Z4, Z5, Z6])
            refine wpl_val (.agg (pcA (P.beg x.t, .slice none 0 0, .slice none 0 0))) rfl (run_buildE rfl (by go_simp; exact b36s _)) ?_
            (try simp only [Act.put, Z1, Z2, Z3, Z4, Z5, Z6])
            refine wpl_law rfl (wp_buildSlice 22 36 1 _ rfl (pcA (P.beg x.t, .slice none 0 0, .slice none 0 0)) ie _ Try.underlying22 hie ze (by rw [se]; decide) (by rw [se]; decide) ?c1 ?_)
            case c1 => (simp only [se, List.map_toArray, List.map_cons, List.map_nil]; exact fill36 _)
            have hlit : Blk (w5.alloc (.cells (pcA (P.beg x.t, .slice none 0 0, .slice none 0 0)) 36)) w5.heap.size (pcL (P.beg x.t, .slice none 0 0, .slice none 0 0)).toArray 36 := Blk.alloc_new _ _ _
            have hS6 := hS5.go ((Below.refl _ _).alloc (Nat.le_refl _) (.cells (pcA (P.beg x.t, .slice none 0 0, .slice none 0 0)) 36))
            clear hS5 hB9
            (try simp only [Act.put, Z1, Z2, Z3, Z4, Z5, Z6])
            generalize w5.alloc (.cells (pcA (P.beg x.t, .slice none 0 0, .slice none 0 0)) 36) = W6 at *
            generalize w5.heap.size = lb at *
            have hr6 := hS6.key.lt
            refine wpl_law rfl (wp_append_src _ _ 22 rfl (w.heap.size + 1) 36 ie _ 5 64 Try.underlying22 hie ze se ye rfl (by decide) (.slice aov R.length capv) R.length _ rfl hS6.ot.own _ 1 (pcL (P.beg x.t, .slice none 0 0, .slice none 0 0)) rfl (src_blk hlit) (pcL_length _) (fun u hu => by simp [pcL] at hu; rcases hu with rfl | rfl | rfl | rfl | rfl <;> rfl) ?_ ?_ ?_ ?_)
            · unfold maxLen; omega
            · omega
            · omega
            intro v7 W7 own7 gr7 _ hloc7
            have hS7 := hS6.push rfl rfl hpok.out own7 gr7 hloc7
            clear own7 gr7 hloc7 hlit hS6
            (try simp only [Act.put, Z1, Z2, Z3, Z4, Z5, Z6])
            refine no_implicit_lambda% (wpl_val ?_ rfl ?_ ?_)
            rotate_left
            · (go_simp; (try with_reducible rfl))
            (try simp only [Act.put, Z1, Z2, Z3, Z4, Z5, Z6])
            refine no_implicit_lambda% (wpList_nil ?_)
            generalize R ++ [(P.beg x.t, .slice none 0 0, .slice none 0 0)] = R2 at *
            generalize G.put B (x.t.life, x.t.rtxn) R.length = B2 at *
            go_wp2_with fail
            go_roundw
            case rel => exact ⟨k + 1, R2, B2, by go_num, by omega, hS7, hst2, hN2⟩
            case measure => simp [intOf]; omega
          · have hk0' : (x.t.kind == 0) = false := by simp [hk0]
            replace hk0 := Lib.hid hk0
            go_upto_region 8 with (fail)
            refine no_implicit_lambda% (wp_region_lit ?_)
            iterate 2
              refine no_implicit_lambda% (wpl_val ?_ rfl ?_ ?_)
              rotate_left
              · (go_simp; (try with_reducible rfl))
              (try simp only [Act.put, Z1, Z2, Z3, Z4, Z5, Z6])
            refine no_implicit_lambda% (wpl_val ?_ rfl ?_ ?_)
            rotate_left
            · (have c0 := (tk hB9); go_simp; (try with_reducible rfl))
            (try simp only [Act.put, Z1, Z2, Z3, Z4, Z5, Z6])
            refine no_implicit_lambda% (wpl_val ?_ rfl ?_ ?_)
            rotate_left
            · (go_simp; (try with_reducible rfl))
            (try simp only [Act.put, Z1, Z2, Z3, Z4, Z5, Z6])
            refine no_implicit_lambda% (wpList_nil ?_)
            clear hk0'
            have hl := hS.key.look (v := (x.t.life, x.t.txn)) ⟨hok.out.life, hok.out.txn⟩
            dsimp only at hl
            cases hgi : G.get B (x.t.life, x.t.txn) with
            | none =>
              rw [hgi] at hl
              simp only [Option.getD_none, Option.isSome_none] at hl
              replace hgi := Lib.hid hgi
              go_upto_region 11 with (fail)
              refine no_implicit_lambda% (wp_region_lit ?_)
              refine no_implicit_lambda% (wpl_val ?_ rfl ?_ ?_)
              rotate_left
              · (go_simp; (try with_reducible rfl))
              (try simp only [Act.put, Z1, Z2, Z4, Z5, Z6])
              refine wpl_val (.agg #[.int .i64 x.t.life, .int .u64 x.t.txn]) rfl (run_load_cs rfl rfl hB7 Try.underlying82 rfl zero82.2) ?_
              (try simp only [Act.put, Z1, Z2, Z3, Z4, Z5, Z6])
              refine no_implicit_lambda% (wpl_val ?_ rfl ?_ ?_)
              rotate_left
              · (have c0 := hl; go_simp; (try with_reducible rfl))
              (try simp only [Act.put, Z1, Z2, Z3, Z4, Z5, Z6])
              iterate 5
                refine no_implicit_lambda% (wpl_val ?_ rfl ?_ ?_)
                rotate_left
                · (go_simp; (try with_reducible rfl))
                (try simp only [Act.put, Z1, Z2, Z3, Z4, Z5, Z6])
              refine no_implicit_lambda% (wpList_nil ?_)
              clear hl hB7 hB9
              have hst2 : Hid ((tds (T.take (k + 1))).foldl P.ofS ([], []) = (B, his R)) := by unfold Hid; rw [hstep.out]; exact ofS_none hcn.out hk0.out hgi.out
              have hN2 : Hid (Nk R (k + 1)) := hN.out.up
              clear hstep hN
              go_wp2_with fail
              go_roundw
              case rel => exact ⟨k + 1, R, B, by go_num, by omega, hS, hst2, hN2⟩
              case measure => simp [intOf]; omega
            | some i =>
              rw [hgi] at hl
              simp only [Option.getD_some, Option.isSome_some] at hl
              have hilt : i < R.length := hidx.out _ _ hgi
              have hilt' : (i : Int) < (R.length : Int) := by omega
              obtain ⟨x0, hx0⟩ : ∃ y, R[i]? = some y := ⟨_, List.getElem?_eq_getElem hilt⟩
              replace hgi := Lib.hid hgi
              go_upto_region 11 with (fail)
              refine no_implicit_lambda% (wp_region_lit ?_)
              refine no_implicit_lambda% (wpl_val ?_ rfl ?_ ?_)
              rotate_left
              · (go_simp; (try with_reducible rfl))
              (try simp only [Act.put, Z1, Z2, Z4, Z5, Z6])
              refine wpl_val (.agg #[.int .i64 x.t.life, .int .u64 x.t.txn]) rfl (run_load_cs rfl rfl hB7 Try.underlying82 rfl zero82.2) ?_
              (try simp only [Act.put, Z1, Z2, Z3, Z4, Z5, Z6])
              refine no_implicit_lambda% (wpl_val ?_ rfl ?_ ?_)
              rotate_left
              · (have c0 := hl; go_simp; (try with_reducible rfl))
              (try simp only [Act.put, Z1, Z2, Z3, Z4, Z5, Z6])
              iterate 5
                refine no_implicit_lambda% (wpl_val ?_ rfl ?_ ?_)
                rotate_left
                · (go_simp; (try with_reducible rfl))
                (try simp only [Act.put, Z1, Z2, Z3, Z4, Z5, Z6])
              refine no_implicit_lambda% (wpList_nil ?_)
              clear hl hB7
              obtain ⟨g, capg, ev, hge, _, _⟩ := hS.ot.spot hx0
              injection ev with e1 _ e3
              subst e1
              subst e3
              go_upto_region 13 with (fail)
              refine no_implicit_lambda% (wp_region_lit ?_)
              iterate 4
                refine no_implicit_lambda% (wpl_val ?_ rfl ?_ ?_)
                rotate_left
                · (go_simp; (try with_reducible rfl))
                (try simp only [Act.put, Z1, Z2, Z3, Z4, Z5, Z6])
              refine no_implicit_lambda% (wpList_nil ?_)
              go_upto_region 14 with (fail)
              refine no_implicit_lambda% (wp_region_lit ?_)
              iterate 2
                refine no_implicit_lambda% (wpl_val ?_ rfl ?_ ?_)
                rotate_left
                · (go_simp; (try with_reducible rfl))
                (try simp only [Act.put, Z1, Z2, Z3, Z4, Z5, Z6])
              refine no_implicit_lambda% (wpl_val ?_ rfl ?_ ?_)
              rotate_left
              · (have c0 := (tk hB9); go_simp; (try with_reducible rfl))
              (try simp only [Act.put, Z1, Z2, Z3, Z4, Z5, Z6])
              refine no_implicit_lambda% (wpList_nil ?_)
              obtain ⟨aow, capw, hwv, hcw, hrw⟩ := own_rowIn (f := pgC) (sz := 1) (fun _ => rfl) (hS.ot.wt i x0 hx0)
              have cell4 : Hid (∀ W, OS w W w.heap.size (.slice (some ⟨g, 0, none⟩) R.length capv) R B → W.cell? ⟨g, i * 5 + 4, none⟩ = some (.slice aow x0.1.writes.length capw)) := fun W h => by rw [← hwv]; exact h.ot.cell hx0 rfl
              have hm0 := Lib.hid (List.mem_of_getElem? hx0)
              replace hwv := Lib.hid hwv
              replace hx0 := Lib.hid hx0
              clear hidx
              by_cases hk1 : x.t.kind = 1
              · have hk1' : (x.t.kind == 1) = true := by simp [hk1]
                replace hk1 := Lib.hid hk1
                go_upto_region 16 with (fail)
                refine wp_region_held (S := (fun w' => OS w w' w.heap.size (.slice (some ⟨g, 0, none⟩) R.length capv) R B ∧ Blk w' bx (tdL x).toArray 61)) (by kernel_rfl) ?_
                change wpAnyH _ _ _ _ _ _ _ _ (World.drew _)
                (try simp only [Act.put])
                replace hS := And.intro (hS.go (Below.refl _ _).drew) hB9.drew
                have hrw2 := hrw.below (Below.refl _ _).drew
                clear hB9 hrw
                generalize w8.drew = V at *
                refine anyH_pure 0 _ ?_ rfl (by kernel_rfl) (by kernel_rfl) (by kernel_rfl) (fun _ _ _ h => h) rfl ?_ hS ?_
                rotate_left
                · (intro w'; go_simp; (try with_reducible rfl))
                (try simp only [Act.put, Z1, Z2, Z4, Z5, Z6])
                refine anyH_pure 1 _ ?_ rfl (by kernel_rfl) (by kernel_rfl) (by kernel_rfl) (fun _ _ _ h => h) rfl ?_ hS ?_
                rotate_left
                · (intro w'; go_simp; (try with_reducible rfl))
                (try simp only [Act.put, Z1, Z2, Z3, Z4, Z5, Z6])
                refine anyH_pure 2 _ ?_ rfl (by kernel_rfl) (by kernel_rfl) (by kernel_rfl) (fun _ _ _ h => h) rfl ?_ hS ?_
                rotate_left
                · (intro w'; go_simp; (try with_reducible rfl))
                (try simp only [Act.put, Z1, Z2, Z3, Z4, Z5, Z6])
                refine anyH_if 3 _ ?_ rfl (by kernel_rfl) (by kernel_rfl) (by kernel_rfl) (fun _ _ _ h => h) rfl ?_ hS ?_
                rotate_left
                · (intro w' h; have c0 := cell4.out w' h.1; go_simp; (try with_reducible rfl))
                (try simp only [Act.put, Z1, Z2, Z3, Z4, Z5, Z6])
                refine anyH_pure 4 _ ?_ rfl (by kernel_rfl) (by kernel_rfl) (by kernel_rfl) (fun _ _ _ h => h) rfl ?_ hS ?_
                rotate_left
                · (intro w'; go_simp; (try with_reducible rfl))
                (try simp only [Act.put, Z1, Z2, Z3, Z4, Z5, Z6])
                refine anyH_pure 5 _ ?_ rfl (by kernel_rfl) (by kernel_rfl) (by kernel_rfl) (fun _ _ _ h => h) rfl ?_ hS ?_
                rotate_left
                · (intro w'; go_simp; (try with_reducible rfl))
                (try simp only [Act.put, Z1, Z2, Z3, Z4, Z5, Z6])
                refine anyH_if 6 _ ?_ rfl (by kernel_rfl) (by kernel_rfl) (by kernel_rfl) (fun _ _ _ h => h) rfl ?_ hS ?_
                rotate_left
                · (intro w' h; have c0 := (tp h.2); go_simp; (try with_reducible rfl))
                (try simp only [Act.put, Z1, Z2, Z3, Z4, Z5, Z6])
                have hca := has_any (cap := capw) hrw2 (by have := (hN.out.l x0 hm0.out).2; omega) x.t.page
                refine anyH_callR 7 _ _ _ _ (by kernel_rfl) rfl rfl (by go_simp) (_) (hca) ?_
                intro w5 hb5
                replace hS := And.intro (hS.1.go hb5) (hS.2.below hb5)
                refine ⟨hS, ?_⟩
                clear hca hb5 hrw2
                (try simp only [Act.put, Z1, Z2, Z3, Z4, Z5, Z6])
                cases hm : decide (x.t.page ∈ x0.1.writes) with
                | true =>
                  replace hm := Lib.hid (of_decide_eq_true hm)
                  refine anyH_pure 8 _ ?_ rfl (by kernel_rfl) (by kernel_rfl) (by kernel_rfl) (fun _ _ _ h => h) rfl ?_ hS ?_
                  rotate_left
                  · (intro w'; go_simp; (try with_reducible rfl))
                  (try simp only [Act.put, Z1, Z2, Z3, Z4, Z5, Z6])
                  refine wpAnyH_done (by kernel_rfl) ?_ _
                  replace hS := hS.1
                  have hst2 : Hid ((tds (T.take (k + 1))).foldl P.ofS ([], []) = (B, his R)) := by unfold Hid; rw [hstep.out]; exact ofS_same hcn.out hk0.out hgi.out hx0.out (upd_rd' hk1.out hm.out)
                  have hN2 : Hid (Nk R (k + 1)) := hN.out.up
                  clear hstep hN
                  go_wp2_with fail
                  go_roundw
                  case rel => exact ⟨k + 1, R, B, by go_num, by omega, hS, hst2, hN2⟩
                  case measure => simp [intOf]; omega
                | false =>
                  replace hm := Lib.hid (of_decide_eq_false hm)
                  refine anyH_pure 8 _ ?_ rfl (by kernel_rfl) (by kernel_rfl) (by kernel_rfl) (fun _ _ _ h => h) rfl ?_ hS ?_
                  rotate_left
                  · (intro w'; go_simp; (try with_reducible rfl))
                  (try simp only [Act.put, Z1, Z2, Z3, Z4, Z5, Z6])
                  refine wpAnyH_done (by kernel_rfl) ?_ _
                  obtain ⟨hS, hB9⟩ := hS
                  clear hk1'
                  go_upto_region 17 with (fail)
                  refine wp_region_K (k := 16) (S := (fun w' => w'.cell? ⟨g, i * 5 + 3, none⟩ = some x0.2.1 ∧ Blk w' bx (tdL x).toArray 61)) (by kernel_rfl) ?_
                  change wpAnyK _ _ _ _ _ _ _ _ _ (World.drew _)
                  (try simp only [Act.put])
                  have hG := hS.go (Below.refl _ _).drew
                  replace hB9 := hB9.drew
                  clear hS
                  generalize w5.drew = V at *
                  have hS : V.cell? ⟨g, i * 5 + 3, none⟩ = some x0.2.1 ∧ Blk V bx (tdL x).toArray 61 := ⟨hG.ot.cell hx0.out rfl, hB9⟩
                  refine anyK_pure 0 _ ?_ rfl (by kernel_rfl) (by kernel_rfl) (by kernel_rfl) (fun _ _ _ h => h) (by decide) rfl ?_ hS ?_
                  rotate_left
                  · (intro w'; go_simp; (try with_reducible rfl))
                  (try simp only [Act.put, Z1, Z2, Z4, Z5, Z6])
                  refine anyK_pure 1 _ ?_ rfl (by kernel_rfl) (by kernel_rfl) (by kernel_rfl) (fun _ _ _ h => h) (by decide) rfl ?_ hS ?_
                  rotate_left
                  · (intro w'; go_simp; (try with_reducible rfl))
                  (try simp only [Act.put, Z1, Z2, Z3, Z4, Z5, Z6])
                  refine anyK_pure 2 _ ?_ rfl (by kernel_rfl) (by kernel_rfl) (by kernel_rfl) (fun _ _ _ h => h) (by decide) rfl ?_ hS ?_
                  rotate_left
                  · (intro w'; go_simp; (try with_reducible rfl))
                  (try simp only [Act.put, Z1, Z2, Z3, Z4, Z5, Z6])
                  refine anyK_pure 3 _ ?_ rfl (by kernel_rfl) (by kernel_rfl) (by kernel_rfl) (fun _ _ _ h => h) (by decide) rfl ?_ hS ?_
                  rotate_left
                  · (intro w'; go_simp; (try with_reducible rfl))
                  (try simp only [Act.put, Z1, Z2, Z3, Z4, Z5, Z6])
                  refine anyK_if 4 _ ?_ rfl (by kernel_rfl) (by kernel_rfl) (by kernel_rfl) (fun _ _ _ h => h) (by decide) (by kernel_rfl) (by kernel_rfl) rfl ?_ hS ?_
                  rotate_left
                  · (intro w' h; have c0 := h.1; go_simp; (try with_reducible rfl))
                  (try simp only [Act.put, Z1, Z2, Z3, Z4, Z5, Z6])
                  refine anyK_pure 5 _ ?_ rfl (by kernel_rfl) (by kernel_rfl) (by kernel_rfl) (fun _ _ _ h => h) (by decide) rfl ?_ hS ?_
                  rotate_left
                  · (intro w'; go_simp; (try with_reducible rfl))
                  (try simp only [Act.put, Z1, Z2, Z3, Z4, Z5, Z6])
                  refine anyK_pure 6 _ ?_ rfl (by kernel_rfl) (by kernel_rfl) (by kernel_rfl) (fun _ _ _ h => h) (by decide) rfl ?_ hS ?_
                  rotate_left
                  · (intro w'; go_simp; (try with_reducible rfl))
                  (try simp only [Act.put, Z1, Z2, Z3, Z4, Z5, Z6])
                  refine anyK_if 7 _ ?_ rfl (by kernel_rfl) (by kernel_rfl) (by kernel_rfl) (fun _ _ _ h => h) (by decide) (by kernel_rfl) (by kernel_rfl) rfl ?_ hS ?_
                  rotate_left
                  · (intro w' h; have c0 := (tp h.2); go_simp; (try with_reducible rfl))
                  (try simp only [Act.put, Z1, Z2, Z3, Z4, Z5, Z6])
                  refine anyK_pure 8 _ ?_ rfl (by kernel_rfl) (by kernel_rfl) (by kernel_rfl) (fun _ _ _ h => h) (by decide) rfl ?_ hS ?_
                  rotate_left
                  · (intro w'; go_simp; (try with_reducible rfl))
                  (try simp only [Act.put, Z1, Z2, Z3, Z4, Z5, Z6])
                  refine anyK_pure 9 _ ?_ rfl (by kernel_rfl) (by kernel_rfl) (by kernel_rfl) (fun _ _ _ h => h) (by decide) rfl ?_ hS ?_
                  rotate_left
                  · (intro w'; go_simp; (try with_reducible rfl))
                  (try simp only [Act.put, Z1, Z2, Z3, Z4, Z5, Z6])
                  refine anyK_if 10 _ ?_ rfl (by kernel_rfl) (by kernel_rfl) (by kernel_rfl) (fun _ _ _ h => h) (by decide) (by kernel_rfl) (by kernel_rfl) rfl ?_ hS ?_
                  rotate_left
                  · (intro w' h; have c0 := (ts h.2); go_simp; (try with_reducible rfl))
                  (try simp only [Act.put, Z1, Z2, Z3, Z4, Z5, Z6])
                  refine anyK_pure 11 _ (.agg #[.int .u16 x.t.page, .int .u32 x.t.rts]) rfl (by kernel_rfl) (by kernel_rfl) (by kernel_rfl) (fun _ _ _ h => h) (by decide) rfl (fun w' => run_buildE rfl (by go_simp; exact b43 x.t.page x.t.rts)) hS ?_
                  (try simp only [Act.put, Z1, Z2, Z3, Z4, Z5, Z6])
                  refine anyK_one 12 _ (by kernel_rfl) rfl rfl (wp_buildSlice 33 43 1 _ rfl #[.int .u16 x.t.page, .int .u32 x.t.rts] iq _ Try.underlying33 hiq zq (by rw [sq]; decide) (by rw [sq]; decide) ?c1 ?_)
                  case c1 => (simp only [sq, List.map_toArray, List.map_cons, List.map_nil]; exact fill43s x.t.page x.t.rts)
                  have hlit : Blk (V.alloc (.cells #[.int .u16 x.t.page, .int .u32 x.t.rts] 43)) V.heap.size (seC (x.t.page, x.t.rts)).toArray 43 := Blk.alloc_new _ _ _
                  have al := (Below.refl V.heap.size V).alloc (Nat.le_refl _) (.cells #[.int .u16 x.t.page, .int .u32 x.t.rts] 43)
                  have hG1 := hG.go al
                  replace hB9 := hB9.below al
                  clear hG hS al
                  have hS := And.intro (hG1.ot.cell hx0.out (j := 3) rfl) hB9
                  refine ⟨hS, ?_⟩
                  (try simp only [Act.put, Z1, Z2, Z3, Z4, Z5, Z6])
                  generalize V.alloc (.cells #[.int .u16 x.t.page, .int .u32 x.t.rts] 43) = V1 at *
                  generalize V.heap.size = lb at *
                  have hr6 := hG1.key.lt
                  have hlx := (hN.out.l x0 hm0.out).1
                  refine anyK_one 13 _ (by kernel_rfl) rfl rfl (wp_append_src _ _ 33 rfl (w.heap.size + 1) 43 iq _ 2 8 Try.underlying33 hiq zq sq yq rfl (by decide) x0.2.1 x0.1.reads.length _ rfl (hG1.ot.rd i x0 hx0.out) _ 1 (seC (x.t.page, x.t.rts)) rfl (src_blk hlit) rfl (fun u hu => by simp [seC] at hu; rcases hu with rfl | rfl <;> rfl) ?_ ?_ ?_ ?_)
                  · unfold maxLen; omega
                  · omega
                  · omega
                  intro v3 W3 own3 gr3 _ hl3
                  have hF3 := Fr.of_grown gr3
                  have hgn : x0.2.1.ownBlock ≠ some g := fun e => hG1.ot.nv i x0 false g hx0.out e rfl
                  have hgl := (hG1.ot.own.lt g rfl).2
                  have hfz := frozen_fr hF3 hgl hgn (hG1.ot.free hx0.out (i * 5 + 3))
                  have hS : W3.cell? ⟨g, i * 5 + 3, none⟩ = some x0.2.1 ∧ Blk W3 bx (tdL x).toArray 61 := ⟨cell_fr hF3 hgl hgn hS.1, hB9.fr hF3 fun e => by rcases sel_ne_blk hG1.ot hx0.out (c := false) e hB9 with e | e <;> exact absurd e (by decide)⟩
                  refine ⟨hS, ?_⟩
                  (try simp only [Act.put, Z1, Z2, Z3, Z4, Z5, Z6])
                  refine anyK_pure 14 _ ?_ rfl (by kernel_rfl) (by kernel_rfl) (by kernel_rfl) (fun _ _ _ h => h) (by decide) rfl ?_ hS ?_
                  rotate_left
                  · (intro w'; go_simp; (try with_reducible rfl))
                  (try simp only [Act.put, Z1, Z2, Z3, Z4, Z5, Z6])
                  refine anyK_pure 15 _ ?_ rfl (by kernel_rfl) (by kernel_rfl) (by kernel_rfl) (fun _ _ _ h => h) (by decide) rfl ?_ hS ?_
                  rotate_left
                  · (intro w'; go_simp; (try with_reducible rfl))
                  (try simp only [Act.put, Z1, Z2, Z3, Z4, Z5, Z6])
                  refine anyK_last _ (by kernel_rfl) rfl (by decide) rfl (wp_store_one 33 _ _ rfl ⟨g, i * 5 + 3, none⟩ x0.2.1 v3 rfl rfl size33 (own_one own3) hS.1 hfz ?_)
                  refine anyK_done (by kernel_rfl) ?_ _
                  obtain ⟨Y, hY⟩ : ∃ Y : Rec, Y = ({ x0.1 with reads := x0.1.reads ++ [(x.t.page, x.t.rts)] }, v3, x0.2.2) := ⟨_, rfl⟩
                  have hS9 : OS w (W3.setCell ⟨g, i * 5 + 3, none⟩ v3) w.heap.size (.slice (some ⟨g, 0, none⟩) R.length capv) (R.set i Y) B := by
                    have hp0 := hG1.ot.ok x0 hm0.out
                    rw [hY]
                    refine hG1.upd hx0.out false gr3 (y := ({ x0.1 with reads := x0.1.reads ++ [(x.t.page, x.t.rts)] }, v3, x0.2.2)) rfl ?_ (own_fr (hG1.ot.wt i x0 hx0.out) hF3 fun b hb e => absurd (hG1.ot.ne i i x0 x0 false true b hx0.out hx0.out e hb).2 (by decide)) hl3 (j := 3) (u := v3) rfl (by decide) ⟨hp0.start, hp0.commit, fun v hv => ?_, hp0.writes, ?_, hp0.wl⟩ rfl
                    · show W3.ownsRow _ 43 2 v3 (x0.1.reads ++ [(x.t.page, x.t.rts)]).length ((x0.1.reads ++ [(x.t.page, x.t.rts)]).flatMap seC)
                      rw [List.length_append, List.flatMap_append]
                      simpa using own3
                    · rcases List.mem_append.1 hv with hv | hv
                      · exact hp0.reads v hv
                      · rw [List.mem_singleton.1 hv]; exact ⟨hok.out.page, hok.out.rts⟩
                    · show (x0.1.reads ++ [(x.t.page, x.t.rts)]).length ≤ 1000
                      rw [List.length_append]; simp; omega
                  have hup : Hid (Y.1 = P.upd x0.1 x.t) := by unfold Hid; rw [hY, upd_rd hk1.out hm.out]
                  have hlY : Hid (Y.1.reads.length ≤ x0.1.reads.length + 1 ∧ Y.1.writes.length ≤ x0.1.writes.length + 1) := by unfold Hid; rw [hY]; simp
                  clear hG1 own3 gr3 hl3 hF3 hgn hfz hS hB9 hlit hY
                  generalize W3.setCell ⟨g, i * 5 + 3, none⟩ v3 = W4 at *
                  have hst2 : Hid ((tds (T.take (k + 1))).foldl P.ofS ([], []) = (B, his (R.set i Y))) := by unfold Hid; rw [hstep.out]; exact ofS_upd hcn.out hk0.out hgi.out hx0.out hup.out
                  have hN2 : Hid (Nk (R.set i Y) (k + 1)) := hN.out.set (by have := hN.out.l x0 hm0.out; have := hlY.out; omega) (by have := hN.out.l x0 hm0.out; have := hlY.out; omega)
                  clear hstep hN hup hlY
                  generalize R.set i Y = R2 at *
                  go_wp2_with fail
                  go_roundw
                  case rel => exact ⟨k + 1, R2, B, by go_num, by omega, hS9, hst2, hN2⟩
                  case measure => simp [intOf]; omega
              · have hk1' : (x.t.kind == 1) = false := by simp [hk1]
                replace hk1 := Lib.hid hk1
                by_cases hk2 : x.t.kind = 2
                · have hk2' : (x.t.kind == 2) = true := by simp [hk2]
                  replace hk2 := Lib.hid hk2
                  go_upto_region 19 with (fail)
                  refine wp_region_held (S := (fun w' => OS w w' w.heap.size (.slice (some ⟨g, 0, none⟩) R.length capv) R B ∧ Blk w' bx (tdL x).toArray 61)) (by kernel_rfl) ?_
                  change wpAnyH _ _ _ _ _ _ _ _ (World.drew _)
                  (try simp only [Act.put])
                  replace hS := And.intro (hS.go (Below.refl _ _).drew) hB9.drew
                  have hrw2 := hrw.below (Below.refl _ _).drew
                  clear hB9 hrw
                  generalize w8.drew = V at *
                  refine anyH_pure 0 _ ?_ rfl (by kernel_rfl) (by kernel_rfl) (by kernel_rfl) (fun _ _ _ h => h) rfl ?_ hS ?_
                  rotate_left
                  · (intro w'; go_simp; (try with_reducible rfl))
                  (try simp only [Act.put, Z1, Z2, Z4, Z5, Z6])
                  refine anyH_pure 1 _ ?_ rfl (by kernel_rfl) (by kernel_rfl) (by kernel_rfl) (fun _ _ _ h => h) rfl ?_ hS ?_
                  rotate_left
                  · (intro w'; go_simp; (try with_reducible rfl))
                  (try simp only [Act.put, Z1, Z2, Z3, Z4, Z5, Z6])
                  refine anyH_pure 2 _ ?_ rfl (by kernel_rfl) (by kernel_rfl) (by kernel_rfl) (fun _ _ _ h => h) rfl ?_ hS ?_
                  rotate_left
                  · (intro w'; go_simp; (try with_reducible rfl))
                  (try simp only [Act.put, Z1, Z2, Z3, Z4, Z5, Z6])
                  refine anyH_if 3 _ ?_ rfl (by kernel_rfl) (by kernel_rfl) (by kernel_rfl) (fun _ _ _ h => h) rfl ?_ hS ?_
                  rotate_left
                  · (intro w' h; have c0 := cell4.out w' h.1; go_simp; (try with_reducible rfl))
                  (try simp only [Act.put, Z1, Z2, Z3, Z4, Z5, Z6])
                  refine anyH_pure 4 _ ?_ rfl (by kernel_rfl) (by kernel_rfl) (by kernel_rfl) (fun _ _ _ h => h) rfl ?_ hS ?_
                  rotate_left
                  · (intro w'; go_simp; (try with_reducible rfl))
                  (try simp only [Act.put, Z1, Z2, Z3, Z4, Z5, Z6])
                  refine anyH_pure 5 _ ?_ rfl (by kernel_rfl) (by kernel_rfl) (by kernel_rfl) (fun _ _ _ h => h) rfl ?_ hS ?_
                  rotate_left
                  · (intro w'; go_simp; (try with_reducible rfl))
                  (try simp only [Act.put, Z1, Z2, Z3, Z4, Z5, Z6])
                  refine anyH_if 6 _ ?_ rfl (by kernel_rfl) (by kernel_rfl) (by kernel_rfl) (fun _ _ _ h => h) rfl ?_ hS ?_
                  rotate_left
                  · (intro w' h; have c0 := (tp h.2); go_simp; (try with_reducible rfl))
                  (try simp only [Act.put, Z1, Z2, Z3, Z4, Z5, Z6])
                  have hca := has_any (cap := capw) hrw2 (by have := (hN.out.l x0 hm0.out).2; omega) x.t.page
                  refine anyH_callR 7 _ _ _ _ (by kernel_rfl) rfl rfl (by go_simp) (_) (hca) ?_
                  intro w5 hb5
                  replace hS := And.intro (hS.1.go hb5) (hS.2.below hb5)
                  refine ⟨hS, ?_⟩
                  clear hca hb5 hrw2
                  (try simp only [Act.put, Z1, Z2, Z3, Z4, Z5, Z6])
                  cases hm : decide (x.t.page ∈ x0.1.writes) with
                  | true =>
                    replace hm := Lib.hid (of_decide_eq_true hm)
                    refine anyH_pure 8 _ ?_ rfl (by kernel_rfl) (by kernel_rfl) (by kernel_rfl) (fun _ _ _ h => h) rfl ?_ hS ?_
                    rotate_left
                    · (intro w'; go_simp; (try with_reducible rfl))
                    (try simp only [Act.put, Z1, Z2, Z3, Z4, Z5, Z6])
                    refine wpAnyH_done (by kernel_rfl) ?_ _
                    replace hS := hS.1
                    have hst2 : Hid ((tds (T.take (k + 1))).foldl P.ofS ([], []) = (B, his R)) := by unfold Hid; rw [hstep.out]; exact ofS_same hcn.out hk0.out hgi.out hx0.out (upd_wt' hk2.out hm.out)
                    have hN2 : Hid (Nk R (k + 1)) := hN.out.up
                    clear hstep hN
                    go_wp2_with fail
                    go_roundw
                    case rel => exact ⟨k + 1, R, B, by go_num, by omega, hS, hst2, hN2⟩
                    case measure => simp [intOf]; omega
                  | false =>
                    replace hm := Lib.hid (of_decide_eq_false hm)
                    refine anyH_pure 8 _ ?_ rfl (by kernel_rfl) (by kernel_rfl) (by kernel_rfl) (fun _ _ _ h => h) rfl ?_ hS ?_
                    rotate_left
                    · (intro w'; go_simp; (try with_reducible rfl))
                    (try simp only [Act.put, Z1, Z2, Z3, Z4, Z5, Z6])
                    refine wpAnyH_done (by kernel_rfl) ?_ _
                    obtain ⟨hS, hB9⟩ := hS
                    clear hk1' hk2'
                    go_upto_region 20 with (fail)
                    refine wp_region_K (k := 12) (S := (fun w' => w'.cell? ⟨g, i * 5 + 4, none⟩ = some x0.2.2 ∧ Blk w' bx (tdL x).toArray 61)) (by kernel_rfl) ?_
                    change wpAnyK _ _ _ _ _ _ _ _ _ (World.drew _)
                    (try simp only [Act.put])
                    have hG := hS.go (Below.refl _ _).drew
                    replace hB9 := hB9.drew
                    clear hS
                    generalize w5.drew = V at *
                    have hS : V.cell? ⟨g, i * 5 + 4, none⟩ = some x0.2.2 ∧ Blk V bx (tdL x).toArray 61 := ⟨hG.ot.cell hx0.out rfl, hB9⟩
                    refine anyK_pure 0 _ ?_ rfl (by kernel_rfl) (by kernel_rfl) (by kernel_rfl) (fun _ _ _ h => h) (by decide) rfl ?_ hS ?_
                    rotate_left
                    · (intro w'; go_simp; (try with_reducible rfl))
                    (try simp only [Act.put, Z1, Z2, Z4, Z5, Z6])
                    refine anyK_pure 1 _ ?_ rfl (by kernel_rfl) (by kernel_rfl) (by kernel_rfl) (fun _ _ _ h => h) (by decide) rfl ?_ hS ?_
                    rotate_left
                    · (intro w'; go_simp; (try with_reducible rfl))
                    (try simp only [Act.put, Z1, Z2, Z3, Z4, Z5, Z6])
                    refine anyK_pure 2 _ ?_ rfl (by kernel_rfl) (by kernel_rfl) (by kernel_rfl) (fun _ _ _ h => h) (by decide) rfl ?_ hS ?_
                    rotate_left
                    · (intro w'; go_simp; (try with_reducible rfl))
                    (try simp only [Act.put, Z1, Z2, Z3, Z4, Z5, Z6])
                    refine anyK_pure 3 _ ?_ rfl (by kernel_rfl) (by kernel_rfl) (by kernel_rfl) (fun _ _ _ h => h) (by decide) rfl ?_ hS ?_
                    rotate_left
                    · (intro w'; go_simp; (try with_reducible rfl))
                    (try simp only [Act.put, Z1, Z2, Z3, Z4, Z5, Z6])
                    refine anyK_if 4 _ ?_ rfl (by kernel_rfl) (by kernel_rfl) (by kernel_rfl) (fun _ _ _ h => h) (by decide) (by kernel_rfl) (by kernel_rfl) rfl ?_ hS ?_
                    rotate_left
                    · (intro w' h; have c0 := h.1; go_simp; (try with_reducible rfl))
                    (try simp only [Act.put, Z1, Z2, Z3, Z4, Z5, Z6])
                    refine anyK_pure 5 _ ?_ rfl (by kernel_rfl) (by kernel_rfl) (by kernel_rfl) (fun _ _ _ h => h) (by decide) rfl ?_ hS ?_
                    rotate_left
                    · (intro w'; go_simp; (try with_reducible rfl))
                    (try simp only [Act.put, Z1, Z2, Z3, Z4, Z5, Z6])
                    refine anyK_pure 6 _ ?_ rfl (by kernel_rfl) (by kernel_rfl) (by kernel_rfl) (fun _ _ _ h => h) (by decide) rfl ?_ hS ?_
                    rotate_left
                    · (intro w'; go_simp; (try with_reducible rfl))
                    (try simp only [Act.put, Z1, Z2, Z3, Z4, Z5, Z6])
                    refine anyK_if 7 _ ?_ rfl (by kernel_rfl) (by kernel_rfl) (by kernel_rfl) (fun _ _ _ h => h) (by decide) (by kernel_rfl) (by kernel_rfl) rfl ?_ hS ?_
                    rotate_left
                    · (intro w' h; have c0 := (tp h.2); go_simp; (try with_reducible rfl))
                    (try simp only [Act.put, Z1, Z2, Z3, Z4, Z5, Z6])
                    refine anyK_one 8 _ (by kernel_rfl) rfl rfl (wp_buildSlice 34 41 1 _ rfl #[.int .u16 x.t.page] ip _ Try.underlying34 hip zp (by rw [sp]; decide) (by rw [sp]; decide) ?c1 ?_)
                    case c1 => (simp only [sp, List.map_toArray, List.map_cons, List.map_nil]; exact fill41 x.t.page)
                    have hlit : Blk (V.alloc (.cells #[.int .u16 x.t.page] 41)) V.heap.size (pgC x.t.page).toArray 41 := Blk.alloc_new _ _ _
                    have al := (Below.refl V.heap.size V).alloc (Nat.le_refl _) (.cells #[.int .u16 x.t.page] 41)
                    have hG1 := hG.go al
                    replace hB9 := hB9.below al
                    clear hG hS al
                    have hS := And.intro (hG1.ot.cell hx0.out (j := 4) rfl) hB9
                    refine ⟨hS, ?_⟩
                    (try simp only [Act.put, Z1, Z2, Z3, Z4, Z5, Z6])
                    generalize V.alloc (.cells #[.int .u16 x.t.page] 41) = V1 at *
                    generalize V.heap.size = lb at *
                    have hr6 := hG1.key.lt
                    have hlx := (hN.out.l x0 hm0.out).2
                    refine anyK_one 9 _ (by kernel_rfl) rfl rfl (wp_append_src _ _ 34 rfl (w.heap.size + 1) 41 ip _ 1 2 Try.underlying34 hip zp sp yp rfl (by decide) x0.2.2 x0.1.writes.length _ rfl (hG1.ot.wt i x0 hx0.out) _ 1 (pgC x.t.page) rfl (src_blk hlit) rfl (fun u hu => by simp [pgC] at hu; rw [hu]; rfl) ?_ ?_ ?_ ?_)
                    · unfold maxLen; omega
                    · omega
                    · omega
                    intro v3 W3 own3 gr3 _ hl3
                    have hF3 := Fr.of_grown gr3
                    have hgn : x0.2.2.ownBlock ≠ some g := fun e => hG1.ot.nv i x0 true g hx0.out e rfl
                    have hgl := (hG1.ot.own.lt g rfl).2
                    have hfz := frozen_fr hF3 hgl hgn (hG1.ot.free hx0.out (i * 5 + 4))
                    have hS : W3.cell? ⟨g, i * 5 + 4, none⟩ = some x0.2.2 ∧ Blk W3 bx (tdL x).toArray 61 := ⟨cell_fr hF3 hgl hgn hS.1, hB9.fr hF3 fun e => by rcases sel_ne_blk hG1.ot hx0.out (c := true) e hB9 with e | e <;> exact absurd e (by decide)⟩
                    refine ⟨hS, ?_⟩
                    (try simp only [Act.put, Z1, Z2, Z3, Z4, Z5, Z6])
                    refine anyK_pure 10 _ ?_ rfl (by kernel_rfl) (by kernel_rfl) (by kernel_rfl) (fun _ _ _ h => h) (by decide) rfl ?_ hS ?_
                    rotate_left
                    · (intro w'; go_simp; (try with_reducible rfl))
                    (try simp only [Act.put, Z1, Z2, Z3, Z4, Z5, Z6])
                    refine anyK_pure 11 _ ?_ rfl (by kernel_rfl) (by kernel_rfl) (by kernel_rfl) (fun _ _ _ h => h) (by decide) rfl ?_ hS ?_
                    rotate_left
                    · (intro w'; go_simp; (try with_reducible rfl))
                    (try simp only [Act.put, Z1, Z2, Z3, Z4, Z5, Z6])
                    refine anyK_last _ (by kernel_rfl) rfl (by decide) rfl (wp_store_one 34 _ _ rfl ⟨g, i * 5 + 4, none⟩ x0.2.2 v3 rfl rfl size34 (own_one own3) hS.1 hfz ?_)
                    refine anyK_done (by kernel_rfl) ?_ _
                    obtain ⟨Y, hY⟩ : ∃ Y : Rec, Y = ({ x0.1 with writes := x0.1.writes ++ [x.t.page] }, x0.2.1, v3) := ⟨_, rfl⟩
                    have hS9 : OS w (W3.setCell ⟨g, i * 5 + 4, none⟩ v3) w.heap.size (.slice (some ⟨g, 0, none⟩) R.length capv) (R.set i Y) B := by
                      have hp0 := hG1.ot.ok x0 hm0.out
                      rw [hY]
                      refine hG1.upd hx0.out true gr3 (y := ({ x0.1 with writes := x0.1.writes ++ [x.t.page] }, x0.2.1, v3)) rfl (own_fr (hG1.ot.rd i x0 hx0.out) hF3 fun b hb e => absurd (hG1.ot.ne i i x0 x0 true false b hx0.out hx0.out e hb).2 (by decide)) ?_ hl3 (j := 4) (u := v3) rfl (by decide) ⟨hp0.start, hp0.commit, hp0.reads, fun p hp => ?_, hp0.rl, ?_⟩ rfl
                      · show W3.ownsRow _ 41 1 v3 (x0.1.writes ++ [x.t.page]).length ((x0.1.writes ++ [x.t.page]).flatMap pgC)
                        rw [List.length_append, List.flatMap_append]
                        simpa using own3
                      · rcases List.mem_append.1 hp with hp | hp
                        · exact hp0.writes p hp
                        · rw [List.mem_singleton.1 hp]; exact hok.out.page
                      · show (x0.1.writes ++ [x.t.page]).length ≤ 1000
                        rw [List.length_append]; simp; omega
                    have hup : Hid (Y.1 = P.upd x0.1 x.t) := by unfold Hid; rw [hY, upd_wt hk2.out hm.out]
                    have hlY : Hid (Y.1.reads.length ≤ x0.1.reads.length + 1 ∧ Y.1.writes.length ≤ x0.1.writes.length + 1) := by unfold Hid; rw [hY]; simp
                    clear hG1 own3 gr3 hl3 hF3 hgn hfz hS hB9 hlit hY
                    generalize W3.setCell ⟨g, i * 5 + 4, none⟩ v3 = W4 at *
                    have hst2 : Hid ((tds (T.take (k + 1))).foldl P.ofS ([], []) = (B, his (R.set i Y))) := by unfold Hid; rw [hstep.out]; exact ofS_upd hcn.out hk0.out hgi.out hx0.out hup.out
                    have hN2 : Hid (Nk (R.set i Y) (k + 1)) := hN.out.set (by have := hN.out.l x0 hm0.out; have := hlY.out; omega) (by have := hN.out.l x0 hm0.out; have := hlY.out; omega)
                    clear hstep hN hup hlY
                    generalize R.set i Y = R2 at *
                    go_wp2_with fail
                    go_roundw
                    case rel => exact ⟨k + 1, R2, B, by go_num, by omega, hS9, hst2, hN2⟩
                    case measure => simp [intOf]; omega
                · have hk2' : (x.t.kind == 2) = false := by simp [hk2]
                  replace hk2 := Lib.hid hk2
                  by_cases hk3 : x.t.kind = 3
                  · have hk3' : (x.t.kind == 3) = true := by simp [hk3]
                    replace hk3 := Lib.hid hk3
                    have hbg : bx ≠ g := fun e => by have := own_ne_blk hS.ot.own (b := bx) (by rw [e]; rfl) hB9; exact absurd this (by decide)
                    have hp0 := Lib.hid (hS.ot.ok x0 hm0.out)
                    obtain ⟨Y, hY⟩ : ∃ Y : Rec, Y = ({ x0.1 with done := true }, x0.2.1, x0.2.2) := ⟨_, rfl⟩
                    have hS1 : OS w (w8.setCell ⟨g, i * 5 + 2, none⟩ (.bool true)) w.heap.size (.slice (some ⟨g, 0, none⟩) R.length capv) (R.set i Y) B := by
                      rw [hY]
                      exact hS.upd hx0.out false (grown_refl _ _) (y := ({ x0.1 with done := true }, x0.2.1, x0.2.2)) rfl (hS.ot.rd i x0 hx0.out) (hS.ot.wt i x0 hx0.out) (.inl rfl) (j := 2) (u := .bool true) rfl (by decide) ⟨hp0.out.start, hp0.out.commit, hp0.out.reads, hp0.out.writes, hp0.out.rl, hp0.out.wl⟩ rfl
                    go_upto_region 22 with (fail)
                    refine no_implicit_lambda% (wp_region_lit ?_)
                    iterate 3
                      refine no_implicit_lambda% (wpl_val ?_ rfl ?_ ?_)
                      rotate_left
                      · (go_simp; (try with_reducible rfl))
                      (try simp only [Act.put, Z1, Z2, Z3, Z4, Z5, Z6])
                    refine wpl_law rfl (wp_store_one 4 _ _ rfl ⟨g, i * 5 + 2, none⟩ (.bool x0.1.done) (.bool true) rfl rfl size4 rfl (hS.ot.cell hx0.out rfl) (hS.ot.free hx0.out _) ?_)
                    (try simp only [Act.put, Z1, Z2, Z3, Z4, Z5, Z6])
                    refine no_implicit_lambda% (wpList_nil ?_)
                    replace hB9 := hB9.fr ((Fr.refl (fun b => b = g) w8).setCell ⟨g, i * 5 + 2, none⟩ (.bool true) fun _ => rfl) hbg
                    clear hS hk1' hk2' hk3' hrw cell4
                    generalize w8.setCell ⟨g, i * 5 + 2, none⟩ (.bool true) = W2 at *
                    have hx1 : (R.set i Y)[i]? = some Y := by rw [List.getElem?_set_self hilt]
                    have c4 : W2.cell? ⟨g, i * 5 + 4, none⟩ = some (.slice aow x0.1.writes.length capw) := by rw [← hwv.out]; exact hS1.ot.cell hx1 (j := 4) (by rw [hY]; rfl)
                    by_cases hw0 : 0 < x0.1.writes.length
                    · have d1 : (0 : Int) < (x0.1.writes.length : Int) := by omega
                      have d2 : decide ((0 : Int) < (x0.1.writes.length : Int)) = true := by simp; omega
                      go_upto_region 23 with (fail)
                      refine no_implicit_lambda% (wp_region_lit ?_)
                      iterate 3
                        refine no_implicit_lambda% (wpl_val ?_ rfl ?_ ?_)
                        rotate_left
                        · (go_simp; (try with_reducible rfl))
                        (try simp only [Act.put, Z1, Z2, Z3, Z4, Z5, Z6])
                      refine no_implicit_lambda% (wpl_val ?_ rfl ?_ ?_)
                      rotate_left
                      · (have c0 := c4; go_simp; (try with_reducible rfl))
                      (try simp only [Act.put, Z1, Z2, Z3, Z4, Z5, Z6])
                      refine no_implicit_lambda% (wpl_val ?_ rfl ?_ ?_)
                      rotate_left
                      · (go_simp; (try with_reducible rfl))
                      (try simp only [Act.put, Z1, Z2, Z3, Z4, Z5, Z6])
                      refine no_implicit_lambda% (wpl_val ?_ rfl ?_ ?_)
                      rotate_left
                      · (go_simp; (try with_reducible rfl))
                      (try simp only [Act.put, Z1, Z2, Z3, Z4, Z5, Z6])
                      refine no_implicit_lambda% (wpList_nil ?_)
                      clear c4 d1 d2
                      obtain ⟨Z, hZ⟩ : ∃ Z : Rec, Z = ({ x0.1 with done := true, commit := x.t.rts }, x0.2.1, x0.2.2) := ⟨_, rfl⟩
                      have hS2 : OS w (W2.setCell ⟨g, i * 5 + 1, none⟩ (.int .u32 x.t.rts)) w.heap.size (.slice (some ⟨g, 0, none⟩) R.length capv) (R.set i Z) B := by
                        have h1 := hS1.ot.rd i Y hx1
                        have h2 := hS1.ot.wt i Y hx1
                        have h3 := hS1.upd hx1 false (grown_refl _ _) (y := Z) (by rw [hZ, hY]; rfl) (by rw [hZ]; rw [hY] at h1; exact h1) (by rw [hZ]; rw [hY] at h2; exact h2) (by rw [hZ, hY]; exact .inl rfl) (j := 1) (u := .int .u32 x.t.rts) (by rw [hZ, hY]; rfl) (by decide) (by rw [hZ]; exact ⟨hp0.out.start, hok.out.rts, hp0.out.reads, hp0.out.writes, hp0.out.rl, hp0.out.wl⟩) rfl
                        rwa [List.set_set] at h3
                      go_upto_region 24 with (fail)
                      refine no_implicit_lambda% (wp_region_lit ?_)
                      iterate 3
                        refine no_implicit_lambda% (wpl_val ?_ rfl ?_ ?_)
                        rotate_left
                        · (go_simp; (try with_reducible rfl))
                        (try simp only [Act.put, Z1, Z2, Z3, Z4, Z5, Z6])
                      refine no_implicit_lambda% (wpl_val ?_ rfl ?_ ?_)
                      rotate_left
                      · (have c0 := (ts hB9); go_simp; (try with_reducible rfl))
                      (try simp only [Act.put, Z1, Z2, Z3, Z4, Z5, Z6])
                      iterate 2
                        refine no_implicit_lambda% (wpl_val ?_ rfl ?_ ?_)
                        rotate_left
                        · (go_simp; (try with_reducible rfl))
                        (try simp only [Act.put, Z1, Z2, Z3, Z4, Z5, Z6])
                      refine wpl_law rfl (wp_store_one 32 _ _ rfl ⟨g, i * 5 + 1, none⟩ (.int .u32 x0.1.commit) (.int .u32 x.t.rts) rfl rfl size32 rfl (hS1.ot.cell hx1 (j := 1) (by rw [hY]; rfl)) (hS1.ot.free hx1 _) ?_)
                      (try simp only [Act.put, Z1, Z2, Z3, Z4, Z5, Z6])
                      refine no_implicit_lambda% (wpList_nil ?_)
                      have hup : Hid (Z.1 = P.upd x0.1 x.t) := by unfold Hid; rw [hZ, upd_cm hk3.out, if_pos hw0]
                      have hlY : Hid (Z.1.reads.length ≤ x0.1.reads.length + 1 ∧ Z.1.writes.length ≤ x0.1.writes.length + 1) := by unfold Hid; rw [hZ]; simp
                      have hS9 := hS2
                      clear hS1 hS2 hB9 hx1 hY hZ
                      clear Y
                      generalize W2.setCell ⟨g, i * 5 + 1, none⟩ (.int .u32 x.t.rts) = W4 at *
                      obtain ⟨Y, rfl⟩ : ∃ Y, Y = Z := ⟨_, rfl⟩
                      have hst2 : Hid ((tds (T.take (k + 1))).foldl P.ofS ([], []) = (B, his (R.set i Y))) := by unfold Hid; rw [hstep.out]; exact ofS_upd hcn.out hk0.out hgi.out hx0.out hup.out
                      have hN2 : Hid (Nk (R.set i Y) (k + 1)) := hN.out.set (by have := hN.out.l x0 hm0.out; have := hlY.out; omega) (by have := hN.out.l x0 hm0.out; have := hlY.out; omega)
                      clear hstep hN hup hlY
                      generalize R.set i Y = R2 at *
                      go_wp2_with fail
                      go_roundw
                      case rel => exact ⟨k + 1, R2, B, by go_num, by omega, hS9, hst2, hN2⟩
                      case measure => simp [intOf]; omega
                    · have d0 : x0.1.writes.length = 0 := by omega
                      have d1 : ¬ (0 : Int) < (x0.1.writes.length : Int) := by omega
                      have d2 : decide ((0 : Int) < (x0.1.writes.length : Int)) = false := decide_eq_false d1
                      have hwn : x0.1.writes = [] := List.eq_nil_of_length_eq_zero d0
                      rw [d0] at c4
                      go_upto_region 23 with (fail)
                      refine no_implicit_lambda% (wp_region_lit ?_)
                      iterate 3
                        refine no_implicit_lambda% (wpl_val ?_ rfl ?_ ?_)
                        rotate_left
                        · (go_simp; (try with_reducible rfl))
                        (try simp only [Act.put, Z1, Z2, Z3, Z4, Z5, Z6])
                      refine no_implicit_lambda% (wpl_val ?_ rfl ?_ ?_)
                      rotate_left
                      · (have c0 := c4; go_simp; (try with_reducible rfl))
                      (try simp only [Act.put, Z1, Z2, Z3, Z4, Z5, Z6])
                      refine no_implicit_lambda% (wpl_val ?_ rfl ?_ ?_)
                      rotate_left
                      · (go_simp; (try with_reducible rfl))
                      (try simp only [Act.put, Z1, Z2, Z3, Z4, Z5, Z6])
                      refine no_implicit_lambda% (wpl_val ?_ rfl ?_ ?_)
                      rotate_left
                      · (go_simp; (try with_reducible rfl))
                      (try simp only [Act.put, Z1, Z2, Z3, Z4, Z5, Z6])
                      refine no_implicit_lambda% (wpList_nil ?_)
                      have hup : Hid (Y.1 = P.upd x0.1 x.t) := by unfold Hid; rw [hY, upd_cm hk3.out, if_neg hw0]
                      have hlY : Hid (Y.1.reads.length ≤ x0.1.reads.length + 1 ∧ Y.1.writes.length ≤ x0.1.writes.length + 1) := by unfold Hid; rw [hY]; simp
                      have hS9 := hS1
                      clear c4 d1 d2 d0 hwn hS1 hB9 hx1 hY
                      have hst2 : Hid ((tds (T.take (k + 1))).foldl P.ofS ([], []) = (B, his (R.set i Y))) := by unfold Hid; rw [hstep.out]; exact ofS_upd hcn.out hk0.out hgi.out hx0.out hup.out
                      have hN2 : Hid (Nk (R.set i Y) (k + 1)) := hN.out.set (by have := hN.out.l x0 hm0.out; have := hlY.out; omega) (by have := hN.out.l x0 hm0.out; have := hlY.out; omega)
                      clear hstep hN hup hlY
                      generalize R.set i Y = R2 at *
                      go_wp2_with fail
                      go_roundw
                      case rel => exact ⟨k + 1, R2, B, by go_num, by omega, hS9, hst2, hN2⟩
                      case measure => simp [intOf]; omega
                  · have hk3' : (x.t.kind == 3) = false := by simp [hk3]
                    replace hk3 := Lib.hid hk3
                    clear hB9
                    have hst2 : Hid ((tds (T.take (k + 1))).foldl P.ofS ([], []) = (B, his R)) := by unfold Hid; rw [hstep.out]; exact ofS_same hcn.out hk0.out hgi.out hx0.out (upd_no hk1.out hk2.out hk3.out)
                    have hN2 : Hid (Nk R (k + 1)) := hN.out.up
                    clear hstep hN
                    go_wp2_with fail
                    go_roundw
                    case rel => exact ⟨k + 1, R, B, by go_num, by omega, hS, hst2, hN2⟩
                    case measure => simp [intOf]; omega
        · have hoff : Hid (¬ x.t.cnt = true) := by unfold Hid P.Td.cnt; simp [her]
          have her' : (x.t.err != 0) = true := by simp [her]
          replace her := Lib.hid her
          clear hop
          go_upto_region 6 with (fail)
          refine no_implicit_lambda% (wp_region_lit ?_)
          refine no_implicit_lambda% (wpl_val ?_ rfl ?_ ?_)
          rotate_left
          · (go_simp; (try with_reducible rfl))
          (try simp only [Act.put, Z1, Z2, Z4, Z5, Z6])
          refine no_implicit_lambda% (wpl_val ?_ rfl ?_ ?_)
          rotate_left
          · (have c0 := f9; go_simp; (try with_reducible rfl))
          (try simp only [Act.put, Z1, Z2, Z3, Z4, Z5, Z6])
          iterate 3
            refine no_implicit_lambda% (wpl_val ?_ rfl ?_ ?_)
            rotate_left
            · (go_simp; (try with_reducible rfl))
            (try simp only [Act.put, Z1, Z2, Z3, Z4, Z5, Z6])
          refine no_implicit_lambda% (wpl_val ?_ rfl ?_ ?_)
          rotate_left
          · (have c0 := (te hB9); go_simp; (try with_reducible rfl))
          (try simp only [Act.put, Z1, Z2, Z3, Z4, Z5, Z6])
          iterate 2
            refine no_implicit_lambda% (wpl_val ?_ rfl ?_ ?_)
            rotate_left
            · (go_simp; (try with_reducible rfl))
            (try simp only [Act.put, Z1, Z2, Z3, Z4, Z5, Z6])
          refine no_implicit_lambda% (wpList_nil ?_)
          clear f9 hB9 her'
          have hst2 : Hid ((tds (T.take (k + 1))).foldl P.ofS ([], []) = (B, his R)) := by unfold Hid; rw [hstep.out]; exact ofS_off hoff.out _
          have hN2 : Hid (Nk R (k + 1)) := hN.out.up
          clear hstep hN
          go_wp2_with fail
          go_roundw
          case rel => exact ⟨k + 1, R, B, by go_num, by omega, hS, hst2, hN2⟩
          case measure => simp [intOf]; omega
    · obtain rfl : k = T.length := by omega
      rw [List.take_length] at hst
      have hfin : Hid (his R = P.hof (tds T)) := by unfold Hid P.hof; rw [hst.out]
      have hRk := hN.out.n
      clear hst hlt hN
      go_wp2_with fail
      go_ret
      exact ⟨_, R, w.heap.size + 1, rfl, hS.ot, by omega, hfin.out, hRk, hS.bel⟩
end Go.Proofs.Ytnemaolbmocncaa
