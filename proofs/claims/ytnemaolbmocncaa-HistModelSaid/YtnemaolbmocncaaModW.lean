/- The walk of HistModel. -/
import Derived.Test.YtnemaolbmocncaaMLaw3
import Derived.Test.YtnemaolbmocncaaOfW
namespace Go.Proofs.Ytnemaolbmocncaa
open Go.RowKit
set_option linter.unusedSimpArgs false
set_option linter.unusedVariables false
attribute [local irreducible] wpList
attribute [local irreducible] tdL
/-- The machine, and what it was told. -/
structure HS (w W : World) (m : MW) (M : P.Md) (v : Value) (T : List Tr) : Prop where
  bel : Below w.heap.size w W
  ms : MS w.heap.size W m M
  own : W.ownsRow w.heap.size 61 77 v T.length (T.flatMap tdL)
  dis : ∀ b, v.ownBlock = some b → ¬ m.own b
section
variable {w W W' : World} {m : MW} {M : P.Md} {v : Value} {T : List Tr}
theorem HS.go (h : HS w W m M v T) (k : Below W.heap.size W W') : HS w W' m M v T :=
  ⟨h.bel.trans (k.mono h.bel.size), h.ms.go k, own_fr h.own (Fr.of_below k fun _ => False) (fun _ _ e => e), h.dis⟩
/-- A call. -/
theorem HS.call (h : HS w W m M v T) {m' : MW} {M' : P.Md} (hm : MS w.heap.size W' m' M') (k : Fr m.own W W') (ho : ∀ b, m'.own b → m.own b ∨ W.heap.size ≤ b) : HS w W' m' M' v T :=
  ⟨Fr.below h.bel k (Nat.le_refl _) fun i ⟨lb, hi⟩ => h.ms.lo lb i hi, hm, own_fr h.own k fun b hb e => h.dis b hb e, fun b hb e => by
    rcases ho b e with e | e
    · exact h.dis b hb e
    · have := (h.own.lt b hb).2; omega⟩
/-- It is told. -/
theorem HS.push (h : HS w W m M v T) {v' : Value} {x : Tr} (own : W'.ownsRow w.heap.size 61 77 v' (T.length + 1) (T.flatMap tdL ++ tdL x)) (gr : W.grownBy W' v.ownBlock) (hl : v'.ownBlock = v.ownBlock ∨ v'.ownBlock = some W.heap.size) : HS w W' m M v' (T ++ [x]) := by
  have k := Fr.of_grown gr
  refine ⟨Fr.below h.bel k (Nat.le_refl _) fun i e => (h.own.lt i e).1, h.ms.fr k fun b hb e => h.dis b e hb, by rw [List.length_append, List.flatMap_append]; simpa using own, fun b hb e => ?_⟩
  rcases hl with e1 | e1
  · exact h.dis b (e1 ▸ hb) e
  · rw [hb] at e1
    have := Option.some.inj e1
    have := h.ms.lt b e
    omega
end
/-- What the told list and the machine are to each other. -/
structure HI (M : P.Md) (T : List Tr) (k : Nat) : Prop where
  j : ∃ B L, (tds T).foldl P.ofS ([], []) = (B, L) ∧ P.J M B L
  ok : P.Ok M k
  max : M.max ≤ 1073741824
  n : T.length = k
  tr : ∀ x ∈ T, TrOk x
theorem HI.step {M : P.Md} {T : List Tr} {k : Nat} (h : HI M T k) (hk : k ≤ 1000) {c : P.Cl} (hc : ClOk c) (ht : wU64 c.txn) (i : Nat) : HI (P.step M c).1 (T ++ [trOf c (P.step M c).2 i]) (k + 1) := by
  obtain ⟨B, L, h1, h2⟩ := h.j
  have hst := h.ok.start
  obtain ⟨r1, r2, r3⟩ := h2.rep hst c
  have hlm := h.ok.lm
  have hcn := h.ok.cnt
  have hmx := h.max
  refine ⟨⟨_, _, ?_, h2.step hst c⟩, P.ok_step h.ok c, ?_, by rw [List.length_append, h.n]; rfl, fun x hx => ?_⟩
  · unfold tds at h1 ⊢
    rw [List.map_append, List.foldl_append, h1]
    rfl
  · rw [P.step_max]; exact h.max
  · rcases List.mem_append.1 hx with hx | hx
    · exact h.tr x hx
    · rw [List.mem_singleton.1 hx]
      exact trOf_ok i hc ht ⟨r2, by omega⟩ (by omega)
set_option maxRecDepth 100000 in
set_option maxHeartbeats 32000000 in
theorem model_walk (ao : Option Addr) (cap : Nat) (C : List P.Cl) (w : World) (h : RowAt w ao 5 clL C ∧ ∀ c ∈ C, ClOk c ∧ wU64 c.txn) (hcap : C.length ≤ cap) (hmx : C.length ≤ maxLen) :
    Calls Try.prog 9 #[.slice ao C.length cap] w fun e w' => e = .returned (.bool true) ∧ Below w.heap.size w w' := by
  have hz56 := zero40.1
  obtain ⟨i6, hi6, z6, s6, y6⟩ := info_parts info61m
  have hH := Lib.hid h
  clear h
  go_enter Try.func9, Try.ntmps9
  go_upto_region 1 with (fail)
  refine no_implicit_lambda% (wp_region_lit ?_)
  have hce := new_in w 6 1073741824 ⟨by decide, by decide⟩
  refine wpl_call _ _ rfl (by go_simp) _ hce ?_
  rintro e W0 ⟨m0, rfl, hm0, hb0⟩
  refine ⟨_, rfl, ?_⟩
  clear hce
  (try simp only [Act.put, Z1, Z2, Z3, Z4, Z5, Z6])
  refine no_implicit_lambda% (wpl_val ?_ rfl ?_ ?_)
  rotate_left
  · (go_simp; (try with_reducible rfl))
  (try simp only [Act.put, Z1, Z2, Z3, Z4, Z5, Z6])
  refine no_implicit_lambda% (wpList_nil ?_)
  have hS0 : HS w W0 m0 (P.new 6 1073741824) (.slice none 0 0) [] := ⟨hb0, hm0, World.ownsRow_nil _ _ _ _, fun b e => by cases e⟩
  have hI0 : HI (P.new 6 1073741824) [] 0 := ⟨⟨[], [], rfl, P.J.new⟩, P.ok_new ⟨by decide, by decide⟩ (by decide), Nat.le_refl _, rfl, fun x hx => by cases hx⟩
  replace hS0 := Lib.hid hS0
  replace hI0 := Lib.hid hI0
  have hc0 : (P.new 6 1073741824).count = 0 := rfl
  replace hc0 := Lib.hid hc0
  generalize P.new 6 1073741824 = M0 at *
  clear hm0 hb0
  go_wp2_with fail
  go_loopw [6, 4, 5] (fun i v n wr => ∃ (k : Nat) (m : MW) (M : P.Md) (T : List Tr), i = .int .i64 k ∧ n = .int .i64 (M.count : Int) ∧ k ≤ 60 ∧ HS w wr m M v T ∧ Hid (m.c = m0.c) ∧ Hid (HI M T k)) (fun i _ _ _ => 60 - (intOf i).toNat)
  case atStart => exact ⟨0, m0, M0, [], rfl, by rw [hc0.out]; rfl, by decide, hS0.out, rfl, hI0.out⟩
  case round =>
    clear hS0 hI0 hc0
    clear W0
    obtain ⟨k, m, M, T, rfl, rfl, hk, hS, hmc, hI⟩ := hrel
    obtain ⟨aot, capt, rfl⟩ := own_slice hS.own
    by_cases hk1 : k < C.length
    · have hk1' : (k : Int) < (C.length : Int) := by omega
      have d1 : decide ((k : Int) < (C.length : Int)) = true := decide_eq_true hk1'
      by_cases hk2 : k < 60
      · have hk2' : (k : Int) < 60 := by omega
        have d2 : decide ((k : Int) < 60) = true := decide_eq_true hk2'
        go_upto_region 7 with (fail)
        refine no_implicit_lambda% (wp_region_lit ?_)
        iterate 2
          refine no_implicit_lambda% (wpl_val ?_ rfl ?_ ?_)
          rotate_left
          · (go_simp; (try with_reducible rfl))
          (try simp only [Act.put, Z1, Z2, Z3, Z4, Z5, Z6])
        refine no_implicit_lambda% (wpl_val ?_ rfl ?_ ?_)
        rotate_left
        · (go_simp; (try with_reducible rfl))
        (try simp only [Act.put, Z1, Z2, Z3, Z4, Z5, Z6])
        iterate 5
          refine no_implicit_lambda% (wpl_val ?_ rfl ?_ ?_)
          rotate_left
          · (go_simp; (try with_reducible rfl))
          (try simp only [Act.put, Z1, Z2, Z3, Z4, Z5, Z6])
        refine no_implicit_lambda% (wpList_nil ?_)
        clear d1 d2
        obtain ⟨c, hc⟩ : ∃ c, C[k]? = some c := ⟨_, List.getElem?_eq_getElem hk1⟩
        have hok := Lib.hid (hH.out.2 c (List.mem_of_getElem? hc))
        obtain ⟨b, o, rfl, _, _⟩ := hH.out.1 k c hc
        have hr : Hid (∀ W, Below w.heap.size w W → W.rangeAt b (o + k * 5) (clL c)) := fun W hW => ((hH.out.1.below hW).at' hc).2
        have hI1 := Lib.hid (hI.out.step (by omega) hok.out.1 hok.out.2 k)
        have hcn := Lib.hid (P.step_count M c)
        have hTn := Lib.hid hI.out.n
        have hce := do_any hS.ms hI.out.ok (by omega) hok.out.1
        rw [hmc.out] at hce
        have hce2 : Calls Try.prog 18 #[.pointer (some ⟨m0.c, 0, none⟩), .agg (clL c).toArray] wr fun e w' => e = .returned (.agg (rpA (P.step M c).2)) ∧ ∃ m', m'.c = m0.c ∧ MS w.heap.size w' m' (P.step M c).1 ∧ Fr m.own wr w' ∧ ∀ b, m'.own b → m.own b ∨ wr.heap.size ≤ b := hce
        have hrw := hr.out wr hS.bel
        clear hce hc
        generalize (P.step M c).1 = M2 at *
        generalize (P.step M c).2 = r at *
        go_upto_region 9 with (fail)
        refine no_implicit_lambda% (wp_region_lit ?_)
        iterate 4
          refine no_implicit_lambda% (wpl_val ?_ rfl ?_ ?_)
          rotate_left
          · (go_simp; (try with_reducible rfl))
          (try simp only [Act.put, Z1, Z2, Z3, Z4, Z5, Z6])
        refine wpList_load_mid rfl 59 _ rfl b (o + k * 5) rfl (clL c) _ hrw Try.underlying59 rfl (size59' c) ?_
        (try simp only [Act.put, Z1, Z2, Z3, Z4, Z5, Z6])
        clear hrw
        refine wpl_call _ _ rfl (by go_simp) _ hce2 ?_
        rintro e W1 ⟨rfl, m', hmc2, hm', hf, ho⟩
        refine ⟨_, rfl, ?_⟩
        (try simp only [Act.put, Z1, Z2, Z3, Z4, Z5, Z6])
        replace hS := hS.call hm' hf ho
        replace hmc2 := Lib.hid hmc2
        clear hce2 hm' hf ho hmc
        clear m
        refine wpl_alloc 56 (rpA ⟨0, 0, 0, P.zb⟩) rfl rfl hz56 ?_
        (try simp only [Act.put, Z1, Z2, Z3, Z4, Z5, Z6])
        refine wpList_store_fr rfl 56 _ _ rfl W1.heap.size (rpA r) rfl rfl 56 _ (Blk.alloc_new _ _ _) (size40 r) (by simp only [rpA_size]) (rpA_one r) ?_
        intro w9 hB9 hF9
        (try simp only [Act.put, Z1, Z2, Z3, Z4, Z5, Z6])
        refine no_implicit_lambda% (wpList_nil ?_)
        replace hS := hS.go (box_below hF9)
        clear hF9
        generalize W1.heap.size = bx at *
        clear W1
        have c0 : w9.cell? ⟨bx, 0, none⟩ = some (.int .i64 r.e) := by rw [hB9.cell]; rfl
        by_cases he : r.e = 0
        · have he' : (r.e == 0) = true := by simp [he]
          have ck : w9.cell? ⟨b, o + k * 5, none⟩ = some (.int .u8 c.kind) := hr.out w9 hS.bel 0 _ rfl
          by_cases h0 : c.kind = 0
          · have h0' : (c.kind == 0) = true := by simp [h0]
            have hcm : M2.count = M.count + 1 := by rw [hcn.out, if_pos ⟨he, h0⟩]
            have hc6 := hI.out.ok.cnt
            have hw1 : IntKind.i64.wrap ((M.count : Int) + 1) = (M.count : Int) + 1 := IntWalk.i64_in _ (by omega)
            replace he := Lib.hid he
            replace h0 := Lib.hid h0
            replace hcm := Lib.hid hcm
            clear hcn
            go_upto_region 10 with (fail)
            refine no_implicit_lambda% (wp_region_lit ?_)
            refine no_implicit_lambda% (wpl_val ?_ rfl ?_ ?_)
            rotate_left
            · (go_simp; (try with_reducible rfl))
            (try simp only [Act.put, Z1, Z2, Z4, Z5, Z6])
            refine no_implicit_lambda% (wpl_val ?_ rfl ?_ ?_)
            rotate_left
            · (have c0 := c0; go_simp; (try with_reducible rfl))
            (try simp only [Act.put, Z1, Z2, Z3, Z4, Z5, Z6])
            iterate 6
              refine no_implicit_lambda% (wpl_val ?_ rfl ?_ ?_)
              rotate_left
              · (go_simp; (try with_reducible rfl))
              (try simp only [Act.put, Z1, Z2, Z3, Z4, Z5, Z6])
            refine no_implicit_lambda% (wpl_val ?_ rfl ?_ ?_)
            rotate_left
            · (have c0 := ck; go_simp; (try with_reducible rfl))
            (try simp only [Act.put, Z1, Z2, Z3, Z4, Z5, Z6])
            iterate 2
              refine no_implicit_lambda% (wpl_val ?_ rfl ?_ ?_)
              rotate_left
              · (go_simp; (try with_reducible rfl))
              (try simp only [Act.put, Z1, Z2, Z3, Z4, Z5, Z6])
            refine no_implicit_lambda% (wpList_nil ?_)
            clear c0 ck he' h0'
            go_upto_region 11 with (fail)
            refine no_implicit_lambda% (wp_region_lit ?_)
            iterate 3
              refine no_implicit_lambda% (wpl_val ?_ rfl ?_ ?_)
              rotate_left
              · (go_simp; (try with_reducible rfl))
              (try simp only [Act.put, Z1, Z2, Z3, Z4, Z5, Z6])
            refine no_implicit_lambda% (wpList_nil ?_)
            clear hw1
            have hx1 := Lib.hid (hI1.out.tr (trOf c r k) (List.mem_append_right _ (List.mem_singleton.2 rfl))).one
            go_upto_region 12 with (fail)
            refine wp_region_held (S := (fun w' => Below w.heap.size w w' ∧ Blk w' bx (rpA r) 56)) (by kernel_rfl) ?_
            change wpAnyH _ _ _ _ _ _ _ _ (World.drew _)
            (try simp only [Act.put])
            have hG := hS.go (Below.refl _ _).drew
            replace hB9 := hB9.drew
            clear hS
            generalize w9.drew = V at *
            have hS := And.intro hG.bel hB9
            refine anyH_pure 0 _ ?_ rfl (by kernel_rfl) (by kernel_rfl) (by kernel_rfl) (fun _ _ _ h => h) rfl ?_ hS ?_
            rotate_left
            · (intro w'; go_simp; (try with_reducible rfl))
            (try simp only [Act.put, Z1, Z2, Z4, Z5, Z6])
            refine anyH_pure 1 _ ?_ rfl (by kernel_rfl) (by kernel_rfl) (by kernel_rfl) (fun _ _ _ h => h) rfl ?_ hS ?_
            rotate_left
            · (intro w'; go_simp; (try with_reducible rfl))
            (try simp only [Act.put, Z1, Z2, Z3, Z4, Z5, Z6])
            refine anyH_pure 2 _ ?_ rfl (by kernel_rfl) (by kernel_rfl) (by kernel_rfl) (fun _ _ _ h => h) rfl ?_ hS ?_
            rotate_left
            · (intro w'; go_simp; (try with_reducible rfl))
            (try simp only [Act.put, Z1, Z2, Z3, Z4, Z5, Z6])
            refine anyH_pure 3 _ ?_ rfl (by kernel_rfl) (by kernel_rfl) (by kernel_rfl) (fun _ _ _ h => h) rfl ?_ hS ?_
            rotate_left
            · (intro w'; go_simp; (try with_reducible rfl))
            (try simp only [Act.put, Z1, Z2, Z3, Z4, Z5, Z6])
            refine anyH_if 4 _ (.agg (clL c).toArray) rfl (by kernel_rfl) (by kernel_rfl) (by kernel_rfl) (fun _ _ _ h => h) rfl (fun w' h => run_load_midv rfl rfl (hr.out w' h.1) Try.underlying59 rfl (size59' c)) hS ?_
            (try simp only [Act.put, Z1, Z2, Z3, Z4, Z5, Z6])
            refine anyH_pure 5 _ ?_ rfl (by kernel_rfl) (by kernel_rfl) (by kernel_rfl) (fun _ _ _ h => h) rfl ?_ hS ?_
            rotate_left
            · (intro w'; go_simp; (try with_reducible rfl))
            (try simp only [Act.put, Z1, Z2, Z3, Z4, Z5, Z6])
            refine anyH_pure 6 _ ?_ rfl (by kernel_rfl) (by kernel_rfl) (by kernel_rfl) (fun _ _ _ h => h) rfl ?_ hS ?_
            rotate_left
            · (intro w'; go_simp; (try with_reducible rfl))
            (try simp only [Act.put, Z1, Z2, Z3, Z4, Z5, Z6])
            refine anyH_if 7 _ (.agg (rpA r)) rfl (by kernel_rfl) (by kernel_rfl) (by kernel_rfl) (fun _ _ _ h => h) rfl (fun w' h => run_load_cs rfl rfl h.2 Try.underlying56 rfl (size40 r)) hS ?_
            (try simp only [Act.put, Z1, Z2, Z3, Z4, Z5, Z6])
            refine anyH_pure 8 _ (.agg (tdL (trOf c r k)).toArray) rfl (by kernel_rfl) (by kernel_rfl) (by kernel_rfl) (fun _ _ _ h => h) rfl (fun w' => run_buildE rfl (by go_simp; exact b61 c r k)) hS ?_
            (try simp only [Act.put, Z1, Z2, Z3, Z4, Z5, Z6])
            have al := (Below.refl V.heap.size V).alloc (Nat.le_refl _) (.cells (tdL (trOf c r k)).toArray 61)
            have hG4 := hG.go al
            have hB4 := hB9.below al
            refine anyH_one 9 _ (by kernel_rfl) rfl rfl (wp_buildSlice 46 61 1 _ rfl (tdL (trOf c r k)).toArray i6 _ Try.underlying46 hi6 z6 (by rw [s6]; decide) (by rw [s6]; decide) ?c1 ⟨⟨hG4.bel, hB4⟩, ?_⟩)
            case c1 => (simp only [s6, List.map_toArray, List.map_cons, List.map_nil]; exact fill61 _)
            have hlit : Blk (V.alloc (.cells (tdL (trOf c r k)).toArray 61)) V.heap.size (tdL (trOf c r k)).toArray 61 := Blk.alloc_new _ _ _
            clear al hG hB9 hS
            (try simp only [Act.put, Z1, Z2, Z3, Z4, Z5, Z6])
            generalize V.alloc (.cells (tdL (trOf c r k)).toArray 61) = V4 at *
            generalize V.heap.size = lb at *
            have hsz4 := hG4.bel.size
            refine anyH_one 10 _ (by kernel_rfl) rfl rfl (wp_append_src _ _ 46 rfl w.heap.size 61 i6 _ 77 176 Try.underlying46 hi6 z6 s6 y6 (tdA_size noT) (by decide) (.slice aot T.length capt) T.length _ rfl hG4.own _ 1 (tdL (trOf c r k)) rfl (src_blk hlit) (tdL_length _) hx1.out ?_ ?_ ?_ ?_)
            · unfold maxLen; have := hTn.out; omega
            · have := hTn.out; omega
            · omega
            intro v7 W7 own7 gr7 _ hl7
            have hS7 := hG4.push own7 gr7 hl7
            have hB7 := hB4.fr (Fr.of_grown gr7) fun e => absurd (own_ne_blk hG4.own e hB4) (by decide)
            refine ⟨⟨hS7.bel, hB7⟩, ?_⟩
            have hS := And.intro hS7.bel hB7
            (try simp only [Act.put, Z1, Z2, Z3, Z4, Z5, Z6])
            refine anyH_pure 11 _ ?_ rfl (by kernel_rfl) (by kernel_rfl) (by kernel_rfl) (fun _ _ _ h => h) rfl ?_ hS ?_
            rotate_left
            · (intro w'; go_simp; (try with_reducible rfl))
            (try simp only [Act.put, Z1, Z2, Z3, Z4, Z5, Z6])
            refine wpAnyH_done (by kernel_rfl) ?_ _
            clear own7 gr7 hl7 hB4 hB7 hlit hG4 hS hx1 hr hI hok
            generalize T ++ [trOf c r k] = T2 at *
            go_wp2_with fail
            go_roundw
            case rel => exact ⟨k + 1, m', M2, T2, by go_num, (by rw [hcm.out]; rfl), by omega, hS7, hmc2, hI1⟩
            case measure => simp [intOf]; omega
          · have h0' : (c.kind == 0) = false := by simp [h0]
            have hcm : M2.count = M.count := by rw [hcn.out, if_neg fun h => h0 h.2]
            replace he := Lib.hid he
            replace h0 := Lib.hid h0
            replace hcm := Lib.hid hcm
            clear hcn
            go_upto_region 10 with (fail)
            refine no_implicit_lambda% (wp_region_lit ?_)
            refine no_implicit_lambda% (wpl_val ?_ rfl ?_ ?_)
            rotate_left
            · (go_simp; (try with_reducible rfl))
            (try simp only [Act.put, Z1, Z2, Z4, Z5, Z6])
            refine no_implicit_lambda% (wpl_val ?_ rfl ?_ ?_)
            rotate_left
            · (have c0 := c0; go_simp; (try with_reducible rfl))
            (try simp only [Act.put, Z1, Z2, Z3, Z4, Z5, Z6])
            iterate 6
              refine no_implicit_lambda% (wpl_val ?_ rfl ?_ ?_)
              rotate_left
              · (go_simp; (try with_reducible rfl))
              (try simp only [Act.put, Z1, Z2, Z3, Z4, Z5, Z6])
            refine no_implicit_lambda% (wpl_val ?_ rfl ?_ ?_)
            rotate_left
            · (have c0 := ck; go_simp; (try with_reducible rfl))
            (try simp only [Act.put, Z1, Z2, Z3, Z4, Z5, Z6])
            iterate 2
              refine no_implicit_lambda% (wpl_val ?_ rfl ?_ ?_)
              rotate_left
              · (go_simp; (try with_reducible rfl))
              (try simp only [Act.put, Z1, Z2, Z3, Z4, Z5, Z6])
            refine no_implicit_lambda% (wpList_nil ?_)
            clear c0 ck he' h0'
            have hx1 := Lib.hid (hI1.out.tr (trOf c r k) (List.mem_append_right _ (List.mem_singleton.2 rfl))).one
            go_upto_region 12 with (fail)
            refine wp_region_held (S := (fun w' => Below w.heap.size w w' ∧ Blk w' bx (rpA r) 56)) (by kernel_rfl) ?_
            change wpAnyH _ _ _ _ _ _ _ _ (World.drew _)
            (try simp only [Act.put])
            have hG := hS.go (Below.refl _ _).drew
            replace hB9 := hB9.drew
            clear hS
            generalize w9.drew = V at *
            have hS := And.intro hG.bel hB9
            refine anyH_pure 0 _ ?_ rfl (by kernel_rfl) (by kernel_rfl) (by kernel_rfl) (fun _ _ _ h => h) rfl ?_ hS ?_
            rotate_left
            · (intro w'; go_simp; (try with_reducible rfl))
            (try simp only [Act.put, Z1, Z2, Z4, Z5, Z6])
            refine anyH_pure 1 _ ?_ rfl (by kernel_rfl) (by kernel_rfl) (by kernel_rfl) (fun _ _ _ h => h) rfl ?_ hS ?_
            rotate_left
            · (intro w'; go_simp; (try with_reducible rfl))
            (try simp only [Act.put, Z1, Z2, Z3, Z4, Z5, Z6])
            refine anyH_pure 2 _ ?_ rfl (by kernel_rfl) (by kernel_rfl) (by kernel_rfl) (fun _ _ _ h => h) rfl ?_ hS ?_
            rotate_left
            · (intro w'; go_simp; (try with_reducible rfl))
            (try simp only [Act.put, Z1, Z2, Z3, Z4, Z5, Z6])
            refine anyH_pure 3 _ ?_ rfl (by kernel_rfl) (by kernel_rfl) (by kernel_rfl) (fun _ _ _ h => h) rfl ?_ hS ?_
            rotate_left
            · (intro w'; go_simp; (try with_reducible rfl))
            (try simp only [Act.put, Z1, Z2, Z3, Z4, Z5, Z6])
            refine anyH_if 4 _ (.agg (clL c).toArray) rfl (by kernel_rfl) (by kernel_rfl) (by kernel_rfl) (fun _ _ _ h => h) rfl (fun w' h => run_load_midv rfl rfl (hr.out w' h.1) Try.underlying59 rfl (size59' c)) hS ?_
            (try simp only [Act.put, Z1, Z2, Z3, Z4, Z5, Z6])
            refine anyH_pure 5 _ ?_ rfl (by kernel_rfl) (by kernel_rfl) (by kernel_rfl) (fun _ _ _ h => h) rfl ?_ hS ?_
            rotate_left
            · (intro w'; go_simp; (try with_reducible rfl))
            (try simp only [Act.put, Z1, Z2, Z3, Z4, Z5, Z6])
            refine anyH_pure 6 _ ?_ rfl (by kernel_rfl) (by kernel_rfl) (by kernel_rfl) (fun _ _ _ h => h) rfl ?_ hS ?_
            rotate_left
            · (intro w'; go_simp; (try with_reducible rfl))
            (try simp only [Act.put, Z1, Z2, Z3, Z4, Z5, Z6])
            refine anyH_if 7 _ (.agg (rpA r)) rfl (by kernel_rfl) (by kernel_rfl) (by kernel_rfl) (fun _ _ _ h => h) rfl (fun w' h => run_load_cs rfl rfl h.2 Try.underlying56 rfl (size40 r)) hS ?_
            (try simp only [Act.put, Z1, Z2, Z3, Z4, Z5, Z6])
            refine anyH_pure 8 _ (.agg (tdL (trOf c r k)).toArray) rfl (by kernel_rfl) (by kernel_rfl) (by kernel_rfl) (fun _ _ _ h => h) rfl (fun w' => run_buildE rfl (by go_simp; exact b61 c r k)) hS ?_
            (try simp only [Act.put, Z1, Z2, Z3, Z4, Z5, Z6])
            have al := (Below.refl V.heap.size V).alloc (Nat.le_refl _) (.cells (tdL (trOf c r k)).toArray 61)
            have hG4 := hG.go al
            have hB4 := hB9.below al
            refine anyH_one 9 _ (by kernel_rfl) rfl rfl (wp_buildSlice 46 61 1 _ rfl (tdL (trOf c r k)).toArray i6 _ Try.underlying46 hi6 z6 (by rw [s6]; decide) (by rw [s6]; decide) ?c1 ⟨⟨hG4.bel, hB4⟩, ?_⟩)
            case c1 => (simp only [s6, List.map_toArray, List.map_cons, List.map_nil]; exact fill61 _)
            have hlit : Blk (V.alloc (.cells (tdL (trOf c r k)).toArray 61)) V.heap.size (tdL (trOf c r k)).toArray 61 := Blk.alloc_new _ _ _
            clear al hG hB9 hS
            (try simp only [Act.put, Z1, Z2, Z3, Z4, Z5, Z6])
            generalize V.alloc (.cells (tdL (trOf c r k)).toArray 61) = V4 at *
            generalize V.heap.size = lb at *
            have hsz4 := hG4.bel.size
            refine anyH_one 10 _ (by kernel_rfl) rfl rfl (wp_append_src _ _ 46 rfl w.heap.size 61 i6 _ 77 176 Try.underlying46 hi6 z6 s6 y6 (tdA_size noT) (by decide) (.slice aot T.length capt) T.length _ rfl hG4.own _ 1 (tdL (trOf c r k)) rfl (src_blk hlit) (tdL_length _) hx1.out ?_ ?_ ?_ ?_)
            · unfold maxLen; have := hTn.out; omega
            · have := hTn.out; omega
            · omega
            intro v7 W7 own7 gr7 _ hl7
            have hS7 := hG4.push own7 gr7 hl7
            have hB7 := hB4.fr (Fr.of_grown gr7) fun e => absurd (own_ne_blk hG4.own e hB4) (by decide)
            refine ⟨⟨hS7.bel, hB7⟩, ?_⟩
            have hS := And.intro hS7.bel hB7
            (try simp only [Act.put, Z1, Z2, Z3, Z4, Z5, Z6])
            refine anyH_pure 11 _ ?_ rfl (by kernel_rfl) (by kernel_rfl) (by kernel_rfl) (fun _ _ _ h => h) rfl ?_ hS ?_
            rotate_left
            · (intro w'; go_simp; (try with_reducible rfl))
            (try simp only [Act.put, Z1, Z2, Z3, Z4, Z5, Z6])
            refine wpAnyH_done (by kernel_rfl) ?_ _
            clear own7 gr7 hl7 hB4 hB7 hlit hG4 hS hx1 hr hI hok
            generalize T ++ [trOf c r k] = T2 at *
            go_wp2_with fail
            go_roundw
            case rel => exact ⟨k + 1, m', M2, T2, by go_num, (by rw [hcm.out]), by omega, hS7, hmc2, hI1⟩
            case measure => simp [intOf]; omega
        · have he' : (r.e == 0) = false := by simp [he]
          have hcm : M2.count = M.count := by rw [hcn.out, if_neg fun h => he h.1]
          replace he := Lib.hid he
          replace hcm := Lib.hid hcm
          clear hcn
          go_upto_region 10 with (fail)
          refine no_implicit_lambda% (wp_region_lit ?_)
          refine no_implicit_lambda% (wpl_val ?_ rfl ?_ ?_)
          rotate_left
          · (go_simp; (try with_reducible rfl))
          (try simp only [Act.put, Z1, Z2, Z4, Z5, Z6])
          refine no_implicit_lambda% (wpl_val ?_ rfl ?_ ?_)
          rotate_left
          · (have c0 := c0; go_simp; (try with_reducible rfl))
          (try simp only [Act.put, Z1, Z2, Z3, Z4, Z5, Z6])
          iterate 2
            refine no_implicit_lambda% (wpl_val ?_ rfl ?_ ?_)
            rotate_left
            · (go_simp; (try with_reducible rfl))
            (try simp only [Act.put, Z1, Z2, Z3, Z4, Z5, Z6])
          iterate 6
            refine no_implicit_lambda% (wpl_skip rfl ?_)
            (try simp only [Act.put, Z1, Z2, Z3, Z4, Z5, Z6])
          refine no_implicit_lambda% (wpl_val ?_ rfl ?_ ?_)
          rotate_left
          · (go_simp; (try with_reducible rfl))
          (try simp only [Act.put, Z1, Z2, Z3, Z4, Z5, Z6])
          refine no_implicit_lambda% (wpList_nil ?_)
          clear c0 he'
          have hx1 := Lib.hid (hI1.out.tr (trOf c r k) (List.mem_append_right _ (List.mem_singleton.2 rfl))).one
          go_upto_region 12 with (fail)
          refine wp_region_held (S := (fun w' => Below w.heap.size w w' ∧ Blk w' bx (rpA r) 56)) (by kernel_rfl) ?_
          change wpAnyH _ _ _ _ _ _ _ _ (World.drew _)
          (try simp only [Act.put])
          have hG := hS.go (Below.refl _ _).drew
          replace hB9 := hB9.drew
          clear hS
          generalize w9.drew = V at *
          have hS := And.intro hG.bel hB9
          refine anyH_pure 0 _ ?_ rfl (by kernel_rfl) (by kernel_rfl) (by kernel_rfl) (fun _ _ _ h => h) rfl ?_ hS ?_
          rotate_left
          · (intro w'; go_simp; (try with_reducible rfl))
          (try simp only [Act.put, Z1, Z2, Z4, Z5, Z6])
          refine anyH_pure 1 _ ?_ rfl (by kernel_rfl) (by kernel_rfl) (by kernel_rfl) (fun _ _ _ h => h) rfl ?_ hS ?_
          rotate_left
          · (intro w'; go_simp; (try with_reducible rfl))
          (try simp only [Act.put, Z1, Z2, Z3, Z4, Z5, Z6])
          refine anyH_pure 2 _ ?_ rfl (by kernel_rfl) (by kernel_rfl) (by kernel_rfl) (fun _ _ _ h => h) rfl ?_ hS ?_
          rotate_left
          · (intro w'; go_simp; (try with_reducible rfl))
          (try simp only [Act.put, Z1, Z2, Z3, Z4, Z5, Z6])
          refine anyH_pure 3 _ ?_ rfl (by kernel_rfl) (by kernel_rfl) (by kernel_rfl) (fun _ _ _ h => h) rfl ?_ hS ?_
          rotate_left
          · (intro w'; go_simp; (try with_reducible rfl))
          (try simp only [Act.put, Z1, Z2, Z3, Z4, Z5, Z6])
          refine anyH_if 4 _ (.agg (clL c).toArray) rfl (by kernel_rfl) (by kernel_rfl) (by kernel_rfl) (fun _ _ _ h => h) rfl (fun w' h => run_load_midv rfl rfl (hr.out w' h.1) Try.underlying59 rfl (size59' c)) hS ?_
          (try simp only [Act.put, Z1, Z2, Z3, Z4, Z5, Z6])
          refine anyH_pure 5 _ ?_ rfl (by kernel_rfl) (by kernel_rfl) (by kernel_rfl) (fun _ _ _ h => h) rfl ?_ hS ?_
          rotate_left
          · (intro w'; go_simp; (try with_reducible rfl))
          (try simp only [Act.put, Z1, Z2, Z3, Z4, Z5, Z6])
          refine anyH_pure 6 _ ?_ rfl (by kernel_rfl) (by kernel_rfl) (by kernel_rfl) (fun _ _ _ h => h) rfl ?_ hS ?_
          rotate_left
          · (intro w'; go_simp; (try with_reducible rfl))
          (try simp only [Act.put, Z1, Z2, Z3, Z4, Z5, Z6])
          refine anyH_if 7 _ (.agg (rpA r)) rfl (by kernel_rfl) (by kernel_rfl) (by kernel_rfl) (fun _ _ _ h => h) rfl (fun w' h => run_load_cs rfl rfl h.2 Try.underlying56 rfl (size40 r)) hS ?_
          (try simp only [Act.put, Z1, Z2, Z3, Z4, Z5, Z6])
          refine anyH_pure 8 _ (.agg (tdL (trOf c r k)).toArray) rfl (by kernel_rfl) (by kernel_rfl) (by kernel_rfl) (fun _ _ _ h => h) rfl (fun w' => run_buildE rfl (by go_simp; exact b61 c r k)) hS ?_
          (try simp only [Act.put, Z1, Z2, Z3, Z4, Z5, Z6])
          have al := (Below.refl V.heap.size V).alloc (Nat.le_refl _) (.cells (tdL (trOf c r k)).toArray 61)
          have hG4 := hG.go al
          have hB4 := hB9.below al
          refine anyH_one 9 _ (by kernel_rfl) rfl rfl (wp_buildSlice 46 61 1 _ rfl (tdL (trOf c r k)).toArray i6 _ Try.underlying46 hi6 z6 (by rw [s6]; decide) (by rw [s6]; decide) ?c1 ⟨⟨hG4.bel, hB4⟩, ?_⟩)
          case c1 => (simp only [s6, List.map_toArray, List.map_cons, List.map_nil]; exact fill61 _)
          have hlit : Blk (V.alloc (.cells (tdL (trOf c r k)).toArray 61)) V.heap.size (tdL (trOf c r k)).toArray 61 := Blk.alloc_new _ _ _
          clear al hG hB9 hS
          (try simp only [Act.put, Z1, Z2, Z3, Z4, Z5, Z6])
          generalize V.alloc (.cells (tdL (trOf c r k)).toArray 61) = V4 at *
          generalize V.heap.size = lb at *
          have hsz4 := hG4.bel.size
          refine anyH_one 10 _ (by kernel_rfl) rfl rfl (wp_append_src _ _ 46 rfl w.heap.size 61 i6 _ 77 176 Try.underlying46 hi6 z6 s6 y6 (tdA_size noT) (by decide) (.slice aot T.length capt) T.length _ rfl hG4.own _ 1 (tdL (trOf c r k)) rfl (src_blk hlit) (tdL_length _) hx1.out ?_ ?_ ?_ ?_)
          · unfold maxLen; have := hTn.out; omega
          · have := hTn.out; omega
          · omega
          intro v7 W7 own7 gr7 _ hl7
          have hS7 := hG4.push own7 gr7 hl7
          have hB7 := hB4.fr (Fr.of_grown gr7) fun e => absurd (own_ne_blk hG4.own e hB4) (by decide)
          refine ⟨⟨hS7.bel, hB7⟩, ?_⟩
          have hS := And.intro hS7.bel hB7
          (try simp only [Act.put, Z1, Z2, Z3, Z4, Z5, Z6])
          refine anyH_pure 11 _ ?_ rfl (by kernel_rfl) (by kernel_rfl) (by kernel_rfl) (fun _ _ _ h => h) rfl ?_ hS ?_
          rotate_left
          · (intro w'; go_simp; (try with_reducible rfl))
          (try simp only [Act.put, Z1, Z2, Z3, Z4, Z5, Z6])
          refine wpAnyH_done (by kernel_rfl) ?_ _
          clear own7 gr7 hl7 hB4 hB7 hlit hG4 hS hx1 hr hI hok
          generalize T ++ [trOf c r k] = T2 at *
          go_wp2_with fail
          go_roundw
          case rel => exact ⟨k + 1, m', M2, T2, by go_num, (by rw [hcm.out]), by omega, hS7, hmc2, hI1⟩
          case measure => simp [intOf]; omega
      · have hk2' : ¬ (k : Int) < 60 := by omega
        have d2 : decide ((k : Int) < 60) = false := decide_eq_false hk2'
        go_upto_region 7 with (fail)
        refine no_implicit_lambda% (wp_region_lit ?_)
        iterate 2
          refine no_implicit_lambda% (wpl_val ?_ rfl ?_ ?_)
          rotate_left
          · (go_simp; (try with_reducible rfl))
          (try simp only [Act.put, Z1, Z2, Z3, Z4, Z5, Z6])
        refine no_implicit_lambda% (wpl_val ?_ rfl ?_ ?_)
        rotate_left
        · (go_simp; (try with_reducible rfl))
        (try simp only [Act.put, Z1, Z2, Z3, Z4, Z5, Z6])
        iterate 5
          refine no_implicit_lambda% (wpl_val ?_ rfl ?_ ?_)
          rotate_left
          · (go_simp; (try with_reducible rfl))
          (try simp only [Act.put, Z1, Z2, Z3, Z4, Z5, Z6])
        refine no_implicit_lambda% (wpList_nil ?_)
        clear d1 d2 hk1' hk2'
        obtain ⟨aot2, capt2, ev, hct, hrt⟩ := own_rowIn (f := tdL) tdL_length hS.own
        injection ev with e1 _ e3
        subst e1
        subst e3
        obtain ⟨B, L, hf1, hJ⟩ := hI.out.j
        have hTn := Lib.hid hI.out.n
        have hce := of_any (cap := capt) ⟨hrt, hI.out.tr⟩ (by have := hTn.out; omega)
        have hhof : P.hof (tds T) = L := by unfold P.hof; rw [hf1]
        rw [hhof] at hce
        have hLn := hJ.len
        have hchk := Lib.hid hJ.shows
        have hbel := hS.bel
        clear hf1 hJ hhof hrt hct hI hS hmc
        go_upto_region 13 with (fail)
        refine no_implicit_lambda% (wp_region_lit ?_)
        refine no_implicit_lambda% (wpl_val ?_ rfl ?_ ?_)
        rotate_left
        · (go_simp; (try with_reducible rfl))
        (try simp only [Act.put, Z1, Z2, Z4, Z5, Z6])
        refine wpl_call _ _ rfl (by go_simp) _ hce ?_
        rintro e W5 ⟨v5, R5, r5, rfl, hO5, hge5, hh5, hl5, hb5⟩
        refine ⟨_, rfl, ?_⟩
        (try simp only [Act.put, Z1, Z2, Z3, Z4, Z5, Z6])
        replace hbel := hbel.trans (hb5.mono hbel.size)
        clear hce hb5 hge5
        refine no_implicit_lambda% (wpl_val ?_ rfl ?_ ?_)
        rotate_left
        · (go_simp; (try with_reducible rfl))
        (try simp only [Act.put, Z1, Z2, Z3, Z4, Z5, Z6])
        refine no_implicit_lambda% (wpList_nil ?_)
        obtain ⟨ao5, cap5, rfl, hc5, hH5⟩ := hO5.ownH.at_
        have hce := check_any hH5 hc5.1 (by have := hTn.out; omega)
        rw [hh5, hchk.out] at hce
        have hRn : R5.length = M.count := by rw [← his_length R5, hh5, hLn]
        have hRe : ((R5.length : Int) == (M.count : Int)) = true := by simp [hRn]
        replace hh5 := Lib.hid hh5
        replace hRn := Lib.hid hRn
        replace hLn := Lib.hid hLn
        clear hO5 hH5
        dsimp only at hce
        go_upto_region 14 with (fail)
        refine no_implicit_lambda% (wp_region_lit ?_)
        refine no_implicit_lambda% (wpl_val ?_ rfl ?_ ?_)
        rotate_left
        · (go_simp; (try with_reducible rfl))
        (try simp only [Act.put, Z1, Z2, Z4, Z5, Z6])
        refine wpl_call _ _ rfl (by go_simp) _ hce ?_
        rintro e W6 ⟨rfl, hbc⟩
        refine ⟨_, rfl, ?_⟩
        (try simp only [Act.put, Z1, Z2, Z3, Z4, Z5, Z6])
        iterate 5
          refine no_implicit_lambda% (wpl_val ?_ rfl ?_ ?_)
          rotate_left
          · (go_simp; (try with_reducible rfl))
          (try simp only [Act.put, Z1, Z2, Z3, Z4, Z5, Z6])
        refine no_implicit_lambda% (wpList_nil ?_)
        replace hbel := hbel.trans (hbc.mono hbel.size)
        clear hce hbc
        clear W5
        go_upto_region 15 with (fail)
        refine no_implicit_lambda% (wp_region_lit ?_)
        refine no_implicit_lambda% (wpl_val ?_ rfl ?_ ?_)
        rotate_left
        · (go_simp; (try with_reducible rfl))
        (try simp only [Act.put, Z1, Z2, Z4, Z5, Z6])
        refine no_implicit_lambda% (wpl_val ?_ rfl ?_ ?_)
        rotate_left
        · (go_simp; (try with_reducible rfl))
        (try simp only [Act.put, Z1, Z2, Z3, Z4, Z5, Z6])
        iterate 11
          refine no_implicit_lambda% (wpl_val ?_ rfl ?_ ?_)
          rotate_left
          · (go_simp; (try with_reducible rfl))
          (try simp only [Act.put, Z1, Z2, Z3, Z4, Z5, Z6])
        refine wpl_call _ _ rfl (by go_simp) _ (awake_any W6) ?_
        rintro e w9 ⟨rfl, hb9⟩
        refine ⟨_, rfl, ?_⟩
        (try simp only [Act.put, Z1, Z2, Z3, Z4, Z5, Z6])
        replace hbel := hbel.trans (hb9.mono hbel.size)
        iterate 2
          refine no_implicit_lambda% (wpl_val ?_ rfl ?_ ?_)
          rotate_left
          · (go_simp; (try with_reducible rfl))
          (try simp only [Act.put, Z1, Z2, Z3, Z4, Z5, Z6])
        refine no_implicit_lambda% (wpList_nil ?_)
        go_wp2_with fail
        go_ret
        exact ⟨rfl, hbel⟩
    · have hk1' : ¬ (k : Int) < (C.length : Int) := by omega
      have d1 : decide ((k : Int) < (C.length : Int)) = false := decide_eq_false hk1'
      go_upto_region 7 with (fail)
      refine no_implicit_lambda% (wp_region_lit ?_)
      iterate 2
        refine no_implicit_lambda% (wpl_val ?_ rfl ?_ ?_)
        rotate_left
        · (go_simp; (try with_reducible rfl))
        (try simp only [Act.put, Z1, Z2, Z3, Z4, Z5, Z6])
      refine no_implicit_lambda% (wpl_val ?_ rfl ?_ ?_)
      rotate_left
      · (go_simp; (try with_reducible rfl))
      (try simp only [Act.put, Z1, Z2, Z3, Z4, Z5, Z6])
      iterate 2
        refine no_implicit_lambda% (wpl_val ?_ rfl ?_ ?_)
        rotate_left
        · (go_simp; (try with_reducible rfl))
        (try simp only [Act.put, Z1, Z2, Z3, Z4, Z5, Z6])
      iterate 2
        refine no_implicit_lambda% (wpl_skip rfl ?_)
        (try simp only [Act.put, Z1, Z2, Z3, Z4, Z5, Z6])
      refine no_implicit_lambda% (wpl_val ?_ rfl ?_ ?_)
      rotate_left
      · (go_simp; (try with_reducible rfl))
      (try simp only [Act.put, Z1, Z2, Z3, Z4, Z5, Z6])
      refine no_implicit_lambda% (wpList_nil ?_)
      clear d1 hk1'
      obtain ⟨aot2, capt2, ev, hct, hrt⟩ := own_rowIn (f := tdL) tdL_length hS.own
      injection ev with e1 _ e3
      subst e1
      subst e3
      obtain ⟨B, L, hf1, hJ⟩ := hI.out.j
      have hTn := Lib.hid hI.out.n
      have hce := of_any (cap := capt) ⟨hrt, hI.out.tr⟩ (by have := hTn.out; omega)
      have hhof : P.hof (tds T) = L := by unfold P.hof; rw [hf1]
      rw [hhof] at hce
      have hLn := hJ.len
      have hchk := Lib.hid hJ.shows
      have hbel := hS.bel
      clear hf1 hJ hhof hrt hct hI hS hmc
      go_upto_region 13 with (fail)
      refine no_implicit_lambda% (wp_region_lit ?_)
      refine no_implicit_lambda% (wpl_val ?_ rfl ?_ ?_)
      rotate_left
      · (go_simp; (try with_reducible rfl))
      (try simp only [Act.put, Z1, Z2, Z4, Z5, Z6])
      refine wpl_call _ _ rfl (by go_simp) _ hce ?_
      rintro e W5 ⟨v5, R5, r5, rfl, hO5, hge5, hh5, hl5, hb5⟩
      refine ⟨_, rfl, ?_⟩
      (try simp only [Act.put, Z1, Z2, Z3, Z4, Z5, Z6])
      replace hbel := hbel.trans (hb5.mono hbel.size)
      clear hce hb5 hge5
      refine no_implicit_lambda% (wpl_val ?_ rfl ?_ ?_)
      rotate_left
      · (go_simp; (try with_reducible rfl))
      (try simp only [Act.put, Z1, Z2, Z3, Z4, Z5, Z6])
      refine no_implicit_lambda% (wpList_nil ?_)
      obtain ⟨ao5, cap5, rfl, hc5, hH5⟩ := hO5.ownH.at_
      have hce := check_any hH5 hc5.1 (by have := hTn.out; omega)
      rw [hh5, hchk.out] at hce
      have hRn : R5.length = M.count := by rw [← his_length R5, hh5, hLn]
      have hRe : ((R5.length : Int) == (M.count : Int)) = true := by simp [hRn]
      replace hh5 := Lib.hid hh5
      replace hRn := Lib.hid hRn
      replace hLn := Lib.hid hLn
      clear hO5 hH5
      dsimp only at hce
      go_upto_region 14 with (fail)
      refine no_implicit_lambda% (wp_region_lit ?_)
      refine no_implicit_lambda% (wpl_val ?_ rfl ?_ ?_)
      rotate_left
      · (go_simp; (try with_reducible rfl))
      (try simp only [Act.put, Z1, Z2, Z4, Z5, Z6])
      refine wpl_call _ _ rfl (by go_simp) _ hce ?_
      rintro e W6 ⟨rfl, hbc⟩
      refine ⟨_, rfl, ?_⟩
      (try simp only [Act.put, Z1, Z2, Z3, Z4, Z5, Z6])
      iterate 5
        refine no_implicit_lambda% (wpl_val ?_ rfl ?_ ?_)
        rotate_left
        · (go_simp; (try with_reducible rfl))
        (try simp only [Act.put, Z1, Z2, Z3, Z4, Z5, Z6])
      refine no_implicit_lambda% (wpList_nil ?_)
      replace hbel := hbel.trans (hbc.mono hbel.size)
      clear hce hbc
      clear W5
      go_upto_region 15 with (fail)
      refine no_implicit_lambda% (wp_region_lit ?_)
      refine no_implicit_lambda% (wpl_val ?_ rfl ?_ ?_)
      rotate_left
      · (go_simp; (try with_reducible rfl))
      (try simp only [Act.put, Z1, Z2, Z4, Z5, Z6])
      refine no_implicit_lambda% (wpl_val ?_ rfl ?_ ?_)
      rotate_left
      · (go_simp; (try with_reducible rfl))
      (try simp only [Act.put, Z1, Z2, Z3, Z4, Z5, Z6])
      iterate 11
        refine no_implicit_lambda% (wpl_val ?_ rfl ?_ ?_)
        rotate_left
        · (go_simp; (try with_reducible rfl))
        (try simp only [Act.put, Z1, Z2, Z3, Z4, Z5, Z6])
      refine wpl_call _ _ rfl (by go_simp) _ (awake_any W6) ?_
      rintro e w9 ⟨rfl, hb9⟩
      refine ⟨_, rfl, ?_⟩
      (try simp only [Act.put, Z1, Z2, Z3, Z4, Z5, Z6])
      replace hbel := hbel.trans (hb9.mono hbel.size)
      iterate 2
        refine no_implicit_lambda% (wpl_val ?_ rfl ?_ ?_)
        rotate_left
        · (go_simp; (try with_reducible rfl))
        (try simp only [Act.put, Z1, Z2, Z3, Z4, Z5, Z6])
      refine no_implicit_lambda% (wpList_nil ?_)
      go_wp2_with fail
      go_ret
      exact ⟨rfl, hbel⟩
end Go.Proofs.Ytnemaolbmocncaa
