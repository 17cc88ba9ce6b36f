/- The walk of Check: what a history shows. -/
import Derived.Test.YtnemaolbmocncaaChkP
namespace Go.Proofs.Ytnemaolbmocncaa
open Go.RowKit
set_option linter.unusedSimpArgs false
set_option linter.unusedVariables false
attribute [local irreducible] wpList
theorem run_slice_hi {P : Program} {t e : TypeId} {size : Nat} (ht : P.underlying t = some (.slice e)) (hs : (P.info? e).map (·.size) = some size) {b o n cap i : Nat} (h1 : i ≤ cap) (w : World) :
    (Instr.slice t (.slice (some ⟨b, o, none⟩) n cap) none (some (.int .i64 (i : Int))) none).run P w = .ok (.slice (some ⟨b, o, none⟩) i cap) w := by
  obtain ⟨i', hi', hz⟩ := Option.map_eq_some_iff.1 hs
  have e2 := fun code w => bound_in (P := P) (k := .i64) (x := (i : Int)) (z := i) (y := cap) (code := code) (w := w) rfl h1
  simp [Instr.slice, Instr.sliceBounds, run_underlying ht, e2, sizeOf, typeInfo, hi', hz, Addr.add_lit]
theorem b68 (ao : Option Addr) (n cap rb rd ra : Nat) : Try.prog.built 68 [(0, .slice ao n cap), (1, .map (some rb)), (2, .map (some rd)), (3, .map (some ra))] = some #[.slice ao n cap, .map (some rb), .map (some rd), .map (some ra)] := by kernel_rfl
theorem b43 (p t : Int) : Try.prog.built 43 [(0, .int .u16 p), (1, .int .u32 t)] = some #[.int .u16 p, .int .u32 t] := by kernel_rfl
/-- The graph and the map of who stands ahead of whom. -/
structure CK (w wr : World) (g : Nat) (ao : Option Addr) (cap : Nat) (R : List Rec) (rb rd ra : Nat) (B : P.Bx) (D A : List Ed) (rs : Nat) (S : List Ed) : Prop where
  gs : GS w wr g ao cap R rb rd ra B D A
  st : SetAt wr rs S
  nr : w.heap.size ≤ rs ∧ rs ≠ g ∧ rs ≠ rb ∧ rs ≠ rd ∧ rs ≠ ra
section
variable {w wr w' : World} {g : Nat} {ao : Option Addr} {cap : Nat} {R : List Rec} {rb rd ra : Nat} {B : P.Bx} {D A : List Ed} {rs : Nat} {S : List Ed}
theorem CK.fr (h : CK w wr g ao cap R rb rd ra B D A rs S) {K : Nat → Prop} (k : Fr K wr w') (hK : ∀ i, K i → w.heap.size ≤ i ∧ i ≠ g ∧ i ≠ rb ∧ i ≠ rd ∧ i ≠ ra ∧ i ≠ rs) : CK w w' g ao cap R rb rd ra B D A rs S :=
  ⟨h.gs.fr k fun i hi => by have := hK i hi; omega, h.st.fr k fun e => by have := hK _ e; omega, h.nr⟩
theorem CK.below (h : CK w wr g ao cap R rb rd ra B D A rs S) (k : Below wr.heap.size wr w') : CK w w' g ao cap R rb rd ra B D A rs S := h.fr (Fr.of_below k fun _ => False) fun _ e => e.elim
theorem CK.put (h : CK w wr g ao cap R rb rd ra B D A rs S) {i k : Nat} (hi : i ≤ 1000) (hk : k ≤ 1000) :
    ∃ w', (Instr.mapUpdate 66 (.map (some rs)) (.agg #[.int .i64 i, .int .i64 k]) (.bool true)).run Try.prog wr = .ok () w' ∧ CK w w' g ao cap R rb rd ra B D A rs (P.ins S (i, k)) ∧ Fr (fun b => b = rs) wr w' := by
  obtain ⟨w', h1, h2, h3⟩ := h.st.put hi hk
  exact ⟨w', h1, ⟨h.gs.fr h3 fun i hi => by have := h.nr; omega, h2, h.nr⟩, h3⟩
theorem CK.lt (h : CK w wr g ao cap R rb rd ra B D A rs S) : g < wr.heap.size ∧ rb < wr.heap.size ∧ rd < wr.heap.size ∧ ra < wr.heap.size ∧ rs < wr.heap.size ∧ w.heap.size ≤ wr.heap.size := ⟨h.gs.lt.1, h.gs.lt.2.1, h.gs.lt.2.2.1, h.gs.lt.2.2.2, h.st.lt, h.gs.bl.size⟩
end
theorem not_map {w : World} {b r : Nat} {S : List Ed} {cs : Array Value} {t : TypeId} (h : SetAt w r S) (hb : Blk w b cs t) : b ≠ r := fun e => by
  obtain ⟨es, cl, h8, _⟩ := h.1
  have h9 : w.heap[b]? = _ := hb
  rw [e, h8] at h9; cases h9
set_option maxRecDepth 100000 in
set_option maxHeartbeats 32000000 in
theorem check_any {w : World} {ao : Option Addr} {cap : Nat} {R : List Rec} (h : HAt w ao R) (hcap : R.length ≤ cap) (hR : R.length ≤ 1000) :
    Calls Try.prog 11 #[.slice ao R.length cap] w fun e w' => e = .returned (.tuple #[.int .u8 (P.chk (his R)).1, .int .i64 (P.chk (his R)).2]) ∧ Below w.heap.size w w' := by
  have hz36 := zero36.1
  have hz72 := zero72.1
  have hH := Lib.hid h
  have h0 : Hid (Below w.heap.size w w) := Below.refl _ _
  clear h
  go_enter Try.func11, Try.ntmps11
  go_upto_region 1 with (fail)
  refine no_implicit_lambda% (wp_region_lit ?_)
  refine no_implicit_lambda% (wpl_val ?_ rfl ?_ ?_)
  rotate_left
  · (go_simp; (try with_reducible rfl))
  (try simp only [Act.put, Z1, Z2, Z4, Z5, Z6])
  refine no_implicit_lambda% (wpl_val ?_ rfl ?_ ?_)
  rotate_left
  · (go_simp; (try with_reducible rfl))
  (try simp only [Act.put, Z1, Z2, Z3, Z4, Z5, Z6])
  refine no_implicit_lambda% (wpl_val ?_ rfl ?_ ?_)
  rotate_left
  · (go_simp; (try with_reducible rfl))
  (try simp only [Act.put, Z1, Z2, Z3, Z4, Z5, Z6])
  refine no_implicit_lambda% (wpList_nil ?_)
  go_wp2_with fail
  go_loopw [27] (fun i wr => ∃ k : Nat, i = .int .i64 k ∧ k ≤ R.length ∧ Below w.heap.size w wr ∧ Hid (∀ j, j < k → ¬ P.badI (his R) j)) (fun i _ => R.length - (intOf i).toNat)
  case atStart => exact ⟨0, rfl, Nat.zero_le _, h0.out, fun j hj => by omega⟩
  case round =>
    obtain ⟨k, rfl, hk, hS, hgood⟩ := hrel
    by_cases hlt : k < R.length
    · have hlt' : (k : Int) < (R.length : Int) := by omega
      obtain ⟨x, hx⟩ : ∃ x, R[k]? = some x := ⟨_, List.getElem?_eq_getElem hlt⟩
      have hHr := hH.out.below hS
      obtain ⟨b, o, rfl, hbl, hr⟩ := hHr.row k x hx
      replace hr := Lib.hid hr
      have hsub := hHr.sub x (List.mem_of_getElem? hx)
      have hone := Lib.hid hsub.one
      have hxh := Lib.hid (his_get hx)
      have hmem := Lib.hid (List.mem_of_getElem? hx)
      clear hx hHr
      go_upto_region 3 with (fail)
      refine no_implicit_lambda% (wp_region_lit ?_)
      iterate 2
        refine no_implicit_lambda% (wpl_val ?_ rfl ?_ ?_)
        rotate_left
        · (go_simp; (try with_reducible rfl))
        (try simp only [Act.put, Z1, Z2, Z3, Z4, Z5, Z6])
      refine wpList_load_mid rfl 36 _ rfl b (o + k * 5) rfl (pcL x) _ hr.out Try.underlying36 rfl (size36' x) ?_
      (try simp only [Act.put, Z1, Z2, Z3, Z4, Z5, Z6])
      refine wpl_alloc 36 (pcA noR) rfl rfl hz36 ?_
      (try simp only [Act.put, Z1, Z2, Z3, Z4, Z5, Z6])
      refine no_implicit_lambda% (wpl_val ?_ rfl ?_ ?_)
      rotate_left
      · (go_simp; (try with_reducible rfl))
      (try simp only [Act.put, Z1, Z2, Z3, Z4, Z5, Z6])
      refine wpList_store_fr rfl 36 _ _ rfl wr.heap.size (pcA x) rfl rfl 36 _ (Blk.alloc_new _ _ _) (size36 x) rfl hone.out ?_
      intro w9 hB9 hF9
      (try simp only [Act.put, Z1, Z2, Z3, Z4, Z5, Z6])
      refine no_implicit_lambda% (wpList_nil ?_)
      have hb9 := box_below hF9
      replace hS := hS.trans (hb9.mono hS.size)
      replace hsub := hsub.below hb9
      clear hF9 hr hbl hb9 hone
      generalize wr.heap.size = bx at *
      have hcw := writes_any x w9 hsub
      clear hsub
      cases hw : x.1.wr with
      | false =>
        rw [hw] at hcw
        have hno : Hid (¬ P.badI (his R) k) := fun ⟨a, h1, h2, _⟩ => by
          rw [hxh.out] at h1
          obtain rfl := Option.some.inj h1
          rw [hw] at h2; cases h2
        replace hw := Lib.hid hw
        go_upto_region 4 with (fail)
        refine no_implicit_lambda% (wp_region_lit ?_)
        refine wpl_val (.agg (pcA x)) rfl (run_load_cs rfl rfl hB9 Try.underlying36 rfl (size36 x)) ?_
        (try simp only [Act.put, Z1, Z2, Z3, Z4, Z5, Z6])
        refine wpl_call _ _ rfl (by go_simp) _ hcw ?_
        rintro e w8 ⟨rfl, hb8⟩
        refine ⟨_, rfl, ?_⟩
        (try simp only [Act.put, Z1, Z2, Z3, Z4, Z5, Z6])
        refine no_implicit_lambda% (wpl_val ?_ rfl ?_ ?_)
        rotate_left
        · (go_simp; (try with_reducible rfl))
        (try simp only [Act.put, Z1, Z2, Z3, Z4, Z5, Z6])
        iterate 5
          refine no_implicit_lambda% (wpl_skip rfl ?_)
          (try simp only [Act.put, Z1, Z2, Z3, Z4, Z5, Z6])
        refine no_implicit_lambda% (wpl_val ?_ rfl ?_ ?_)
        rotate_left
        · (go_simp; (try with_reducible rfl))
        (try simp only [Act.put, Z1, Z2, Z3, Z4, Z5, Z6])
        refine no_implicit_lambda% (wpList_nil ?_)
        have hS8 : Below w.heap.size w w8 ∧ Blk w8 bx (pcA x) 36 := ⟨hS.trans (hb8.mono hS.size), hB9.below hb8⟩
        clear hcw hb8 hB9 hS
        replace hS8 := Lib.hid hS8
        go_upto_region 6 with (fail)
        have hsl := fun w => run_slice_hi (P := Try.prog) Try.underlying22 zero36.2 (b := b) (o := o) (n := R.length) (cap := cap) (i := k) (by omega) w
        refine no_implicit_lambda% (wp_region_lit ?_)
        iterate 3
          refine no_implicit_lambda% (wpl_val ?_ rfl ?_ ?_)
          rotate_left
          · (go_simp; (try with_reducible rfl))
          (try simp only [Act.put, Z1, Z2, Z3, Z4, Z5, Z6])
        refine no_implicit_lambda% (wpl_val ?_ rfl ?_ ?_)
        rotate_left
        · (go_simp; (try with_reducible rfl))
        (try simp only [Act.put, Z1, Z2, Z3, Z4, Z5, Z6])
        refine no_implicit_lambda% (wpl_val ?_ rfl ?_ ?_)
        rotate_left
        · (go_simp; (try with_reducible rfl))
        (try simp only [Act.put, Z1, Z2, Z3, Z4, Z5, Z6])
        refine no_implicit_lambda% (wpList_nil ?_)
        clear hsl
        go_wp2_with fail
        go_loopw [45] (fun i wr => ∃ m : Nat, i = .int .i64 m ∧ m ≤ k ∧ Below w.heap.size w wr ∧ Blk wr bx (pcA x) 36) (fun i _ => k - (intOf i).toNat)
        case atStart => exact ⟨0, rfl, Nat.zero_le _, hS8.out⟩
        case round =>
          clear hS8
          obtain ⟨m, rfl, hm, hS, hBx⟩ := hrel
          by_cases hlm : m < k
          · have hlm' : (m : Int) < (k : Int) := by omega
            obtain ⟨y, hy⟩ : ∃ y, R[m]? = some y := ⟨_, List.getElem?_eq_getElem (by omega)⟩
            have hHr := hH.out.below hS
            obtain ⟨hbl, hr⟩ := hHr.row.at' hy
            replace hr := Lib.hid hr
            have hone := Lib.hid (hHr.sub y (List.mem_of_getElem? hy)).one
            clear hy hHr
            go_upto_region 8 with (fail)
            refine no_implicit_lambda% (wp_region_lit ?_)
            refine no_implicit_lambda% (wpl_val ?_ rfl ?_ ?_)
            rotate_left
            · (go_simp; (try with_reducible rfl))
            (try simp only [Act.put, Z1, Z2, Z4, Z5, Z6])
            refine wpList_load_mid rfl 36 _ rfl b (o + m * 5) rfl (pcL y) _ hr.out Try.underlying36 rfl (size36' y) ?_
            (try simp only [Act.put, Z1, Z2, Z3, Z4, Z5, Z6])
            refine wpl_alloc 36 (pcA noR) rfl rfl hz36 ?_
            (try simp only [Act.put, Z1, Z2, Z3, Z4, Z5, Z6])
            refine wpList_store_fr rfl 36 _ _ rfl wr.heap.size (pcA y) rfl rfl 36 _ (Blk.alloc_new _ _ _) (size36 y) rfl hone.out ?_
            intro w9 hB9 hF9
            (try simp only [Act.put, Z1, Z2, Z3, Z4, Z5, Z6])
            refine no_implicit_lambda% (wpList_nil ?_)
            replace hS := hS.trans ((box_below hF9).mono hS.size)
            replace hBx := hBx.below (box_below hF9)
            clear hF9 hr hbl hone
            generalize wr.heap.size = by_ at *
            have hcw := writes_any x w9 ((hH.out.below hS).sub x hmem.out)
            rw [hw.out] at hcw
            go_upto_region 9 with (fail)
            refine no_implicit_lambda% (wp_region_lit ?_)
            refine wpl_val (.agg (pcA x)) rfl (run_load_cs rfl rfl hBx Try.underlying36 rfl (size36 x)) ?_
            (try simp only [Act.put, Z1, Z2, Z3, Z4, Z5, Z6])
            refine wpl_call _ _ rfl (by go_simp) _ hcw ?_
            rintro e w7 ⟨rfl, hb7⟩
            refine ⟨_, rfl, ?_⟩
            (try simp only [Act.put, Z1, Z2, Z3, Z4, Z5, Z6])
            refine no_implicit_lambda% (wpl_val ?_ rfl ?_ ?_)
            rotate_left
            · (go_simp; (try with_reducible rfl))
            (try simp only [Act.put, Z1, Z2, Z3, Z4, Z5, Z6])
            iterate 2
              refine no_implicit_lambda% (wpl_skip rfl ?_)
              (try simp only [Act.put, Z1, Z2, Z3, Z4, Z5, Z6])
            iterate 2
              refine no_implicit_lambda% (wpl_val ?_ rfl ?_ ?_)
              rotate_left
              · (go_simp; (try with_reducible rfl))
              (try simp only [Act.put, Z1, Z2, Z3, Z4, Z5, Z6])
            iterate 5
              refine no_implicit_lambda% (wpl_skip rfl ?_)
              (try simp only [Act.put, Z1, Z2, Z3, Z4, Z5, Z6])
            refine no_implicit_lambda% (wpl_val ?_ rfl ?_ ?_)
            rotate_left
            · (go_simp; (try with_reducible rfl))
            (try simp only [Act.put, Z1, Z2, Z3, Z4, Z5, Z6])
            refine no_implicit_lambda% (wpList_nil ?_)
            replace hS := hS.trans (hb7.mono hS.size)
            replace hBx := hBx.below hb7
            clear hcw hb7 hB9
            go_wp2_with fail
            go_roundw
            case rel => exact ⟨m + 1, by go_num, by omega, hS, hBx⟩
            case measure => simp [intOf]; omega
          · obtain rfl : m = k := by omega
            have hg2 : Hid (∀ j, j < m + 1 → ¬ P.badI (his R) j) := fun j hj => by
              by_cases e : j = m
              · rw [e]; exact hno.out
              · exact hgood.out j (by omega)
            clear hgood hno hlm hw
            go_wp2_with fail
            go_roundw
            case rel => exact ⟨m + 1, by go_num, by omega, hS, hg2⟩
            case measure => simp [intOf]; omega
      | true =>
        rw [hw] at hcw
        replace hw := Lib.hid hw
        go_upto_region 4 with (fail)
        refine no_implicit_lambda% (wp_region_lit ?_)
        refine wpl_val (.agg (pcA x)) rfl (run_load_cs rfl rfl hB9 Try.underlying36 rfl (size36 x)) ?_
        (try simp only [Act.put, Z1, Z2, Z3, Z4, Z5, Z6])
        refine wpl_call _ _ rfl (by go_simp) _ hcw ?_
        rintro e w8 ⟨rfl, hb8⟩
        refine ⟨_, rfl, ?_⟩
        (try simp only [Act.put, Z1, Z2, Z3, Z4, Z5, Z6])
        replace hS := hS.trans (hb8.mono hS.size)
        have hBx := hB9.below hb8
        clear hcw hb8 hB9
        by_cases hge : x.1.commit ≤ x.1.start
        · have hge' : decide (x.1.commit ≤ x.1.start) = true := by simp [hge]
          have HP : Hid (P.chk (his R) = (0, 1)) := P.chk_bad ⟨k, _, hxh.out, hw.out, .inl hge⟩
          clear hge
          iterate 2
            refine no_implicit_lambda% (wpl_val ?_ rfl ?_ ?_)
            rotate_left
            · (go_simp; (try with_reducible rfl))
            (try simp only [Act.put, Z1, Z2, Z3, Z4, Z5, Z6])
          refine no_implicit_lambda% (wpl_val ?_ rfl ?_ ?_)
          rotate_left
          · (have c0 := (show w8.cell? ⟨bx, 0, none⟩ = some (.int .u32 x.1.start) by rw [hBx.cell]; rfl); go_simp; (try with_reducible rfl))
          (try simp only [Act.put, Z1, Z2, Z3, Z4, Z5, Z6])
          refine no_implicit_lambda% (wpl_val ?_ rfl ?_ ?_)
          rotate_left
          · (go_simp; (try with_reducible rfl))
          (try simp only [Act.put, Z1, Z2, Z3, Z4, Z5, Z6])
          refine no_implicit_lambda% (wpl_val ?_ rfl ?_ ?_)
          rotate_left
          · (have c0 := (show w8.cell? ⟨bx, 1, none⟩ = some (.int .u32 x.1.commit) by rw [hBx.cell]; rfl); go_simp; (try with_reducible rfl))
          (try simp only [Act.put, Z1, Z2, Z3, Z4, Z5, Z6])
          iterate 2
            refine no_implicit_lambda% (wpl_val ?_ rfl ?_ ?_)
            rotate_left
            · (go_simp; (try with_reducible rfl))
            (try simp only [Act.put, Z1, Z2, Z3, Z4, Z5, Z6])
          refine no_implicit_lambda% (wpList_nil ?_)
          go_wp2_with fail
          go_ret2
          rw [HP.out]
          exact ⟨rfl, hS⟩
        · have hge' : decide (x.1.commit ≤ x.1.start) = false := by simp; omega
          iterate 2
            refine no_implicit_lambda% (wpl_val ?_ rfl ?_ ?_)
            rotate_left
            · (go_simp; (try with_reducible rfl))
            (try simp only [Act.put, Z1, Z2, Z3, Z4, Z5, Z6])
          refine no_implicit_lambda% (wpl_val ?_ rfl ?_ ?_)
          rotate_left
          · (have c0 := (show w8.cell? ⟨bx, 0, none⟩ = some (.int .u32 x.1.start) by rw [hBx.cell]; rfl); go_simp; (try with_reducible rfl))
          (try simp only [Act.put, Z1, Z2, Z3, Z4, Z5, Z6])
          refine no_implicit_lambda% (wpl_val ?_ rfl ?_ ?_)
          rotate_left
          · (go_simp; (try with_reducible rfl))
          (try simp only [Act.put, Z1, Z2, Z3, Z4, Z5, Z6])
          refine no_implicit_lambda% (wpl_val ?_ rfl ?_ ?_)
          rotate_left
          · (have c0 := (show w8.cell? ⟨bx, 1, none⟩ = some (.int .u32 x.1.commit) by rw [hBx.cell]; rfl); go_simp; (try with_reducible rfl))
          (try simp only [Act.put, Z1, Z2, Z3, Z4, Z5, Z6])
          iterate 2
            refine no_implicit_lambda% (wpl_val ?_ rfl ?_ ?_)
            rotate_left
            · (go_simp; (try with_reducible rfl))
            (try simp only [Act.put, Z1, Z2, Z3, Z4, Z5, Z6])
          refine no_implicit_lambda% (wpList_nil ?_)
          replace hge := Lib.hid hge
          have hS8 := Lib.hid (And.intro hS hBx)
          clear hge' hS hBx
          go_upto_region 6 with (fail)
          have hsl := fun w => run_slice_hi (P := Try.prog) Try.underlying22 zero36.2 (b := b) (o := o) (n := R.length) (cap := cap) (i := k) (by omega) w
          refine no_implicit_lambda% (wp_region_lit ?_)
          iterate 3
            refine no_implicit_lambda% (wpl_val ?_ rfl ?_ ?_)
            rotate_left
            · (go_simp; (try with_reducible rfl))
            (try simp only [Act.put, Z1, Z2, Z3, Z4, Z5, Z6])
          refine no_implicit_lambda% (wpl_val ?_ rfl ?_ ?_)
          rotate_left
          · (go_simp; (try with_reducible rfl))
          (try simp only [Act.put, Z1, Z2, Z3, Z4, Z5, Z6])
          refine no_implicit_lambda% (wpl_val ?_ rfl ?_ ?_)
          rotate_left
          · (go_simp; (try with_reducible rfl))
          (try simp only [Act.put, Z1, Z2, Z3, Z4, Z5, Z6])
          refine no_implicit_lambda% (wpList_nil ?_)
          clear hsl
          go_wp2_with fail
          go_loopw [45] (fun i wr => ∃ m : Nat, i = .int .i64 m ∧ m ≤ k ∧ Below w.heap.size w wr ∧ Blk wr bx (pcA x) 36 ∧ Hid (∀ j c, j < m → (his R)[j]? = some c → c.wr = true → x.1.commit ≠ c.commit)) (fun i _ => k - (intOf i).toNat)
          case atStart => exact ⟨0, rfl, Nat.zero_le _, hS8.out.1, hS8.out.2, fun j c hj => by omega⟩
          case round =>
            clear hS8
            obtain ⟨m, rfl, hm, hS, hBx, hC⟩ := hrel
            by_cases hlm : m < k
            · have hlm' : (m : Int) < (k : Int) := by omega
              obtain ⟨y, hy⟩ : ∃ y, R[m]? = some y := ⟨_, List.getElem?_eq_getElem (by omega)⟩
              have hHr := hH.out.below hS
              obtain ⟨hbl, hr⟩ := hHr.row.at' hy
              replace hr := Lib.hid hr
              have hone := Lib.hid (hHr.sub y (List.mem_of_getElem? hy)).one
              have hyh := Lib.hid (his_get hy)
              have hymem := Lib.hid (List.mem_of_getElem? hy)
              clear hy hHr
              go_upto_region 8 with (fail)
              refine no_implicit_lambda% (wp_region_lit ?_)
              refine no_implicit_lambda% (wpl_val ?_ rfl ?_ ?_)
              rotate_left
              · (go_simp; (try with_reducible rfl))
              (try simp only [Act.put, Z1, Z2, Z4, Z5, Z6])
              refine wpList_load_mid rfl 36 _ rfl b (o + m * 5) rfl (pcL y) _ hr.out Try.underlying36 rfl (size36' y) ?_
              (try simp only [Act.put, Z1, Z2, Z3, Z4, Z5, Z6])
              refine wpl_alloc 36 (pcA noR) rfl rfl hz36 ?_
              (try simp only [Act.put, Z1, Z2, Z3, Z4, Z5, Z6])
              refine wpList_store_fr rfl 36 _ _ rfl wr.heap.size (pcA y) rfl rfl 36 _ (Blk.alloc_new _ _ _) (size36 y) rfl hone.out ?_
              intro w9 hB9 hF9
              (try simp only [Act.put, Z1, Z2, Z3, Z4, Z5, Z6])
              refine no_implicit_lambda% (wpList_nil ?_)
              replace hS := hS.trans ((box_below hF9).mono hS.size)
              replace hBx := hBx.below (box_below hF9)
              clear hF9 hr hbl hone
              generalize wr.heap.size = by_ at *
              have hcw := writes_any x w9 ((hH.out.below hS).sub x hmem.out)
              rw [hw.out] at hcw
              go_upto_region 9 with (fail)
              refine no_implicit_lambda% (wp_region_lit ?_)
              refine wpl_val (.agg (pcA x)) rfl (run_load_cs rfl rfl hBx Try.underlying36 rfl (size36 x)) ?_
              (try simp only [Act.put, Z1, Z2, Z3, Z4, Z5, Z6])
              refine wpl_call _ _ rfl (by go_simp) _ hcw ?_
              rintro e w7 ⟨rfl, hb7⟩
              refine ⟨_, rfl, ?_⟩
              (try simp only [Act.put, Z1, Z2, Z3, Z4, Z5, Z6])
              refine no_implicit_lambda% (wpl_val ?_ rfl ?_ ?_)
              rotate_left
              · (go_simp; (try with_reducible rfl))
              (try simp only [Act.put, Z1, Z2, Z3, Z4, Z5, Z6])
              replace hS := hS.trans (hb7.mono hS.size)
              replace hBx := hBx.below hb7
              replace hB9 := hB9.below hb7
              clear hcw hb7
              refine wpl_val (.agg (pcA y)) rfl (run_load_cs rfl rfl hB9 Try.underlying36 rfl (size36 y)) ?_
              (try simp only [Act.put, Z1, Z2, Z3, Z4, Z5, Z6])
              have hcy := writes_any y w7 ((hH.out.below hS).sub y hymem.out)
              refine wpl_call _ _ rfl (by go_simp) _ hcy ?_
              rintro e w6 ⟨rfl, hb6⟩
              refine ⟨_, rfl, ?_⟩
              (try simp only [Act.put, Z1, Z2, Z3, Z4, Z5, Z6])
              replace hS := hS.trans (hb6.mono hS.size)
              replace hBx := hBx.below hb6
              replace hB9 := hB9.below hb6
              clear hcy hb6
              cases hwy : y.1.wr with
              | false =>
                have hC2 : Hid (∀ j c, j < m + 1 → (his R)[j]? = some c → c.wr = true → x.1.commit ≠ c.commit) := fun j c hj hc hcw => by
                  by_cases e : j = m
                  · rw [e, hyh.out] at hc
                    obtain rfl := Option.some.inj hc
                    rw [hwy] at hcw; cases hcw
                  · exact hC.out j c (by omega) hc hcw
                clear hC hwy
                iterate 2
                  refine no_implicit_lambda% (wpl_val ?_ rfl ?_ ?_)
                  rotate_left
                  · (go_simp; (try with_reducible rfl))
                  (try simp only [Act.put, Z1, Z2, Z3, Z4, Z5, Z6])
                iterate 5
                  refine no_implicit_lambda% (wpl_skip rfl ?_)
                  (try simp only [Act.put, Z1, Z2, Z3, Z4, Z5, Z6])
                refine no_implicit_lambda% (wpl_val ?_ rfl ?_ ?_)
                rotate_left
                · (go_simp; (try with_reducible rfl))
                (try simp only [Act.put, Z1, Z2, Z3, Z4, Z5, Z6])
                refine no_implicit_lambda% (wpList_nil ?_)
                clear hB9
                go_wp2_with fail
                go_roundw
                case rel => exact ⟨m + 1, by go_num, by omega, hS, hBx, hC2⟩
                case measure => simp [intOf]; omega
              | true =>
                by_cases heq : x.1.commit = y.1.commit
                · have heq' : (x.1.commit == y.1.commit) = true := by simp [heq]
                  have HP : Hid (P.chk (his R) = (0, 1)) := P.chk_bad ⟨k, _, hxh.out, hw.out, .inr ⟨m, _, hlm, hyh.out, hwy, heq⟩⟩
                  clear hC hwy heq
                  iterate 3
                    refine no_implicit_lambda% (wpl_val ?_ rfl ?_ ?_)
                    rotate_left
                    · (go_simp; (try with_reducible rfl))
                    (try simp only [Act.put, Z1, Z2, Z3, Z4, Z5, Z6])
                  refine no_implicit_lambda% (wpl_val ?_ rfl ?_ ?_)
                  rotate_left
                  · (have c0 := (show w6.cell? ⟨bx, 1, none⟩ = some (.int .u32 x.1.commit) by rw [hBx.cell]; rfl); go_simp; (try with_reducible rfl))
                  (try simp only [Act.put, Z1, Z2, Z3, Z4, Z5, Z6])
                  refine no_implicit_lambda% (wpl_val ?_ rfl ?_ ?_)
                  rotate_left
                  · (go_simp; (try with_reducible rfl))
                  (try simp only [Act.put, Z1, Z2, Z3, Z4, Z5, Z6])
                  refine no_implicit_lambda% (wpl_val ?_ rfl ?_ ?_)
                  rotate_left
                  · (have c0 := (show w6.cell? ⟨by_, 1, none⟩ = some (.int .u32 y.1.commit) by rw [hB9.cell]; rfl); go_simp; (try with_reducible rfl))
                  (try simp only [Act.put, Z1, Z2, Z3, Z4, Z5, Z6])
                  iterate 2
                    refine no_implicit_lambda% (wpl_val ?_ rfl ?_ ?_)
                    rotate_left
                    · (go_simp; (try with_reducible rfl))
                    (try simp only [Act.put, Z1, Z2, Z3, Z4, Z5, Z6])
                  refine no_implicit_lambda% (wpList_nil ?_)
                  go_wp2_with fail
                  go_ret2
                  rw [HP.out]
                  exact ⟨rfl, hS⟩
                · have heq' : (x.1.commit == y.1.commit) = false := by simp [heq]
                  have hC2 : Hid (∀ j c, j < m + 1 → (his R)[j]? = some c → c.wr = true → x.1.commit ≠ c.commit) := fun j c hj hc hcw => by
                    by_cases e : j = m
                    · rw [e, hyh.out] at hc
                      obtain rfl := Option.some.inj hc
                      exact heq
                    · exact hC.out j c (by omega) hc hcw
                  clear hC hwy heq
                  iterate 3
                    refine no_implicit_lambda% (wpl_val ?_ rfl ?_ ?_)
                    rotate_left
                    · (go_simp; (try with_reducible rfl))
                    (try simp only [Act.put, Z1, Z2, Z3, Z4, Z5, Z6])
                  refine no_implicit_lambda% (wpl_val ?_ rfl ?_ ?_)
                  rotate_left
                  · (have c0 := (show w6.cell? ⟨bx, 1, none⟩ = some (.int .u32 x.1.commit) by rw [hBx.cell]; rfl); go_simp; (try with_reducible rfl))
                  (try simp only [Act.put, Z1, Z2, Z3, Z4, Z5, Z6])
                  refine no_implicit_lambda% (wpl_val ?_ rfl ?_ ?_)
                  rotate_left
                  · (go_simp; (try with_reducible rfl))
                  (try simp only [Act.put, Z1, Z2, Z3, Z4, Z5, Z6])
                  refine no_implicit_lambda% (wpl_val ?_ rfl ?_ ?_)
                  rotate_left
                  · (have c0 := (show w6.cell? ⟨by_, 1, none⟩ = some (.int .u32 y.1.commit) by rw [hB9.cell]; rfl); go_simp; (try with_reducible rfl))
                  (try simp only [Act.put, Z1, Z2, Z3, Z4, Z5, Z6])
                  iterate 2
                    refine no_implicit_lambda% (wpl_val ?_ rfl ?_ ?_)
                    rotate_left
                    · (go_simp; (try with_reducible rfl))
                    (try simp only [Act.put, Z1, Z2, Z3, Z4, Z5, Z6])
                  refine no_implicit_lambda% (wpList_nil ?_)
                  clear hB9
                  go_wp2_with fail
                  go_roundw
                  case rel => exact ⟨m + 1, by go_num, by omega, hS, hBx, hC2⟩
                  case measure => simp [intOf]; omega
            · obtain rfl : m = k := by omega
              have hg2 : Hid (∀ j, j < m + 1 → ¬ P.badI (his R) j) := fun j hj => by
                by_cases e : j = m
                · rw [e]
                  rintro ⟨a, h1, _, h2⟩
                  rw [hxh.out] at h1
                  obtain rfl := Option.some.inj h1
                  rcases h2 with h2 | ⟨i, c, h2, h3, h4, h5⟩
                  · have h9 := hge.out; omega
                  · exact hC.out i c h2 h3 h4 h5
                · exact hgood.out j (by omega)
              clear hgood hlm hw hC hge
              go_wp2_with fail
              go_roundw
              case rel => exact ⟨m + 1, by go_num, by omega, hS, hg2⟩
              case measure => simp [intOf]; omega
    · obtain rfl : k = R.length := by omega
      have hbad : Hid (¬ P.bad (his R)) := fun ⟨j, hj⟩ => by
        by_cases hl : j < R.length
        · exact hgood.out j hl hj
        · obtain ⟨a, h1, _⟩ := hj
          have := (List.getElem?_eq_some_iff.1 h1).1
          rw [his_length] at this; exact hl this
      clear hgood hlt
      go_upto_region 13 with (fail)
      refine no_implicit_lambda% (wp_region_lit ?_)
      refine no_implicit_lambda% (wpl_val ?_ rfl ?_ ?_)
      rotate_left
      · (go_simp; (try with_reducible rfl))
      (try simp only [Act.put, Z1, Z2, Z4, Z5, Z6])
      have hmm := @run_makeMap Try.prog
      refine wpl_run (.map (some wr.heap.size)) (wr.alloc (.map #[] 0)) rfl (by go_simp) ?_
      (try simp only [Act.put, Z1, Z2, Z3, Z4, Z5, Z6])
      have i1 : IdxAt (wr.alloc (.map #[] 0)) wr.heap.size [] := IdxAt.made wr
      have l0 := hS.size
      have l1 : wr.heap.size < (wr.alloc (.map #[] 0)).heap.size := by simp
      replace hS : Below w.heap.size w (wr.alloc (.map #[] 0)) := hS.alloc hS.size _
      generalize wr.alloc (.map #[] 0) = W1 at *
      generalize wr.heap.size = rb at *
      refine wpl_run (.map (some W1.heap.size)) (W1.alloc (.map #[] 0)) rfl (by go_simp) ?_
      (try simp only [Act.put, Z1, Z2, Z3, Z4, Z5, Z6])
      have i2 : SetAt (W1.alloc (.map #[] 0)) W1.heap.size [] := SetAt.made W1
      replace i1 := i1.below ((Below.refl _ _).alloc (Nat.le_refl _) (.map #[] 0))
      have l2 : W1.heap.size < (W1.alloc (.map #[] 0)).heap.size := by simp
      replace hS : Below w.heap.size w (W1.alloc (.map #[] 0)) := hS.alloc hS.size _
      generalize W1.alloc (.map #[] 0) = W2 at *
      generalize W1.heap.size = rd at *
      clear W1
      refine wpl_run (.map (some W2.heap.size)) (W2.alloc (.map #[] 0)) rfl (by go_simp) ?_
      (try simp only [Act.put, Z1, Z2, Z3, Z4, Z5, Z6])
      have i3 : SetAt (W2.alloc (.map #[] 0)) W2.heap.size [] := SetAt.made W2
      replace i1 := i1.below ((Below.refl _ _).alloc (Nat.le_refl _) (.map #[] 0))
      replace i2 := i2.below ((Below.refl _ _).alloc (Nat.le_refl _) (.map #[] 0))
      have l3 : W2.heap.size < (W2.alloc (.map #[] 0)).heap.size := by simp
      replace hS : Below w.heap.size w (W2.alloc (.map #[] 0)) := hS.alloc hS.size _
      generalize W2.alloc (.map #[] 0) = W3 at *
      generalize W2.heap.size = ra at *
      clear W2
      clear hmm
      refine wpl_val (.agg #[.slice ao R.length cap, .map (some rb), .map (some rd), .map (some ra)]) rfl (run_buildE rfl (by go_simp; exact b68 ao R.length cap rb rd ra)) ?_
      (try simp only [Act.put, Z1, Z2, Z3, Z4, Z5, Z6])
      refine Go.Great.wpList_boxTo rfl 68 _ rfl _ rfl W3.heap.size rfl #[.slice ao R.length cap, .map (some rb), .map (some rd), .map (some ra)] rfl ?_
      (try simp only [Act.put, Z1, Z2, Z3, Z4, Z5, Z6])
      have i4 : Blk (W3.alloc (.cells #[.slice ao R.length cap, .map (some rb), .map (some rd), .map (some ra)] 68)) W3.heap.size #[.slice ao R.length cap, .map (some rb), .map (some rd), .map (some ra)] 68 := Blk.alloc_new _ _ _
      have al := ((Below.refl W3.heap.size W3).alloc (Nat.le_refl _) (.cells #[.slice ao R.length cap, .map (some rb), .map (some rd), .map (some ra)] 68))
      have hG : GS w (W3.alloc (.cells #[.slice ao R.length cap, .map (some rb), .map (some rd), .map (some ra)] 68)) W3.heap.size ao cap R rb rd ra [] [] [] :=
        ⟨hH.out, hS.trans (al.mono hS.size), by omega, i4, i1.below al, i2.below al, i3.below al, by omega⟩
      clear i1 i2 i3 i4 al l0 l1 l2 l3 hS
      generalize W3.alloc (.cells #[.slice ao R.length cap, .map (some rb), .map (some rd), .map (some ra)] 68) = V at *
      generalize W3.heap.size = g at *
      clear W3
      refine no_implicit_lambda% (wpl_val ?_ rfl ?_ ?_)
      rotate_left
      · (go_simp; (try with_reducible rfl))
      (try simp only [Act.put, Z1, Z2, Z3, Z4, Z5, Z6])
      refine no_implicit_lambda% (wpList_nil ?_)
      replace hG := Lib.hid hG
      clear hH
      go_upto_region 14 with (fail)
      refine no_implicit_lambda% (wp_region_lit ?_)
      refine no_implicit_lambda% (wpl_val ?_ rfl ?_ ?_)
      rotate_left
      · (go_simp; (try with_reducible rfl))
      (try simp only [Act.put, Z1, Z2, Z4, Z5, Z6])
      refine no_implicit_lambda% (wpl_val ?_ rfl ?_ ?_)
      rotate_left
      · (go_simp; (try with_reducible rfl))
      (try simp only [Act.put, Z1, Z2, Z3, Z4, Z5, Z6])
      refine no_implicit_lambda% (wpl_val ?_ rfl ?_ ?_)
      rotate_left
      · (go_simp; (try with_reducible rfl))
      (try simp only [Act.put, Z1, Z2, Z3, Z4, Z5, Z6])
      refine no_implicit_lambda% (wpList_nil ?_)
      go_wp2_with fail
      go_loopw [72] (fun i wr => ∃ (k : Nat) (B : P.Bx), i = .int .i64 k ∧ k ≤ R.length ∧ GS w wr g ao cap R rb rd ra B [] [] ∧ Hid (P.BTo (his R) k 0 B)) (fun i _ => R.length - (intOf i).toNat)
      case atStart => exact ⟨0, [], rfl, Nat.zero_le _, hG.out, P.BTo.start _⟩
      case round =>
        clear hG
        obtain ⟨k, B, rfl, hk, hS, hT⟩ := hrel
        by_cases hlt : k < R.length
        · have hlt' : (k : Int) < (R.length : Int) := by omega
          obtain ⟨x, hx⟩ : ∃ x, R[k]? = some x := ⟨_, List.getElem?_eq_getElem hlt⟩
          obtain ⟨b, o, rfl, hbl, hr⟩ := hS.h.row k x hx
          replace hr := Lib.hid hr
          have hsub := hS.h.sub x (List.mem_of_getElem? hx)
          have hone := Lib.hid hsub.one
          have hok := Lib.hid hsub.ok
          have hxh := Lib.hid (his_get hx)
          have hmem := Lib.hid (List.mem_of_getElem? hx)
          clear hx
          go_upto_region 16 with (fail)
          refine no_implicit_lambda% (wp_region_lit ?_)
          iterate 2
            refine no_implicit_lambda% (wpl_val ?_ rfl ?_ ?_)
            rotate_left
            · (go_simp; (try with_reducible rfl))
            (try simp only [Act.put, Z1, Z2, Z3, Z4, Z5, Z6])
          refine wpList_load_mid rfl 36 _ rfl b (o + k * 5) rfl (pcL x) _ hr.out Try.underlying36 rfl (size36' x) ?_
          (try simp only [Act.put, Z1, Z2, Z3, Z4, Z5, Z6])
          refine wpl_alloc 36 (pcA noR) rfl rfl hz36 ?_
          (try simp only [Act.put, Z1, Z2, Z3, Z4, Z5, Z6])
          refine no_implicit_lambda% (wpl_val ?_ rfl ?_ ?_)
          rotate_left
          · (go_simp; (try with_reducible rfl))
          (try simp only [Act.put, Z1, Z2, Z3, Z4, Z5, Z6])
          refine wpList_store_fr rfl 36 _ _ rfl wr.heap.size (pcA x) rfl rfl 36 _ (Blk.alloc_new _ _ _) (size36 x) rfl hone.out ?_
          intro w9 hB9 hF9
          (try simp only [Act.put, Z1, Z2, Z3, Z4, Z5, Z6])
          refine no_implicit_lambda% (wpList_nil ?_)
          have hb9 := box_below hF9
          replace hS := hS.below hb9
          obtain ⟨aow, capw, hwv, hcw, hwr⟩ := hsub.wt
          have cw : w9.cell? ⟨wr.heap.size, 4, none⟩ = some (.slice aow x.1.writes.length capw) := by rw [hB9.cell, ← hwv]; rfl
          replace hwv := Lib.hid hwv
          clear hF9 hr hbl hb9 hone hsub hwr
          generalize wr.heap.size = bx at *
          go_upto_region 17 with (fail)
          refine no_implicit_lambda% (wp_region_lit ?_)
          refine no_implicit_lambda% (wpl_val ?_ rfl ?_ ?_)
          rotate_left
          · (go_simp; (try with_reducible rfl))
          (try simp only [Act.put, Z1, Z2, Z4, Z5, Z6])
          refine no_implicit_lambda% (wpl_val ?_ rfl ?_ ?_)
          rotate_left
          · (have c0 := cw; go_simp; (try with_reducible rfl))
          (try simp only [Act.put, Z1, Z2, Z3, Z4, Z5, Z6])
          refine no_implicit_lambda% (wpl_val ?_ rfl ?_ ?_)
          rotate_left
          · (go_simp; (try with_reducible rfl))
          (try simp only [Act.put, Z1, Z2, Z3, Z4, Z5, Z6])
          refine no_implicit_lambda% (wpl_val ?_ rfl ?_ ?_)
          rotate_left
          · (go_simp; (try with_reducible rfl))
          (try simp only [Act.put, Z1, Z2, Z3, Z4, Z5, Z6])
          refine no_implicit_lambda% (wpList_nil ?_)
          have hwl := hok.out.wl
          have HS := Lib.hid (And.intro hS (And.intro hB9 hT))
          clear hS hB9 hT cw
          go_wp2_with fail
          go_loopw [80] (fun i wr => ∃ (m : Nat) (B : P.Bx), i = .int .i64 m ∧ m ≤ x.1.writes.length ∧ GS w wr g (some ⟨b, o, none⟩) cap R rb rd ra B [] [] ∧ Blk wr bx (pcA x) 36 ∧ Hid (P.BTo (his R) k m B)) (fun i _ => x.1.writes.length - (intOf i).toNat)
          case atStart => exact ⟨0, B, rfl, Nat.zero_le _, HS.out⟩
          case round =>
            clear HS
            obtain ⟨m, B, rfl, hm, hS, hBx, hT⟩ := hrel
            by_cases hlm : m < x.1.writes.length
            · have hlm' : (m : Int) < (x.1.writes.length : Int) := by omega
              obtain ⟨p, hp⟩ : ∃ p, x.1.writes[m]? = some p := ⟨_, List.getElem?_eq_getElem hlm⟩
              obtain ⟨b2, o2, rfl, hbl2, hr2⟩ := (wt_at (hS.h.sub x hmem.out) hwv.out) m p hp
              have hcp : wr.cell? ⟨b2, o2 + m, none⟩ = some (.int .u16 p) := by have := hr2 0 _ rfl; simpa using this
              have hvw : Hid (DS (p, x.1.commit)) := ⟨hok.out.writes p (List.mem_of_getElem? hp), hok.out.commit⟩
              replace hp := Lib.hid hp
              clear hr2 hbl2
              go_upto_region 19 with (fail)
              refine no_implicit_lambda% (wp_region_lit ?_)
              refine no_implicit_lambda% (wpl_val ?_ rfl ?_ ?_)
              rotate_left
              · (go_simp; (try with_reducible rfl))
              (try simp only [Act.put, Z1, Z2, Z4, Z5, Z6])
              refine no_implicit_lambda% (wpl_val ?_ rfl ?_ ?_)
              rotate_left
              · (have c0 := hcp; go_simp; (try with_reducible rfl))
              (try simp only [Act.put, Z1, Z2, Z3, Z4, Z5, Z6])
              refine no_implicit_lambda% (wpl_val ?_ rfl ?_ ?_)
              rotate_left
              · (go_simp; (try with_reducible rfl))
              (try simp only [Act.put, Z1, Z2, Z3, Z4, Z5, Z6])
              refine no_implicit_lambda% (wpList_nil ?_)
              clear hcp
              cases hd : x.1.done with
              | false =>
                have hT2 : Hid (P.BTo (his R) k (m + 1) B) := hT.out.not_done hxh.out hd (m + 1)
                have cd : wr.cell? ⟨bx, 2, none⟩ = some (.bool false) := by rw [hBx.cell, ← hd]; rfl
                clear hT hd
                go_upto_region 20 with (fail)
                refine no_implicit_lambda% (wp_region_lit ?_)
                refine no_implicit_lambda% (wpl_val ?_ rfl ?_ ?_)
                rotate_left
                · (go_simp; (try with_reducible rfl))
                (try simp only [Act.put, Z1, Z2, Z4, Z5, Z6])
                refine no_implicit_lambda% (wpl_val ?_ rfl ?_ ?_)
                rotate_left
                · (have c0 := cd; go_simp; (try with_reducible rfl))
                (try simp only [Act.put, Z1, Z2, Z3, Z4, Z5, Z6])
                refine no_implicit_lambda% (wpList_nil ?_)
                clear cd
                go_wp2_with fail
                go_roundw
                case rel => exact ⟨m + 1, B, by go_num, by omega, hS, hBx, hT2⟩
                case measure => simp [intOf]; omega
              | true =>
                have hT2 : Hid (P.BTo (his R) k (m + 1) (G.put B (p, x.1.commit) k)) := hT.out.step hbad.out hS.fb.keys hxh.out hd hp.out
                have cd : wr.cell? ⟨bx, 2, none⟩ = some (.bool true) := by rw [hBx.cell, ← hd]; rfl
                clear hT hd
                go_upto_region 20 with (fail)
                refine no_implicit_lambda% (wp_region_lit ?_)
                refine no_implicit_lambda% (wpl_val ?_ rfl ?_ ?_)
                rotate_left
                · (go_simp; (try with_reducible rfl))
                (try simp only [Act.put, Z1, Z2, Z4, Z5, Z6])
                refine no_implicit_lambda% (wpl_val ?_ rfl ?_ ?_)
                rotate_left
                · (have c0 := cd; go_simp; (try with_reducible rfl))
                (try simp only [Act.put, Z1, Z2, Z3, Z4, Z5, Z6])
                refine no_implicit_lambda% (wpList_nil ?_)
                clear cd
                go_upto_region 21 with (fail)
                refine wp_region_K (k := 9) (S := (fun w' => GS w w' g (some ⟨b, o, none⟩) cap R rb rd ra B [] [] ∧ Blk w' bx (pcA x) 36)) (by kernel_rfl) ?_
                change wpAnyK _ _ _ _ _ _ _ _ _ (World.drew _)
                (try simp only [Act.put])
                replace hS := And.intro (hS.below (Below.refl _ _).drew) hBx.drew
                clear hBx
                generalize wr.drew = V at *
                refine anyK_pure 0 _ ?_ rfl (by kernel_rfl) (by kernel_rfl) (by kernel_rfl) (fun _ _ _ h => h) (by decide) rfl ?_ hS ?_
                rotate_left
                · (intro w'; go_simp; (try with_reducible rfl))
                (try simp only [Act.put, Z1, Z2, Z4, Z5, Z6])
                refine anyK_pure 1 _ ?_ rfl (by kernel_rfl) (by kernel_rfl) (by kernel_rfl) (fun _ _ _ h => h) (by decide) rfl ?_ hS ?_
                rotate_left
                · (intro w'; go_simp; (try with_reducible rfl))
                (try simp only [Act.put, Z1, Z2, Z3, Z4, Z5, Z6])
                refine anyK_pure 2 _ ?_ rfl (by kernel_rfl) (by kernel_rfl) (by kernel_rfl) (fun _ _ _ h => h) (by decide) rfl ?_ hS ?_
                rotate_left
                · (intro w'; go_simp; (try with_reducible rfl))
                (try simp only [Act.put, Z1, Z2, Z3, Z4, Z5, Z6])
                refine anyK_if 3 _ ?_ rfl (by kernel_rfl) (by kernel_rfl) (by kernel_rfl) (fun _ _ _ h => h) (by decide) (by kernel_rfl) (by kernel_rfl) rfl ?_ hS ?_
                rotate_left
                · (intro w' h; have c0 := h.1.c1; go_simp; (try with_reducible rfl))
                (try simp only [Act.put, Z1, Z2, Z3, Z4, Z5, Z6])
                refine anyK_pure 4 _ ?_ rfl (by kernel_rfl) (by kernel_rfl) (by kernel_rfl) (fun _ _ _ h => h) (by decide) rfl ?_ hS ?_
                rotate_left
                · (intro w'; go_simp; (try with_reducible rfl))
                (try simp only [Act.put, Z1, Z2, Z3, Z4, Z5, Z6])
                refine anyK_pure 5 _ ?_ rfl (by kernel_rfl) (by kernel_rfl) (by kernel_rfl) (fun _ _ _ h => h) (by decide) rfl ?_ hS ?_
                rotate_left
                · (intro w'; go_simp; (try with_reducible rfl))
                (try simp only [Act.put, Z1, Z2, Z3, Z4, Z5, Z6])
                refine anyK_if 6 _ ?_ rfl (by kernel_rfl) (by kernel_rfl) (by kernel_rfl) (fun _ _ _ h => h) (by decide) (by kernel_rfl) (by kernel_rfl) rfl ?_ hS ?_
                rotate_left
                · (intro w' h; have c0 := (show w'.cell? ⟨bx, 1, none⟩ = some (.int .u32 x.1.commit) by rw [h.2.cell]; rfl); go_simp; (try with_reducible rfl))
                (try simp only [Act.put, Z1, Z2, Z3, Z4, Z5, Z6])
                refine anyK_pure 7 _ (.agg #[.int .u16 p, .int .u32 x.1.commit]) rfl (by kernel_rfl) (by kernel_rfl) (by kernel_rfl) (fun _ _ _ h => h) (by decide) rfl (fun w' => run_buildE rfl (by go_simp; exact b43 p x.1.commit)) hS ?_
                (try simp only [Act.put, Z1, Z2, Z3, Z4, Z5, Z6])
                refine anyK_pure 8 _ ?_ rfl (by kernel_rfl) (by kernel_rfl) (by kernel_rfl) (fun _ _ _ h => h) (by decide) rfl ?_ hS ?_
                rotate_left
                · (intro w'; go_simp; (try with_reducible rfl))
                (try simp only [Act.put, Z1, Z2, Z3, Z4, Z5, Z6])
                obtain ⟨w5, hup, hS5, hF5⟩ := hS.1.putB (v := (p, x.1.commit)) hvw.out (i := k) (by omega)
                have hbx5 : bx ≠ rb := fun e => by have := hS.1.fb.1; obtain ⟨es, cl, h8, _⟩ := this; have h9 : V.heap[bx]? = _ := hS.2; rw [e, h8] at h9; cases h9
                have hBx := hS.2.fr hF5 hbx5
                refine anyK_last _ (by kernel_rfl) rfl (by decide) rfl (wp_mapUpdateE rfl rfl rfl rfl hup ?_)
                refine anyK_done (by kernel_rfl) ?_ _
                clear hS hF5 hbx5 hup hvw hp
                generalize G.put B (p, x.1.commit) k = B2 at *
                go_wp2_with fail
                go_roundw
                case rel => exact ⟨m + 1, B2, by go_num, by omega, hS5, hBx, hT2⟩
                case measure => simp [intOf]; omega
            · obtain rfl : m = x.1.writes.length := by omega
              have hT2 : Hid (P.BTo (his R) (k + 1) 0 B) := hT.out.next hxh.out rfl
              clear hT hlm hBx hxh hmem hok hwv
              go_wp2_with fail
              go_roundw
              case rel => exact ⟨k + 1, B, by go_num, by omega, hS, hT2⟩
              case measure => simp [intOf]; omega
        · obtain rfl : k = R.length := by omega
          have hB : Hid (P.BOk (his R) B) := P.BTo.fin (by rw [his_length]; exact hT.out)
          clear hT hlt
          go_upto_region 24 with (fail)
          refine no_implicit_lambda% (wp_region_lit ?_)
          refine no_implicit_lambda% (wpl_val ?_ rfl ?_ ?_)
          rotate_left
          · (go_simp; (try with_reducible rfl))
          (try simp only [Act.put, Z1, Z2, Z4, Z5, Z6])
          have hce := edges_any hS hR hbad.out hB.out
          refine wpl_call _ _ rfl (by go_simp) _ hce ?_
          rintro e w2 ⟨D, A, a, rfl, hS2, hDA⟩
          refine ⟨_, rfl, ?_⟩
          replace hDA := Lib.hid hDA
          clear hce hS
          (try simp only [Act.put, Z1, Z2, Z3, Z4, Z5, Z6])
          refine no_implicit_lambda% (wpl_val ?_ rfl ?_ ?_)
          rotate_left
          · (go_simp; (try with_reducible rfl))
          (try simp only [Act.put, Z1, Z2, Z3, Z4, Z5, Z6])
          refine no_implicit_lambda% (wpList_nil ?_)
          clear hB
          have hBB := hS2
          clear hS2
          have hmm := @run_makeMap Try.prog
          go_upto_region 25 with (fail)
          refine no_implicit_lambda% (wp_region_lit ?_)
          refine wpl_run (.map (some w2.heap.size)) (w2.alloc (.map #[] 0)) rfl (by go_simp) ?_
          (try simp only [Act.put, Z1, Z2, Z3, Z4, Z5, Z6])
          clear hmm
          have hlg := hBB.lt
          have hls := hBB.bl.size
          have al := (Below.refl w2.heap.size w2).alloc (Nat.le_refl _) (.map #[] 0)
          have hC : CK w (w2.alloc (.map #[] 0)) g ao cap R rb rd ra B D A w2.heap.size [] := ⟨hBB.below al, SetAt.made w2, by omega⟩
          clear hlg hls al hBB
          generalize w2.alloc (.map #[] 0) = V at *
          generalize w2.heap.size = rs at *
          clear w2
          refine no_implicit_lambda% (wpl_val ?_ rfl ?_ ?_)
          rotate_left
          · (go_simp; (try with_reducible rfl))
          (try simp only [Act.put, Z1, Z2, Z3, Z4, Z5, Z6])
          refine no_implicit_lambda% (wpList_nil ?_)
          have HC := Lib.hid hC
          clear hC
          go_upto_region 26 with (fail)
          refine no_implicit_lambda% (wp_region_lit ?_)
          refine no_implicit_lambda% (wpl_val ?_ rfl ?_ ?_)
          rotate_left
          · (go_simp; (try with_reducible rfl))
          (try simp only [Act.put, Z1, Z2, Z4, Z5, Z6])
          refine no_implicit_lambda% (wpl_val ?_ rfl ?_ ?_)
          rotate_left
          · (go_simp; (try with_reducible rfl))
          (try simp only [Act.put, Z1, Z2, Z3, Z4, Z5, Z6])
          refine no_implicit_lambda% (wpl_val ?_ rfl ?_ ?_)
          rotate_left
          · (go_simp; (try with_reducible rfl))
          (try simp only [Act.put, Z1, Z2, Z3, Z4, Z5, Z6])
          refine no_implicit_lambda% (wpList_nil ?_)
          go_wp2_with fail
          go_loopw [102] (fun i wr => ∃ (k : Nat) (S : List Ed), i = .int .i64 k ∧ k ≤ R.length ∧ CK w wr g ao cap R rb rd ra B D A rs S ∧ Hid (P.SE (his R) k 0 S)) (fun i _ => R.length - (intOf i).toNat)
          case atStart => exact ⟨0, [], rfl, Nat.zero_le _, HC.out, P.SE.start _⟩
          case round =>
            clear HC V
            obtain ⟨k, S, rfl, hk, hS, hT⟩ := hrel
            by_cases hlt : k < R.length
            · have hlt' : (k : Int) < (R.length : Int) := by omega
              obtain ⟨x, hx⟩ : ∃ x, R[k]? = some x := ⟨_, List.getElem?_eq_getElem hlt⟩
              obtain ⟨b, o, rfl, hbl, hr⟩ := hS.gs.h.row k x hx
              replace hr := Lib.hid hr
              have hone := Lib.hid (hS.gs.h.sub x (List.mem_of_getElem? hx)).one
              have hxh := Lib.hid (his_get hx)
              have hmem := Lib.hid (List.mem_of_getElem? hx)
              clear hx
              go_upto_region 28 with (fail)
              refine no_implicit_lambda% (wp_region_lit ?_)
              iterate 2
                refine no_implicit_lambda% (wpl_val ?_ rfl ?_ ?_)
                rotate_left
                · (go_simp; (try with_reducible rfl))
                (try simp only [Act.put, Z1, Z2, Z3, Z4, Z5, Z6])
              refine wpList_load_mid rfl 36 _ rfl b (o + k * 5) rfl (pcL x) _ hr.out Try.underlying36 rfl (size36' x) ?_
              (try simp only [Act.put, Z1, Z2, Z3, Z4, Z5, Z6])
              refine wpl_alloc 36 (pcA noR) rfl rfl hz36 ?_
              (try simp only [Act.put, Z1, Z2, Z3, Z4, Z5, Z6])
              refine no_implicit_lambda% (wpl_val ?_ rfl ?_ ?_)
              rotate_left
              · (go_simp; (try with_reducible rfl))
              (try simp only [Act.put, Z1, Z2, Z3, Z4, Z5, Z6])
              refine wpList_store_fr rfl 36 _ _ rfl wr.heap.size (pcA x) rfl rfl 36 _ (Blk.alloc_new _ _ _) (size36 x) rfl hone.out ?_
              intro w9 hB9 hF9
              (try simp only [Act.put, Z1, Z2, Z3, Z4, Z5, Z6])
              refine no_implicit_lambda% (wpList_nil ?_)
              replace hS := hS.below (box_below hF9)
              clear hF9 hr hbl hone
              generalize wr.heap.size = bx at *
              go_upto_region 29 with (fail)
              refine no_implicit_lambda% (wp_region_lit ?_)
              refine no_implicit_lambda% (wpl_val ?_ rfl ?_ ?_)
              rotate_left
              · (go_simp; (try with_reducible rfl))
              (try simp only [Act.put, Z1, Z2, Z4, Z5, Z6])
              refine no_implicit_lambda% (wpl_val ?_ rfl ?_ ?_)
              rotate_left
              · (go_simp; (try with_reducible rfl))
              (try simp only [Act.put, Z1, Z2, Z3, Z4, Z5, Z6])
              refine no_implicit_lambda% (wpl_val ?_ rfl ?_ ?_)
              rotate_left
              · (go_simp; (try with_reducible rfl))
              (try simp only [Act.put, Z1, Z2, Z3, Z4, Z5, Z6])
              refine no_implicit_lambda% (wpList_nil ?_)
              have HS := Lib.hid (And.intro hS (And.intro hB9 hT))
              clear hS hB9 hT
              go_wp2_with fail
              go_loopw [109] (fun i wr => ∃ (m : Nat) (S : List Ed), i = .int .i64 m ∧ m ≤ R.length ∧ CK w wr g (some ⟨b, o, none⟩) cap R rb rd ra B D A rs S ∧ Blk wr bx (pcA x) 36 ∧ Hid (P.SE (his R) k m S)) (fun i _ => R.length - (intOf i).toNat)
              case atStart => exact ⟨0, S, rfl, Nat.zero_le _, HS.out⟩
              case round =>
                clear HS
                obtain ⟨m, S, rfl, hm, hS, hBx, hT⟩ := hrel
                by_cases hlm : m < R.length
                · have hlm' : (m : Int) < (R.length : Int) := by omega
                  obtain ⟨y, hy⟩ : ∃ y, R[m]? = some y := ⟨_, List.getElem?_eq_getElem hlm⟩
                  obtain ⟨hbl, hr⟩ := hS.gs.h.row.at' hy
                  replace hr := Lib.hid hr
                  have hone := Lib.hid (hS.gs.h.sub y (List.mem_of_getElem? hy)).one
                  have hyh := Lib.hid (his_get hy)
                  clear hy
                  go_upto_region 31 with (fail)
                  refine no_implicit_lambda% (wp_region_lit ?_)
                  iterate 2
                    refine no_implicit_lambda% (wpl_val ?_ rfl ?_ ?_)
                    rotate_left
                    · (go_simp; (try with_reducible rfl))
                    (try simp only [Act.put, Z1, Z2, Z3, Z4, Z5, Z6])
                  refine wpList_load_mid rfl 36 _ rfl b (o + m * 5) rfl (pcL y) _ hr.out Try.underlying36 rfl (size36' y) ?_
                  (try simp only [Act.put, Z1, Z2, Z3, Z4, Z5, Z6])
                  refine wpl_alloc 36 (pcA noR) rfl rfl hz36 ?_
                  (try simp only [Act.put, Z1, Z2, Z3, Z4, Z5, Z6])
                  refine no_implicit_lambda% (wpl_val ?_ rfl ?_ ?_)
                  rotate_left
                  · (go_simp; (try with_reducible rfl))
                  (try simp only [Act.put, Z1, Z2, Z3, Z4, Z5, Z6])
                  refine wpList_store_fr rfl 36 _ _ rfl wr.heap.size (pcA y) rfl rfl 36 _ (Blk.alloc_new _ _ _) (size36 y) rfl hone.out ?_
                  intro w9 hB9 hF9
                  (try simp only [Act.put, Z1, Z2, Z3, Z4, Z5, Z6])
                  refine no_implicit_lambda% (wpList_nil ?_)
                  replace hS := hS.below (box_below hF9)
                  replace hBx := hBx.below (box_below hF9)
                  clear hF9 hr hbl hone
                  generalize wr.heap.size = by_ at *
                  have hsta : Hid (P.sta (his R) k m ↔ k ≠ m ∧ x.1.done = true ∧ y.1.done = true ∧ x.1.en ≤ y.1.start) := by
                    unfold Hid P.sta
                    rw [hxh.out, hyh.out]
                    constructor
                    · rintro ⟨h1, a, b, h2, h3, h4⟩
                      obtain rfl := Option.some.inj h2
                      obtain rfl := Option.some.inj h3
                      exact ⟨h1, h4⟩
                    · rintro ⟨h1, h2⟩
                      exact ⟨h1, _, _, rfl, rfl, h2⟩
                  clear hyh
                  by_cases hkm : k = m
                  · have hkm' : ((k : Int) != (m : Int)) = false := by simp [hkm]
                    have hT2 : Hid (P.SE (his R) k (m + 1) S) := hT.out.miss fun h => (hsta.out.1 h).1 hkm
                    clear hT hsta hkm
                    go_upto_region 32 with (fail)
                    refine wp_region_held (S := (fun w' => CK w w' g (some ⟨b, o, none⟩) cap R rb rd ra B D A rs S ∧ Blk w' bx (pcA x) 36 ∧ Blk w' by_ (pcA y) 36)) (by kernel_rfl) ?_
                    change wpAnyH _ _ _ _ _ _ _ _ (World.drew _)
                    (try simp only [Act.put])
                    replace hS := And.intro (hS.below (Below.refl _ _).drew) (And.intro hBx.drew hB9.drew)
                    clear hBx hB9
                    generalize w9.drew = V at *
                    refine anyH_pure 0 _ ?_ rfl (by kernel_rfl) (by kernel_rfl) (by kernel_rfl) (fun _ _ _ h => h) rfl ?_ hS ?_
                    rotate_left
                    · (intro w'; go_simp; (try with_reducible rfl))
                    (try simp only [Act.put, Z1, Z2, Z4, Z5, Z6])
                    refine anyH_pure 1 _ ?_ rfl (by kernel_rfl) (by kernel_rfl) (by kernel_rfl) (fun _ _ _ h => h) rfl ?_ hS ?_
                    rotate_left
                    · (intro w'; go_simp; (try with_reducible rfl))
                    (try simp only [Act.put, Z1, Z2, Z3, Z4, Z5, Z6])
                    refine anyH_pure 2 _ ?_ rfl (by kernel_rfl) (by kernel_rfl) (by kernel_rfl) (fun _ _ _ h => h) rfl ?_ hS ?_
                    rotate_left
                    · (intro w'; go_simp; (try with_reducible rfl))
                    (try simp only [Act.put, Z1, Z2, Z3, Z4, Z5, Z6])
                    refine anyH_pure 3 _ ?_ rfl (by kernel_rfl) (by kernel_rfl) (by kernel_rfl) (fun _ _ _ h => h) rfl ?_ hS ?_
                    rotate_left
                    · (intro w'; go_simp; (try with_reducible rfl))
                    (try simp only [Act.put, Z1, Z2, Z3, Z4, Z5, Z6])
                    refine anyH_skip 4 _ rfl (by kernel_rfl) (by kernel_rfl) (by kernel_rfl) (fun _ _ _ h => h) rfl hS ?_
                    (try simp only [Act.put, Z1, Z2, Z3, Z4, Z5, Z6])
                    refine anyH_skip 5 _ rfl (by kernel_rfl) (by kernel_rfl) (by kernel_rfl) (fun _ _ _ h => h) rfl hS ?_
                    (try simp only [Act.put, Z1, Z2, Z3, Z4, Z5, Z6])
                    refine anyH_pure 6 _ ?_ rfl (by kernel_rfl) (by kernel_rfl) (by kernel_rfl) (fun _ _ _ h => h) rfl ?_ hS ?_
                    rotate_left
                    · (intro w'; go_simp; (try with_reducible rfl))
                    (try simp only [Act.put, Z1, Z2, Z3, Z4, Z5, Z6])
                    refine anyH_pure 7 _ ?_ rfl (by kernel_rfl) (by kernel_rfl) (by kernel_rfl) (fun _ _ _ h => h) rfl ?_ hS ?_
                    rotate_left
                    · (intro w'; go_simp; (try with_reducible rfl))
                    (try simp only [Act.put, Z1, Z2, Z3, Z4, Z5, Z6])
                    refine anyH_skip 8 _ rfl (by kernel_rfl) (by kernel_rfl) (by kernel_rfl) (fun _ _ _ h => h) rfl hS ?_
                    (try simp only [Act.put, Z1, Z2, Z3, Z4, Z5, Z6])
                    refine anyH_skip 9 _ rfl (by kernel_rfl) (by kernel_rfl) (by kernel_rfl) (fun _ _ _ h => h) rfl hS ?_
                    (try simp only [Act.put, Z1, Z2, Z3, Z4, Z5, Z6])
                    refine anyH_pure 10 _ ?_ rfl (by kernel_rfl) (by kernel_rfl) (by kernel_rfl) (fun _ _ _ h => h) rfl ?_ hS ?_
                    rotate_left
                    · (intro w'; go_simp; (try with_reducible rfl))
                    (try simp only [Act.put, Z1, Z2, Z3, Z4, Z5, Z6])
                    refine anyH_pure 11 _ ?_ rfl (by kernel_rfl) (by kernel_rfl) (by kernel_rfl) (fun _ _ _ h => h) rfl ?_ hS ?_
                    rotate_left
                    · (intro w'; go_simp; (try with_reducible rfl))
                    (try simp only [Act.put, Z1, Z2, Z3, Z4, Z5, Z6])
                    refine anyH_skip 12 _ rfl (by kernel_rfl) (by kernel_rfl) (by kernel_rfl) (fun _ _ _ h => h) rfl hS ?_
                    (try simp only [Act.put, Z1, Z2, Z3, Z4, Z5, Z6])
                    refine anyH_skip 13 _ rfl (by kernel_rfl) (by kernel_rfl) (by kernel_rfl) (fun _ _ _ h => h) rfl hS ?_
                    (try simp only [Act.put, Z1, Z2, Z3, Z4, Z5, Z6])
                    refine anyH_skip 14 _ rfl (by kernel_rfl) (by kernel_rfl) (by kernel_rfl) (fun _ _ _ h => h) rfl hS ?_
                    (try simp only [Act.put, Z1, Z2, Z3, Z4, Z5, Z6])
                    refine anyH_skip 15 _ rfl (by kernel_rfl) (by kernel_rfl) (by kernel_rfl) (fun _ _ _ h => h) rfl hS ?_
                    (try simp only [Act.put, Z1, Z2, Z3, Z4, Z5, Z6])
                    refine anyH_skip 16 _ rfl (by kernel_rfl) (by kernel_rfl) (by kernel_rfl) (fun _ _ _ h => h) rfl hS ?_
                    (try simp only [Act.put, Z1, Z2, Z3, Z4, Z5, Z6])
                    refine anyH_pure 17 _ ?_ rfl (by kernel_rfl) (by kernel_rfl) (by kernel_rfl) (fun _ _ _ h => h) rfl ?_ hS ?_
                    rotate_left
                    · (intro w'; go_simp; (try with_reducible rfl))
                    (try simp only [Act.put, Z1, Z2, Z3, Z4, Z5, Z6])
                    refine wpAnyH_done (by kernel_rfl) ?_ _
                    clear hkm'
                    go_wp2_with fail
                    go_roundw
                    case rel => exact ⟨m + 1, S, by go_num, by omega, hS.1, hS.2.1, hT2⟩
                    case measure => simp [intOf]; omega
                  · have hkm' : ((k : Int) != (m : Int)) = true := by simp; omega
                    cases hdx : x.1.done with
                    | false =>
                      have hT2 : Hid (P.SE (his R) k (m + 1) S) := hT.out.miss fun h => by have := (hsta.out.1 h).2.1; rw [hdx] at this; cases this
                      replace hdx := Lib.hid hdx
                      clear hT hsta hkm
                      go_upto_region 32 with (fail)
                      refine wp_region_held (S := (fun w' => CK w w' g (some ⟨b, o, none⟩) cap R rb rd ra B D A rs S ∧ Blk w' bx (pcA x) 36 ∧ Blk w' by_ (pcA y) 36)) (by kernel_rfl) ?_
                      change wpAnyH _ _ _ _ _ _ _ _ (World.drew _)
                      (try simp only [Act.put])
                      replace hS := And.intro (hS.below (Below.refl _ _).drew) (And.intro hBx.drew hB9.drew)
                      clear hBx hB9
                      generalize w9.drew = V at *
                      refine anyH_pure 0 _ ?_ rfl (by kernel_rfl) (by kernel_rfl) (by kernel_rfl) (fun _ _ _ h => h) rfl ?_ hS ?_
                      rotate_left
                      · (intro w'; go_simp; (try with_reducible rfl))
                      (try simp only [Act.put, Z1, Z2, Z4, Z5, Z6])
                      refine anyH_pure 1 _ ?_ rfl (by kernel_rfl) (by kernel_rfl) (by kernel_rfl) (fun _ _ _ h => h) rfl ?_ hS ?_
                      rotate_left
                      · (intro w'; go_simp; (try with_reducible rfl))
                      (try simp only [Act.put, Z1, Z2, Z3, Z4, Z5, Z6])
                      refine anyH_pure 2 _ ?_ rfl (by kernel_rfl) (by kernel_rfl) (by kernel_rfl) (fun _ _ _ h => h) rfl ?_ hS ?_
                      rotate_left
                      · (intro w'; go_simp; (try with_reducible rfl))
                      (try simp only [Act.put, Z1, Z2, Z3, Z4, Z5, Z6])
                      refine anyH_pure 3 _ ?_ rfl (by kernel_rfl) (by kernel_rfl) (by kernel_rfl) (fun _ _ _ h => h) rfl ?_ hS ?_
                      rotate_left
                      · (intro w'; go_simp; (try with_reducible rfl))
                      (try simp only [Act.put, Z1, Z2, Z3, Z4, Z5, Z6])
                      refine anyH_pure 4 _ ?_ rfl (by kernel_rfl) (by kernel_rfl) (by kernel_rfl) (fun _ _ _ h => h) rfl ?_ hS ?_
                      rotate_left
                      · (intro w'; go_simp; (try with_reducible rfl))
                      (try simp only [Act.put, Z1, Z2, Z3, Z4, Z5, Z6])
                      refine anyH_if 5 _ ?_ rfl (by kernel_rfl) (by kernel_rfl) (by kernel_rfl) (fun _ _ _ h => h) rfl ?_ hS ?_
                      rotate_left
                      · (intro w' h; have c0 := (show w'.cell? ⟨bx, 2, none⟩ = some (.bool false) by rw [h.2.1.cell, ← hdx.out]; rfl); go_simp; (try with_reducible rfl))
                      (try simp only [Act.put, Z1, Z2, Z3, Z4, Z5, Z6])
                      refine anyH_pure 6 _ ?_ rfl (by kernel_rfl) (by kernel_rfl) (by kernel_rfl) (fun _ _ _ h => h) rfl ?_ hS ?_
                      rotate_left
                      · (intro w'; go_simp; (try with_reducible rfl))
                      (try simp only [Act.put, Z1, Z2, Z3, Z4, Z5, Z6])
                      refine anyH_pure 7 _ ?_ rfl (by kernel_rfl) (by kernel_rfl) (by kernel_rfl) (fun _ _ _ h => h) rfl ?_ hS ?_
                      rotate_left
                      · (intro w'; go_simp; (try with_reducible rfl))
                      (try simp only [Act.put, Z1, Z2, Z3, Z4, Z5, Z6])
                      refine anyH_skip 8 _ rfl (by kernel_rfl) (by kernel_rfl) (by kernel_rfl) (fun _ _ _ h => h) rfl hS ?_
                      (try simp only [Act.put, Z1, Z2, Z3, Z4, Z5, Z6])
                      refine anyH_skip 9 _ rfl (by kernel_rfl) (by kernel_rfl) (by kernel_rfl) (fun _ _ _ h => h) rfl hS ?_
                      (try simp only [Act.put, Z1, Z2, Z3, Z4, Z5, Z6])
                      refine anyH_pure 10 _ ?_ rfl (by kernel_rfl) (by kernel_rfl) (by kernel_rfl) (fun _ _ _ h => h) rfl ?_ hS ?_
                      rotate_left
                      · (intro w'; go_simp; (try with_reducible rfl))
                      (try simp only [Act.put, Z1, Z2, Z3, Z4, Z5, Z6])
                      refine anyH_pure 11 _ ?_ rfl (by kernel_rfl) (by kernel_rfl) (by kernel_rfl) (fun _ _ _ h => h) rfl ?_ hS ?_
                      rotate_left
                      · (intro w'; go_simp; (try with_reducible rfl))
                      (try simp only [Act.put, Z1, Z2, Z3, Z4, Z5, Z6])
                      refine anyH_skip 12 _ rfl (by kernel_rfl) (by kernel_rfl) (by kernel_rfl) (fun _ _ _ h => h) rfl hS ?_
                      (try simp only [Act.put, Z1, Z2, Z3, Z4, Z5, Z6])
                      refine anyH_skip 13 _ rfl (by kernel_rfl) (by kernel_rfl) (by kernel_rfl) (fun _ _ _ h => h) rfl hS ?_
                      (try simp only [Act.put, Z1, Z2, Z3, Z4, Z5, Z6])
                      refine anyH_skip 14 _ rfl (by kernel_rfl) (by kernel_rfl) (by kernel_rfl) (fun _ _ _ h => h) rfl hS ?_
                      (try simp only [Act.put, Z1, Z2, Z3, Z4, Z5, Z6])
                      refine anyH_skip 15 _ rfl (by kernel_rfl) (by kernel_rfl) (by kernel_rfl) (fun _ _ _ h => h) rfl hS ?_
                      (try simp only [Act.put, Z1, Z2, Z3, Z4, Z5, Z6])
                      refine anyH_skip 16 _ rfl (by kernel_rfl) (by kernel_rfl) (by kernel_rfl) (fun _ _ _ h => h) rfl hS ?_
                      (try simp only [Act.put, Z1, Z2, Z3, Z4, Z5, Z6])
                      refine anyH_pure 17 _ ?_ rfl (by kernel_rfl) (by kernel_rfl) (by kernel_rfl) (fun _ _ _ h => h) rfl ?_ hS ?_
                      rotate_left
                      · (intro w'; go_simp; (try with_reducible rfl))
                      (try simp only [Act.put, Z1, Z2, Z3, Z4, Z5, Z6])
                      refine wpAnyH_done (by kernel_rfl) ?_ _
                      clear hkm'
                      go_wp2_with fail
                      go_roundw
                      case rel => exact ⟨m + 1, S, by go_num, by omega, hS.1, hS.2.1, hT2⟩
                      case measure => simp [intOf]; omega
                    | true =>
                      replace hdx := Lib.hid hdx
                      cases hdy : y.1.done with
                      | false =>
                        have hT2 : Hid (P.SE (his R) k (m + 1) S) := hT.out.miss fun h => by have := (hsta.out.1 h).2.2.1; rw [hdy] at this; cases this
                        replace hdy := Lib.hid hdy
                        clear hT hsta hkm
                        go_upto_region 32 with (fail)
                        refine wp_region_held (S := (fun w' => CK w w' g (some ⟨b, o, none⟩) cap R rb rd ra B D A rs S ∧ Blk w' bx (pcA x) 36 ∧ Blk w' by_ (pcA y) 36)) (by kernel_rfl) ?_
                        change wpAnyH _ _ _ _ _ _ _ _ (World.drew _)
                        (try simp only [Act.put])
                        replace hS := And.intro (hS.below (Below.refl _ _).drew) (And.intro hBx.drew hB9.drew)
                        clear hBx hB9
                        generalize w9.drew = V at *
                        refine anyH_pure 0 _ ?_ rfl (by kernel_rfl) (by kernel_rfl) (by kernel_rfl) (fun _ _ _ h => h) rfl ?_ hS ?_
                        rotate_left
                        · (intro w'; go_simp; (try with_reducible rfl))
                        (try simp only [Act.put, Z1, Z2, Z4, Z5, Z6])
                        refine anyH_pure 1 _ ?_ rfl (by kernel_rfl) (by kernel_rfl) (by kernel_rfl) (fun _ _ _ h => h) rfl ?_ hS ?_
                        rotate_left
                        · (intro w'; go_simp; (try with_reducible rfl))
                        (try simp only [Act.put, Z1, Z2, Z3, Z4, Z5, Z6])
                        refine anyH_pure 2 _ ?_ rfl (by kernel_rfl) (by kernel_rfl) (by kernel_rfl) (fun _ _ _ h => h) rfl ?_ hS ?_
                        rotate_left
                        · (intro w'; go_simp; (try with_reducible rfl))
                        (try simp only [Act.put, Z1, Z2, Z3, Z4, Z5, Z6])
                        refine anyH_pure 3 _ ?_ rfl (by kernel_rfl) (by kernel_rfl) (by kernel_rfl) (fun _ _ _ h => h) rfl ?_ hS ?_
                        rotate_left
                        · (intro w'; go_simp; (try with_reducible rfl))
                        (try simp only [Act.put, Z1, Z2, Z3, Z4, Z5, Z6])
                        refine anyH_pure 4 _ ?_ rfl (by kernel_rfl) (by kernel_rfl) (by kernel_rfl) (fun _ _ _ h => h) rfl ?_ hS ?_
                        rotate_left
                        · (intro w'; go_simp; (try with_reducible rfl))
                        (try simp only [Act.put, Z1, Z2, Z3, Z4, Z5, Z6])
                        refine anyH_if 5 _ ?_ rfl (by kernel_rfl) (by kernel_rfl) (by kernel_rfl) (fun _ _ _ h => h) rfl ?_ hS ?_
                        rotate_left
                        · (intro w' h; have c0 := (show w'.cell? ⟨bx, 2, none⟩ = some (.bool true) by rw [h.2.1.cell, ← hdx.out]; rfl); go_simp; (try with_reducible rfl))
                        (try simp only [Act.put, Z1, Z2, Z3, Z4, Z5, Z6])
                        refine anyH_pure 6 _ ?_ rfl (by kernel_rfl) (by kernel_rfl) (by kernel_rfl) (fun _ _ _ h => h) rfl ?_ hS ?_
                        rotate_left
                        · (intro w'; go_simp; (try with_reducible rfl))
                        (try simp only [Act.put, Z1, Z2, Z3, Z4, Z5, Z6])
                        refine anyH_pure 7 _ ?_ rfl (by kernel_rfl) (by kernel_rfl) (by kernel_rfl) (fun _ _ _ h => h) rfl ?_ hS ?_
                        rotate_left
                        · (intro w'; go_simp; (try with_reducible rfl))
                        (try simp only [Act.put, Z1, Z2, Z3, Z4, Z5, Z6])
                        refine anyH_pure 8 _ ?_ rfl (by kernel_rfl) (by kernel_rfl) (by kernel_rfl) (fun _ _ _ h => h) rfl ?_ hS ?_
                        rotate_left
                        · (intro w'; go_simp; (try with_reducible rfl))
                        (try simp only [Act.put, Z1, Z2, Z3, Z4, Z5, Z6])
                        refine anyH_if 9 _ ?_ rfl (by kernel_rfl) (by kernel_rfl) (by kernel_rfl) (fun _ _ _ h => h) rfl ?_ hS ?_
                        rotate_left
                        · (intro w' h; have c0 := (show w'.cell? ⟨by_, 2, none⟩ = some (.bool false) by rw [h.2.2.cell, ← hdy.out]; rfl); go_simp; (try with_reducible rfl))
                        (try simp only [Act.put, Z1, Z2, Z3, Z4, Z5, Z6])
                        refine anyH_pure 10 _ ?_ rfl (by kernel_rfl) (by kernel_rfl) (by kernel_rfl) (fun _ _ _ h => h) rfl ?_ hS ?_
                        rotate_left
                        · (intro w'; go_simp; (try with_reducible rfl))
                        (try simp only [Act.put, Z1, Z2, Z3, Z4, Z5, Z6])
                        refine anyH_pure 11 _ ?_ rfl (by kernel_rfl) (by kernel_rfl) (by kernel_rfl) (fun _ _ _ h => h) rfl ?_ hS ?_
                        rotate_left
                        · (intro w'; go_simp; (try with_reducible rfl))
                        (try simp only [Act.put, Z1, Z2, Z3, Z4, Z5, Z6])
                        refine anyH_skip 12 _ rfl (by kernel_rfl) (by kernel_rfl) (by kernel_rfl) (fun _ _ _ h => h) rfl hS ?_
                        (try simp only [Act.put, Z1, Z2, Z3, Z4, Z5, Z6])
                        refine anyH_skip 13 _ rfl (by kernel_rfl) (by kernel_rfl) (by kernel_rfl) (fun _ _ _ h => h) rfl hS ?_
                        (try simp only [Act.put, Z1, Z2, Z3, Z4, Z5, Z6])
                        refine anyH_skip 14 _ rfl (by kernel_rfl) (by kernel_rfl) (by kernel_rfl) (fun _ _ _ h => h) rfl hS ?_
                        (try simp only [Act.put, Z1, Z2, Z3, Z4, Z5, Z6])
                        refine anyH_skip 15 _ rfl (by kernel_rfl) (by kernel_rfl) (by kernel_rfl) (fun _ _ _ h => h) rfl hS ?_
                        (try simp only [Act.put, Z1, Z2, Z3, Z4, Z5, Z6])
                        refine anyH_skip 16 _ rfl (by kernel_rfl) (by kernel_rfl) (by kernel_rfl) (fun _ _ _ h => h) rfl hS ?_
                        (try simp only [Act.put, Z1, Z2, Z3, Z4, Z5, Z6])
                        refine anyH_pure 17 _ ?_ rfl (by kernel_rfl) (by kernel_rfl) (by kernel_rfl) (fun _ _ _ h => h) rfl ?_ hS ?_
                        rotate_left
                        · (intro w'; go_simp; (try with_reducible rfl))
                        (try simp only [Act.put, Z1, Z2, Z3, Z4, Z5, Z6])
                        refine wpAnyH_done (by kernel_rfl) ?_ _
                        clear hkm'
                        go_wp2_with fail
                        go_roundw
                        case rel => exact ⟨m + 1, S, by go_num, by omega, hS.1, hS.2.1, hT2⟩
                        case measure => simp [intOf]; omega
                      | true =>
                        replace hdy := Lib.hid hdy
                        go_upto_region 32 with (fail)
                        refine wp_region_held (S := (fun w' => CK w w' g (some ⟨b, o, none⟩) cap R rb rd ra B D A rs S ∧ Blk w' bx (pcA x) 36 ∧ Blk w' by_ (pcA y) 36)) (by kernel_rfl) ?_
                        change wpAnyH _ _ _ _ _ _ _ _ (World.drew _)
                        (try simp only [Act.put])
                        replace hS := And.intro (hS.below (Below.refl _ _).drew) (And.intro hBx.drew hB9.drew)
                        clear hBx hB9
                        generalize w9.drew = V at *
                        refine anyH_pure 0 _ ?_ rfl (by kernel_rfl) (by kernel_rfl) (by kernel_rfl) (fun _ _ _ h => h) rfl ?_ hS ?_
                        rotate_left
                        · (intro w'; go_simp; (try with_reducible rfl))
                        (try simp only [Act.put, Z1, Z2, Z4, Z5, Z6])
                        refine anyH_pure 1 _ ?_ rfl (by kernel_rfl) (by kernel_rfl) (by kernel_rfl) (fun _ _ _ h => h) rfl ?_ hS ?_
                        rotate_left
                        · (intro w'; go_simp; (try with_reducible rfl))
                        (try simp only [Act.put, Z1, Z2, Z3, Z4, Z5, Z6])
                        refine anyH_pure 2 _ ?_ rfl (by kernel_rfl) (by kernel_rfl) (by kernel_rfl) (fun _ _ _ h => h) rfl ?_ hS ?_
                        rotate_left
                        · (intro w'; go_simp; (try with_reducible rfl))
                        (try simp only [Act.put, Z1, Z2, Z3, Z4, Z5, Z6])
                        refine anyH_pure 3 _ ?_ rfl (by kernel_rfl) (by kernel_rfl) (by kernel_rfl) (fun _ _ _ h => h) rfl ?_ hS ?_
                        rotate_left
                        · (intro w'; go_simp; (try with_reducible rfl))
                        (try simp only [Act.put, Z1, Z2, Z3, Z4, Z5, Z6])
                        refine anyH_pure 4 _ ?_ rfl (by kernel_rfl) (by kernel_rfl) (by kernel_rfl) (fun _ _ _ h => h) rfl ?_ hS ?_
                        rotate_left
                        · (intro w'; go_simp; (try with_reducible rfl))
                        (try simp only [Act.put, Z1, Z2, Z3, Z4, Z5, Z6])
                        refine anyH_if 5 _ ?_ rfl (by kernel_rfl) (by kernel_rfl) (by kernel_rfl) (fun _ _ _ h => h) rfl ?_ hS ?_
                        rotate_left
                        · (intro w' h; have c0 := (show w'.cell? ⟨bx, 2, none⟩ = some (.bool true) by rw [h.2.1.cell, ← hdx.out]; rfl); go_simp; (try with_reducible rfl))
                        (try simp only [Act.put, Z1, Z2, Z3, Z4, Z5, Z6])
                        refine anyH_pure 6 _ ?_ rfl (by kernel_rfl) (by kernel_rfl) (by kernel_rfl) (fun _ _ _ h => h) rfl ?_ hS ?_
                        rotate_left
                        · (intro w'; go_simp; (try with_reducible rfl))
                        (try simp only [Act.put, Z1, Z2, Z3, Z4, Z5, Z6])
                        refine anyH_pure 7 _ ?_ rfl (by kernel_rfl) (by kernel_rfl) (by kernel_rfl) (fun _ _ _ h => h) rfl ?_ hS ?_
                        rotate_left
                        · (intro w'; go_simp; (try with_reducible rfl))
                        (try simp only [Act.put, Z1, Z2, Z3, Z4, Z5, Z6])
                        refine anyH_pure 8 _ ?_ rfl (by kernel_rfl) (by kernel_rfl) (by kernel_rfl) (fun _ _ _ h => h) rfl ?_ hS ?_
                        rotate_left
                        · (intro w'; go_simp; (try with_reducible rfl))
                        (try simp only [Act.put, Z1, Z2, Z3, Z4, Z5, Z6])
                        refine anyH_if 9 _ ?_ rfl (by kernel_rfl) (by kernel_rfl) (by kernel_rfl) (fun _ _ _ h => h) rfl ?_ hS ?_
                        rotate_left
                        · (intro w' h; have c0 := (show w'.cell? ⟨by_, 2, none⟩ = some (.bool true) by rw [h.2.2.cell, ← hdy.out]; rfl); go_simp; (try with_reducible rfl))
                        (try simp only [Act.put, Z1, Z2, Z3, Z4, Z5, Z6])
                        refine anyH_pure 10 _ ?_ rfl (by kernel_rfl) (by kernel_rfl) (by kernel_rfl) (fun _ _ _ h => h) rfl ?_ hS ?_
                        rotate_left
                        · (intro w'; go_simp; (try with_reducible rfl))
                        (try simp only [Act.put, Z1, Z2, Z3, Z4, Z5, Z6])
                        refine anyH_pure 11 _ ?_ rfl (by kernel_rfl) (by kernel_rfl) (by kernel_rfl) (fun _ _ _ h => h) rfl ?_ hS ?_
                        rotate_left
                        · (intro w'; go_simp; (try with_reducible rfl))
                        (try simp only [Act.put, Z1, Z2, Z3, Z4, Z5, Z6])
                        refine anyH_if 12 _ (.agg (pcA x)) rfl (by kernel_rfl) (by kernel_rfl) (by kernel_rfl) (fun _ _ _ h => h) rfl (fun w' h => run_load_cs rfl rfl h.2.1 Try.underlying36 rfl (size36 x)) hS ?_
                        (try simp only [Act.put, Z1, Z2, Z3, Z4, Z5, Z6])
                        refine anyH_pure 14 _ ?_ rfl (by kernel_rfl) (by kernel_rfl) (by kernel_rfl) (fun _ _ _ h => h) rfl ?_ hS ?_
                        rotate_left
                        · (intro w'; go_simp; (try with_reducible rfl))
                        (try simp only [Act.put, Z1, Z2, Z3, Z4, Z5, Z6])
                        refine anyH_if 15 _ ?_ rfl (by kernel_rfl) (by kernel_rfl) (by kernel_rfl) (fun _ _ _ h => h) rfl ?_ hS ?_
                        rotate_left
                        · (intro w' h; have c0 := (show w'.cell? ⟨by_, 0, none⟩ = some (.int .u32 y.1.start) by rw [h.2.2.cell]; rfl); go_simp; (try with_reducible rfl))
                        (try simp only [Act.put, Z1, Z2, Z3, Z4, Z5, Z6])
                        have hce := end_any x V (hS.1.gs.h.sub x hmem.out)
                        refine anyH_callR 13 _ _ _ _ (by kernel_rfl) rfl rfl (by go_simp) (_) (hce) ?_
                        intro w7 hb7
                        replace hS := And.intro (hS.1.below hb7) (And.intro (hS.2.1.below hb7) (hS.2.2.below hb7))
                        refine ⟨hS, ?_⟩
                        clear hce hb7
                        (try simp only [Act.put, Z1, Z2, Z3, Z4, Z5, Z6])
                        by_cases hle : x.1.en ≤ y.1.start
                        · have hle' : decide (x.1.en ≤ y.1.start) = true := by simp [hle]
                          have hT2 : Hid (P.SE (his R) k (m + 1) (P.ins S (k, m))) := hT.out.hit (hsta.out.2 ⟨hkm, hdx.out, hdy.out, hle⟩)
                          clear hT hsta hkm hle
                          refine anyH_pure 16 _ ?_ rfl (by kernel_rfl) (by kernel_rfl) (by kernel_rfl) (fun _ _ _ h => h) rfl ?_ hS ?_
                          rotate_left
                          · (intro w'; go_simp; (try with_reducible rfl))
                          (try simp only [Act.put, Z1, Z2, Z3, Z4, Z5, Z6])
                          refine anyH_pure 17 _ ?_ rfl (by kernel_rfl) (by kernel_rfl) (by kernel_rfl) (fun _ _ _ h => h) rfl ?_ hS ?_
                          rotate_left
                          · (intro w'; go_simp; (try with_reducible rfl))
                          (try simp only [Act.put, Z1, Z2, Z3, Z4, Z5, Z6])
                          refine wpAnyH_done (by kernel_rfl) ?_ _
                          clear hkm' hle'
                          obtain ⟨hS, hBx, _⟩ := hS
                          obtain ⟨w6, hup, hS6, hF6⟩ := hS.put (i := k) (k := m) (by omega) (by omega)
                          have hBx6 := hBx.fr hF6 (not_map hS.st hBx)
                          clear hS hBx hF6
                          generalize P.ins S (k, m) = S2 at *
                          go_upto_region 33 with (fail)
                          refine no_implicit_lambda% (wp_region_lit ?_)
                          iterate 3
                            refine no_implicit_lambda% (wpl_val ?_ rfl ?_ ?_)
                            rotate_left
                            · (go_simp; (try with_reducible rfl))
                            (try simp only [Act.put, Z1, Z2, Z3, Z4, Z5, Z6])
                          refine wpl_val (.agg #[.int .i64 k, .int .i64 m]) rfl (run_buildE rfl (by go_simp; exact b72 k m)) ?_
                          (try simp only [Act.put, Z1, Z2, Z3, Z4, Z5, Z6])
                          refine wpl_law rfl (wp_mapUpdateE rfl rfl rfl rfl hup ?_)
                          (try simp only [Act.put, Z1, Z2, Z3, Z4, Z5, Z6])
                          refine no_implicit_lambda% (wpList_nil ?_)
                          clear hup
                          go_wp2_with fail
                          go_roundw
                          case rel => exact ⟨m + 1, S2, by go_num, by omega, hS6, hBx6, hT2⟩
                          case measure => simp [intOf]; omega
                        · have hle' : decide (x.1.en ≤ y.1.start) = false := by simp; omega
                          have hT2 : Hid (P.SE (his R) k (m + 1) S) := hT.out.miss fun h => hle (hsta.out.1 h).2.2.2
                          clear hT hsta hkm hle
                          refine anyH_pure 16 _ ?_ rfl (by kernel_rfl) (by kernel_rfl) (by kernel_rfl) (fun _ _ _ h => h) rfl ?_ hS ?_
                          rotate_left
                          · (intro w'; go_simp; (try with_reducible rfl))
                          (try simp only [Act.put, Z1, Z2, Z3, Z4, Z5, Z6])
                          refine anyH_pure 17 _ ?_ rfl (by kernel_rfl) (by kernel_rfl) (by kernel_rfl) (fun _ _ _ h => h) rfl ?_ hS ?_
                          rotate_left
                          · (intro w'; go_simp; (try with_reducible rfl))
                          (try simp only [Act.put, Z1, Z2, Z3, Z4, Z5, Z6])
                          refine wpAnyH_done (by kernel_rfl) ?_ _
                          clear hkm' hle'
                          go_wp2_with fail
                          go_roundw
                          case rel => exact ⟨m + 1, S, by go_num, by omega, hS.1, hS.2.1, hT2⟩
                          case measure => simp [intOf]; omega
                · obtain rfl : m = R.length := by omega
                  have hT2 : Hid (P.SE (his R) (k + 1) 0 S) := P.SE.row (by rw [his_length]; exact hT.out)
                  clear hT hlm hBx hxh hmem
                  go_wp2_with fail
                  go_roundw
                  case rel => exact ⟨k + 1, S, by go_num, by omega, hS, hT2⟩
                  case measure => simp [intOf]; omega
            · obtain rfl : k = R.length := by omega
              have hSS : Hid (∀ e : Ed, e ∈ S ↔ P.sta (his R) e.1 e.2) := fun e => P.SE.fin (by rw [his_length]; exact hT.out) e
              clear hT hlt hk
              have hDl : Hid (∀ e ∈ D, e.1 < R.length ∧ e.2 < R.length) := fun e he => by have := P.dep_lt ((hDA.out.1 e).1 he); rwa [his_length] at this
              have hcl := closed_any (n := R.length) (cap := cap) (ao := ao) hS.gs.c0 hS.gs.lt.1 hS.gs.fd hDl.out hR
              have c2 := hS.gs.c2
              go_upto_region 36 with (fail)
              refine no_implicit_lambda% (wp_region_lit ?_)
              iterate 4
                refine no_implicit_lambda% (wpl_val ?_ rfl ?_ ?_)
                rotate_left
                · (go_simp; (try with_reducible rfl))
                (try simp only [Act.put, Z1, Z2, Z3, Z4, Z5, Z6])
              refine no_implicit_lambda% (wpl_val ?_ rfl ?_ ?_)
              rotate_left
              · (have c0 := c2; go_simp; (try with_reducible rfl))
              (try simp only [Act.put, Z1, Z2, Z3, Z4, Z5, Z6])
              refine wpl_call _ _ rfl (by go_simp) _ hcl ?_
              rintro e w3 ⟨r1, C1, rfl, hC1, hC1p, hb3, hr1⟩
              refine ⟨_, rfl, ?_⟩
              have hS3 := hS.below hb3
              replace hC1p := Lib.hid hC1p
              clear hcl c2 hS hb3
              (try simp only [Act.put, Z1, Z2, Z3, Z4, Z5, Z6])
              refine no_implicit_lambda% (wpl_val ?_ rfl ?_ ?_)
              rotate_left
              · (go_simp; (try with_reducible rfl))
              (try simp only [Act.put, Z1, Z2, Z3, Z4, Z5, Z6])
              refine no_implicit_lambda% (wpList_nil ?_)
              go_upto_region 37 with (fail)
              refine no_implicit_lambda% (wp_region_lit ?_)
              refine no_implicit_lambda% (wpl_val ?_ rfl ?_ ?_)
              rotate_left
              · (go_simp; (try with_reducible rfl))
              (try simp only [Act.put, Z1, Z2, Z4, Z5, Z6])
              refine no_implicit_lambda% (wpl_val ?_ rfl ?_ ?_)
              rotate_left
              · (go_simp; (try with_reducible rfl))
              (try simp only [Act.put, Z1, Z2, Z3, Z4, Z5, Z6])
              refine no_implicit_lambda% (wpl_val ?_ rfl ?_ ?_)
              rotate_left
              · (go_simp; (try with_reducible rfl))
              (try simp only [Act.put, Z1, Z2, Z3, Z4, Z5, Z6])
              refine no_implicit_lambda% (wpList_nil ?_)
              have HS := Lib.hid (And.intro hS3 hC1)
              clear hS3 hC1
              go_wp2_with fail
              go_loopw [146, 13] (fun i o wr => ∃ (k : Nat) (c : Bool), i = .int .i64 k ∧ o = .int .u8 (P.ob a c false false) ∧ k ≤ R.length ∧ CK w wr g ao cap R rb rd ra B D A rs S ∧ SetAt wr r1 C1 ∧ Hid (c = true ↔ ∃ i, i < k ∧ (i, i) ∈ C1)) (fun i _ _ => R.length - (intOf i).toNat)
              case atStart => exact ⟨0, false, rfl, rfl, Nat.zero_le _, HS.out.1, HS.out.2, ⟨fun h => (by cases h), fun ⟨i, h, _⟩ => by omega⟩⟩
              case round =>
                clear HS
                obtain ⟨k, c, rfl, rfl, hk, hS, hC, hT⟩ := hrel
                by_cases hlt : k < R.length
                · have hlt' : (k : Int) < (R.length : Int) := by omega
                  have l1 := hC.look (i := k) (k := k) (by omega) (by omega)
                  go_upto_region 39 with (fail)
                  refine no_implicit_lambda% (wp_region_lit ?_)
                  iterate 2
                    refine no_implicit_lambda% (wpl_val ?_ rfl ?_ ?_)
                    rotate_left
                    · (go_simp; (try with_reducible rfl))
                    (try simp only [Act.put, Z1, Z2, Z3, Z4, Z5, Z6])
                  refine no_implicit_lambda% (wpList_nil ?_)
                  go_upto_region 40 with (fail)
                  refine no_implicit_lambda% (wp_region_lit ?_)
                  iterate 3
                    refine no_implicit_lambda% (wpl_val ?_ rfl ?_ ?_)
                    rotate_left
                    · (go_simp; (try with_reducible rfl))
                    (try simp only [Act.put, Z1, Z2, Z3, Z4, Z5, Z6])
                  refine wpl_val (.agg #[.int .i64 k, .int .i64 k]) rfl (run_buildE rfl (by go_simp; exact b72 k k)) ?_
                  (try simp only [Act.put, Z1, Z2, Z3, Z4, Z5, Z6])
                  by_cases hm : (k, k) ∈ C1
                  · rw [decide_eq_true hm] at l1
                    have hT2 : Hid (true = true ↔ ∃ i, i < k + 1 ∧ (i, i) ∈ C1) := ⟨fun _ => ⟨k, by omega, hm⟩, fun _ => rfl⟩
                    clear hT hm
                    refine no_implicit_lambda% (wpl_val ?_ rfl ?_ ?_)
                    rotate_left
                    · (have c0 := l1; go_simp; (try with_reducible rfl))
                    (try simp only [Act.put, Z1, Z2, Z3, Z4, Z5, Z6])
                    refine no_implicit_lambda% (wpList_nil ?_)
                    clear l1
                    go_upto_region 41 with (fail)
                    refine no_implicit_lambda% (wp_region_lit ?_)
                    refine no_implicit_lambda% (wpl_val ?_ rfl ?_ ?_)
                    rotate_left
                    · (go_simp; (try with_reducible rfl))
                    (try simp only [Act.put, Z1, Z2, Z4, Z5, Z6])
                    refine wpl_val (.int .u8 (P.ob a true false false)) rfl (run_or rfl rfl (or2 _ _ _ _)) ?_
                    (try simp only [Act.put, Z1, Z2, Z3, Z4, Z5, Z6])
                    refine no_implicit_lambda% (wpl_val ?_ rfl ?_ ?_)
                    rotate_left
                    · (go_simp; (try with_reducible rfl))
                    (try simp only [Act.put, Z1, Z2, Z3, Z4, Z5, Z6])
                    refine no_implicit_lambda% (wpList_nil ?_)
                    go_wp2_with fail
                    go_roundw
                    case rel => exact ⟨k + 1, true, by go_num, rfl, by omega, hS, hC, hT2⟩
                    case measure => simp [intOf]; omega
                  · rw [decide_eq_false hm] at l1
                    have hT2 : Hid (c = true ↔ ∃ i, i < k + 1 ∧ (i, i) ∈ C1) := hT.out.trans ⟨fun ⟨i, h1, h2⟩ => ⟨i, by omega, h2⟩, fun ⟨i, h1, h2⟩ => ⟨i, by
                      have : i ≠ k := fun e => hm (e ▸ h2)
                      omega, h2⟩⟩
                    clear hT hm
                    refine no_implicit_lambda% (wpl_val ?_ rfl ?_ ?_)
                    rotate_left
                    · (have c0 := l1; go_simp; (try with_reducible rfl))
                    (try simp only [Act.put, Z1, Z2, Z3, Z4, Z5, Z6])
                    refine no_implicit_lambda% (wpList_nil ?_)
                    clear l1
                    go_wp2_with fail
                    go_roundw
                    case rel => exact ⟨k + 1, c, by go_num, rfl, by omega, hS, hC, hT2⟩
                    case measure => simp [intOf]; omega
                · obtain rfl : k = R.length := by omega
                  clear hlt hk hC
                  have hT5 := hT
                  clear hT
                  have hlS := hS.lt
                  have hrd0 := hS.gs.lo
                  obtain ⟨W, hrun, hIt, hb1, hsz⟩ := hS.gs.fd.range
                  have c2 := hS.gs.c2
                  go_upto_region 43 with (fail)
                  refine no_implicit_lambda% (wp_region_lit ?_)
                  iterate 3
                    refine no_implicit_lambda% (wpl_val ?_ rfl ?_ ?_)
                    rotate_left
                    · (go_simp; (try with_reducible rfl))
                    (try simp only [Act.put, Z1, Z2, Z3, Z4, Z5, Z6])
                  refine no_implicit_lambda% (wpl_val ?_ rfl ?_ ?_)
                  rotate_left
                  · (have c0 := c2; go_simp; (try with_reducible rfl))
                  (try simp only [Act.put, Z1, Z2, Z3, Z4, Z5, Z6])
                  refine wpl_run (.pointer (some ⟨wr.heap.size, 0, none⟩)) W rfl (by go_simp) ?_
                  (try simp only [Act.put, Z1, Z2, Z3, Z4, Z5, Z6])
                  refine no_implicit_lambda% (wpList_nil ?_)
                  have hin : Hid (wr.heap.size ≠ g ∧ wr.heap.size ≠ rb ∧ wr.heap.size ≠ rd ∧ wr.heap.size ≠ ra ∧ wr.heap.size ≠ rs ∧ w.heap.size ≤ wr.heap.size) := by unfold Hid; omega
                  have hnd := Lib.hid hS.gs.fd.nodup
                  have HS := Lib.hid (And.intro (hS.below hb1) hIt)
                  clear hrun hb1 hIt hS c2 hlS hsz
                  generalize wr.heap.size = it at *
                  go_wp2_with fail
                  go_loopg [13] D.length (fun n o wr => ∃ (T : List Ed) (c4 : Bool), T.length = n ∧ o = .int .u8 (P.ob a c c4 false) ∧ CK w wr g ao cap R rb rd ra B D A rs S ∧ EdIt wr it rd D T ∧ Hid (T.Nodup ∧ P.An D T (fun e => ¬ e ∈ S) c4))
                  case atStart => exact ⟨D, false, rfl, rfl, HS.out.1, HS.out.2, hnd.out, P.An.start _ _⟩
                  case round =>
                    clear HS
                    obtain ⟨T, c4, rfl, rfl, hS, hIt, hT⟩ := hrel
                    rcases hIt.next hin.out.2.2.1 with ⟨h0, hrun⟩ | ⟨j, q, w', hj, hqB, hrun, hIt2, hF, hent⟩
                    · subst h0
                      go_upto_region 44 with (fail)
                      refine no_implicit_lambda% (wp_region_lit ?_)
                      refine wpl_run (.tuple #[.bool false]) wr rfl (by go_simp) ?_
                      (try simp only [Act.put, Z1, Z2, Z3, Z4, Z5, Z6])
                      refine no_implicit_lambda% (wpl_val ?_ rfl ?_ ?_)
                      rotate_left
                      · (go_simp; (try with_reducible rfl))
                      (try simp only [Act.put, Z1, Z2, Z3, Z4, Z5, Z6])
                      refine no_implicit_lambda% (wpList_nil ?_)
                      have hT6 := Lib.hid hT.out.2.fin
                      clear hrun hT hIt hin
                      have hlS := hS.lt
                      have hrd0 := hS.gs.lo
                      obtain ⟨W, hrun, hIt, hb1, hsz⟩ := hS.gs.fd.range
                      have c2 := hS.gs.c2
                      go_upto_region 48 with (fail)
                      refine no_implicit_lambda% (wp_region_lit ?_)
                      iterate 3
                        refine no_implicit_lambda% (wpl_val ?_ rfl ?_ ?_)
                        rotate_left
                        · (go_simp; (try with_reducible rfl))
                        (try simp only [Act.put, Z1, Z2, Z3, Z4, Z5, Z6])
                      refine no_implicit_lambda% (wpl_val ?_ rfl ?_ ?_)
                      rotate_left
                      · (have c0 := c2; go_simp; (try with_reducible rfl))
                      (try simp only [Act.put, Z1, Z2, Z3, Z4, Z5, Z6])
                      refine wpl_run (.pointer (some ⟨wr.heap.size, 0, none⟩)) W rfl (by go_simp) ?_
                      (try simp only [Act.put, Z1, Z2, Z3, Z4, Z5, Z6])
                      refine no_implicit_lambda% (wpList_nil ?_)
                      have hin : Hid (wr.heap.size ≠ g ∧ wr.heap.size ≠ rb ∧ wr.heap.size ≠ rd ∧ wr.heap.size ≠ ra ∧ wr.heap.size ≠ rs ∧ w.heap.size ≤ wr.heap.size) := by unfold Hid; omega
                      have HS := Lib.hid (And.intro (hS.below hb1) hIt)
                      clear hrun hb1 hIt hS c2 hlS hsz
                      generalize wr.heap.size = it2 at *
                      go_wp2_with fail
                      go_loopg [] D.length (fun n wr => ∃ (T S2 : List Ed), T.length = n ∧ CK w wr g ao cap R rb rd ra B D A rs S2 ∧ EdIt wr it2 rd D T ∧ Hid (T.Nodup ∧ ∀ e : Ed, e ∈ S2 ↔ e ∈ S ∨ (e ∈ D ∧ e ∉ T)))
                      case atStart => exact ⟨D, S, rfl, HS.out.1, HS.out.2, hnd.out, fun e => ⟨.inl, fun h => h.elim id fun h => absurd h.1 h.2⟩⟩
                      case round =>
                        clear HS
                        obtain ⟨T, S2, rfl, hS, hIt, hT⟩ := hrel
                        rcases hIt.next hin.out.2.2.1 with ⟨h0, hrun⟩ | ⟨j, q, w', hj, hqB, hrun, hIt2, hF, hent⟩
                        · subst h0
                          go_upto_region 49 with (fail)
                          refine no_implicit_lambda% (wp_region_lit ?_)
                          refine wpl_run (.tuple #[.bool false]) wr rfl (by go_simp) ?_
                          (try simp only [Act.put, Z1, Z2, Z3, Z4, Z5, Z6])
                          refine no_implicit_lambda% (wpl_val ?_ rfl ?_ ?_)
                          rotate_left
                          · (go_simp; (try with_reducible rfl))
                          (try simp only [Act.put, Z1, Z2, Z3, Z4, Z5, Z6])
                          refine no_implicit_lambda% (wpList_nil ?_)
                          have hS2 : Hid (∀ e : Ed, e ∈ S2 ↔ e ∈ S ∨ e ∈ D) := fun e => (hT.out.2 e).trans (or_congr Iff.rfl ⟨fun h => h.1, fun h => ⟨h, by simp⟩⟩)
                          clear hrun hT hIt hin
                          have hSl : Hid (∀ e ∈ S2, e.1 < R.length ∧ e.2 < R.length) := fun e he => by
                            rcases (hS2.out e).1 he with h | h
                            · have := P.sta_lt ((hSS.out e).1 h); rwa [his_length] at this
                            · exact hDl.out e h
                          have hcl := closed_any (n := R.length) (cap := cap) (ao := ao) hS.gs.c0 hS.gs.lt.1 hS.st hSl.out hR
                          go_upto_region 52 with (fail)
                          refine no_implicit_lambda% (wp_region_lit ?_)
                          iterate 2
                            refine no_implicit_lambda% (wpl_val ?_ rfl ?_ ?_)
                            rotate_left
                            · (go_simp; (try with_reducible rfl))
                            (try simp only [Act.put, Z1, Z2, Z3, Z4, Z5, Z6])
                          refine wpl_call _ _ rfl (by go_simp) _ hcl ?_
                          rintro e w3 ⟨r2, C2, rfl, hC2, hC2p, hb3, hr2⟩
                          refine ⟨_, rfl, ?_⟩
                          have hS3 := hS.below hb3
                          replace hC2p := Lib.hid hC2p
                          clear hcl hS hb3
                          (try simp only [Act.put, Z1, Z2, Z3, Z4, Z5, Z6])
                          refine no_implicit_lambda% (wpl_val ?_ rfl ?_ ?_)
                          rotate_left
                          · (go_simp; (try with_reducible rfl))
                          (try simp only [Act.put, Z1, Z2, Z3, Z4, Z5, Z6])
                          refine no_implicit_lambda% (wpList_nil ?_)
                          have hlS := hS3.lt
                          have hrd0 := hS3.gs.lo
                          have hrl2 := hC2.lt
                          obtain ⟨W2, hrun, hIt, hb1, hsz⟩ := hS3.gs.fa.range
                          have c3 := hS3.gs.c3
                          go_upto_region 53 with (fail)
                          refine no_implicit_lambda% (wp_region_lit ?_)
                          iterate 3
                            refine no_implicit_lambda% (wpl_val ?_ rfl ?_ ?_)
                            rotate_left
                            · (go_simp; (try with_reducible rfl))
                            (try simp only [Act.put, Z1, Z2, Z3, Z4, Z5, Z6])
                          refine no_implicit_lambda% (wpl_val ?_ rfl ?_ ?_)
                          rotate_left
                          · (have c0 := c3; go_simp; (try with_reducible rfl))
                          (try simp only [Act.put, Z1, Z2, Z3, Z4, Z5, Z6])
                          refine wpl_run (.pointer (some ⟨w3.heap.size, 0, none⟩)) W2 rfl (by go_simp) ?_
                          (try simp only [Act.put, Z1, Z2, Z3, Z4, Z5, Z6])
                          refine no_implicit_lambda% (wpList_nil ?_)
                          have hin : Hid (w3.heap.size ≠ g ∧ w3.heap.size ≠ rb ∧ w3.heap.size ≠ rd ∧ w3.heap.size ≠ ra ∧ w3.heap.size ≠ rs ∧ w.heap.size ≤ w3.heap.size ∧ w3.heap.size ≠ r2) := by unfold Hid; omega
                          have hnda := Lib.hid hS3.gs.fa.nodup
                          have hAl : Hid (∀ e ∈ A, e.1 < R.length ∧ e.2 < R.length) := fun e he => by have := P.ant_lt ((hDA.out.2.1 e).1 he); rwa [his_length] at this
                          have HS := Lib.hid (And.intro (hS3.below hb1) (And.intro hIt (hC2.below hb1)))
                          clear hrun hb1 hIt hS3 hC2 c3 hlS hsz hrl2
                          generalize w3.heap.size = it3 at *
                          go_wp2_with fail
                          go_loopg [13] A.length (fun n o wr => ∃ (T : List Ed) (c8 : Bool), T.length = n ∧ o = .int .u8 (P.ob a c c4 c8) ∧ CK w wr g ao cap R rb rd ra B D A rs S2 ∧ EdIt wr it3 ra A T ∧ SetAt wr r2 C2 ∧ Hid (T.Nodup ∧ P.An A T (fun e => (e.2, e.1) ∈ C2) c8))
                          case atStart => exact ⟨A, false, rfl, rfl, HS.out.1, HS.out.2.1, HS.out.2.2, hnda.out, P.An.start _ _⟩
                          case round =>
                            clear HS
                            obtain ⟨T, c8, rfl, rfl, hS, hIt, hC2, hT⟩ := hrel
                            rcases hIt.next hin.out.2.2.2.1 with ⟨h0, hrun⟩ | ⟨j, q, w', hj, hqB, hrun, hIt2, hF, hent⟩
                            · subst h0
                              go_upto_region 54 with (fail)
                              refine no_implicit_lambda% (wp_region_lit ?_)
                              refine wpl_run (.tuple #[.bool false]) wr rfl (by go_simp) ?_
                              (try simp only [Act.put, Z1, Z2, Z3, Z4, Z5, Z6])
                              refine no_implicit_lambda% (wpl_val ?_ rfl ?_ ?_)
                              rotate_left
                              · (go_simp; (try with_reducible rfl))
                              (try simp only [Act.put, Z1, Z2, Z3, Z4, Z5, Z6])
                              refine no_implicit_lambda% (wpList_nil ?_)
                              have HP : Hid (P.chk (his R) = (P.ob a c c4 c8, 0)) := P.chk_fin hbad.out hDA.out.1 hDA.out.2.1 hDA.out.2.2 hSS.out hC1p.out (by rw [his_length]; exact hT5.out) hT6.out hS2.out hC2p.out hT.out.2.fin
                              have hB9 := hS.gs.bl
                              clear hrun hT hIt hin hS hC2
                              go_wp2_with fail
                              go_ret2
                              rw [HP.out]
                              exact ⟨rfl, hB9⟩
                            · replace hj := Lib.hid hj
                              replace hqB := Lib.hid hqB
                              go_upto_region 54 with (fail)
                              refine no_implicit_lambda% (wp_region_lit ?_)
                              refine wpl_run (.tuple #[.bool true, .agg #[.int .i64 q.1, .int .i64 q.2], .bool true]) w' rfl (by go_simp) ?_
                              (try simp only [Act.put, Z1, Z2, Z3, Z4, Z5, Z6])
                              refine no_implicit_lambda% (wpl_val ?_ rfl ?_ ?_)
                              rotate_left
                              · (go_simp; (try with_reducible rfl))
                              (try simp only [Act.put, Z1, Z2, Z3, Z4, Z5, Z6])
                              refine no_implicit_lambda% (wpList_nil ?_)
                              clear hrun
                              go_upto_region 55 with (fail)
                              refine no_implicit_lambda% (wp_region_lit ?_)
                              iterate 2
                                refine no_implicit_lambda% (wpl_val ?_ rfl ?_ ?_)
                                rotate_left
                                · (go_simp; (try with_reducible rfl))
                                (try simp only [Act.put, Z1, Z2, Z3, Z4, Z5, Z6])
                              refine wpl_alloc 72 #[.int .i64 0, .int .i64 0] rfl rfl hz72 ?_
                              (try simp only [Act.put, Z1, Z2, Z3, Z4, Z5, Z6])
                              refine wpList_store_fr rfl 72 _ _ rfl w'.heap.size #[.int .i64 q.1, .int .i64 q.2] rfl rfl 72 _ (Blk.alloc_new _ _ _) zero72.2 rfl (by simp [Value.oneCell']) ?_
                              intro w9 hB9 hF9
                              (try simp only [Act.put, Z1, Z2, Z3, Z4, Z5, Z6])
                              refine no_implicit_lambda% (wpList_nil ?_)
                              clear hent
                              have hin' := hin.out
                              have hS9 := (hS.fr hF (fun i hi => by omega)).below (box_below hF9)
                              have hC9 := (hC2.fr hF (by omega)).below (box_below hF9)
                              have hIt9 := hIt2.below (box_below hF9)
                              have hlen := Lib.hid (erase_len hj.out)
                              have hql := hAl.out q hqB.out
                              have l1 := hC9.look (i := q.2) (k := q.1) (by omega) (by omega)
                              have hnd2 : Hid (T.eraseIdx j).Nodup := (List.eraseIdx_sublist _ _).nodup hT.out.1
                              generalize w'.heap.size = bx at *
                              clear hS hIt hIt2 hF hF9 hin' hql hC2
                              have k1 : w9.cell? ⟨bx, 1, none⟩ = some (.int .i64 q.2) := by rw [hB9.cell]; rfl
                              have k0 : w9.cell? ⟨bx, 0, none⟩ = some (.int .i64 q.1) := by rw [hB9.cell]; rfl
                              by_cases hm : (q.2, q.1) ∈ C2
                              · rw [decide_eq_true hm] at l1
                                have hT2 : Hid (P.An A (T.eraseIdx j) (fun e => (e.2, e.1) ∈ C2) true) := P.An.hit hT.out.1 hj.out hqB.out hm
                                clear hT hm hj hqB
                                go_upto_region 56 with (fail)
                                refine no_implicit_lambda% (wp_region_lit ?_)
                                iterate 2
                                  refine no_implicit_lambda% (wpl_val ?_ rfl ?_ ?_)
                                  rotate_left
                                  · (go_simp; (try with_reducible rfl))
                                  (try simp only [Act.put, Z1, Z2, Z3, Z4, Z5, Z6])
                                refine no_implicit_lambda% (wpl_val ?_ rfl ?_ ?_)
                                rotate_left
                                · (have c0 := k1; go_simp; (try with_reducible rfl))
                                (try simp only [Act.put, Z1, Z2, Z3, Z4, Z5, Z6])
                                refine no_implicit_lambda% (wpl_val ?_ rfl ?_ ?_)
                                rotate_left
                                · (go_simp; (try with_reducible rfl))
                                (try simp only [Act.put, Z1, Z2, Z3, Z4, Z5, Z6])
                                refine no_implicit_lambda% (wpl_val ?_ rfl ?_ ?_)
                                rotate_left
                                · (have c0 := k0; go_simp; (try with_reducible rfl))
                                (try simp only [Act.put, Z1, Z2, Z3, Z4, Z5, Z6])
                                refine wpl_val (.agg #[.int .i64 q.2, .int .i64 q.1]) rfl (run_buildE rfl (by go_simp; exact b72 q.2 q.1)) ?_
                                (try simp only [Act.put, Z1, Z2, Z3, Z4, Z5, Z6])
                                refine no_implicit_lambda% (wpl_val ?_ rfl ?_ ?_)
                                rotate_left
                                · (have c0 := l1; go_simp; (try with_reducible rfl))
                                (try simp only [Act.put, Z1, Z2, Z3, Z4, Z5, Z6])
                                refine no_implicit_lambda% (wpList_nil ?_)
                                clear l1 hB9 k0 k1
                                go_upto_region 57 with (fail)
                                refine no_implicit_lambda% (wp_region_lit ?_)
                                refine no_implicit_lambda% (wpl_val ?_ rfl ?_ ?_)
                                rotate_left
                                · (go_simp; (try with_reducible rfl))
                                (try simp only [Act.put, Z1, Z2, Z4, Z5, Z6])
                                refine wpl_val (.int .u8 (P.ob a c c4 true)) rfl (run_or rfl rfl (or8 _ _ _ _)) ?_
                                (try simp only [Act.put, Z1, Z2, Z3, Z4, Z5, Z6])
                                refine no_implicit_lambda% (wpl_val ?_ rfl ?_ ?_)
                                rotate_left
                                · (go_simp; (try with_reducible rfl))
                                (try simp only [Act.put, Z1, Z2, Z3, Z4, Z5, Z6])
                                refine no_implicit_lambda% (wpList_nil ?_)
                                go_wp2_with fail
                                go_roundg (T.eraseIdx j).length
                                case measure => exact hlen.out
                                case rel => exact ⟨T.eraseIdx j, true, rfl, rfl, hS9, hIt9, hC9, hnd2.out, hT2.out⟩
                              · rw [decide_eq_false hm] at l1
                                have hT2 : Hid (P.An A (T.eraseIdx j) (fun e => (e.2, e.1) ∈ C2) c8) := hT.out.2.miss hT.out.1 hj.out hm
                                clear hT hm hj hqB
                                go_upto_region 56 with (fail)
                                refine no_implicit_lambda% (wp_region_lit ?_)
                                iterate 2
                                  refine no_implicit_lambda% (wpl_val ?_ rfl ?_ ?_)
                                  rotate_left
                                  · (go_simp; (try with_reducible rfl))
                                  (try simp only [Act.put, Z1, Z2, Z3, Z4, Z5, Z6])
                                refine no_implicit_lambda% (wpl_val ?_ rfl ?_ ?_)
                                rotate_left
                                · (have c0 := k1; go_simp; (try with_reducible rfl))
                                (try simp only [Act.put, Z1, Z2, Z3, Z4, Z5, Z6])
                                refine no_implicit_lambda% (wpl_val ?_ rfl ?_ ?_)
                                rotate_left
                                · (go_simp; (try with_reducible rfl))
                                (try simp only [Act.put, Z1, Z2, Z3, Z4, Z5, Z6])
                                refine no_implicit_lambda% (wpl_val ?_ rfl ?_ ?_)
                                rotate_left
                                · (have c0 := k0; go_simp; (try with_reducible rfl))
                                (try simp only [Act.put, Z1, Z2, Z3, Z4, Z5, Z6])
                                refine wpl_val (.agg #[.int .i64 q.2, .int .i64 q.1]) rfl (run_buildE rfl (by go_simp; exact b72 q.2 q.1)) ?_
                                (try simp only [Act.put, Z1, Z2, Z3, Z4, Z5, Z6])
                                refine no_implicit_lambda% (wpl_val ?_ rfl ?_ ?_)
                                rotate_left
                                · (have c0 := l1; go_simp; (try with_reducible rfl))
                                (try simp only [Act.put, Z1, Z2, Z3, Z4, Z5, Z6])
                                refine no_implicit_lambda% (wpList_nil ?_)
                                clear l1 hB9 k0 k1
                                go_wp2_with fail
                                go_roundg (T.eraseIdx j).length
                                case measure => exact hlen.out
                                case rel => exact ⟨T.eraseIdx j, c8, rfl, rfl, hS9, hIt9, hC9, hnd2.out, hT2.out⟩
                        · replace hj := Lib.hid hj
                          replace hqB := Lib.hid hqB
                          go_upto_region 49 with (fail)
                          refine no_implicit_lambda% (wp_region_lit ?_)
                          refine wpl_run (.tuple #[.bool true, .agg #[.int .i64 q.1, .int .i64 q.2], .bool true]) w' rfl (by go_simp) ?_
                          (try simp only [Act.put, Z1, Z2, Z3, Z4, Z5, Z6])
                          refine no_implicit_lambda% (wpl_val ?_ rfl ?_ ?_)
                          rotate_left
                          · (go_simp; (try with_reducible rfl))
                          (try simp only [Act.put, Z1, Z2, Z3, Z4, Z5, Z6])
                          refine no_implicit_lambda% (wpList_nil ?_)
                          clear hrun
                          go_upto_region 50 with (fail)
                          refine no_implicit_lambda% (wp_region_lit ?_)
                          iterate 2
                            refine no_implicit_lambda% (wpl_val ?_ rfl ?_ ?_)
                            rotate_left
                            · (go_simp; (try with_reducible rfl))
                            (try simp only [Act.put, Z1, Z2, Z3, Z4, Z5, Z6])
                          refine wpl_alloc 72 #[.int .i64 0, .int .i64 0] rfl rfl hz72 ?_
                          (try simp only [Act.put, Z1, Z2, Z3, Z4, Z5, Z6])
                          refine wpList_store_fr rfl 72 _ _ rfl w'.heap.size #[.int .i64 q.1, .int .i64 q.2] rfl rfl 72 _ (Blk.alloc_new _ _ _) zero72.2 rfl (by simp [Value.oneCell']) ?_
                          intro w9 hB9 hF9
                          (try simp only [Act.put, Z1, Z2, Z3, Z4, Z5, Z6])
                          refine no_implicit_lambda% (wpList_nil ?_)
                          clear hent
                          have hin' := hin.out
                          have hS9 := (hS.fr hF (fun i hi => by omega)).below (box_below hF9)
                          have hIt9 := hIt2.below (box_below hF9)
                          have hlen := Lib.hid (erase_len hj.out)
                          have hql := hDl.out q hqB.out
                          have hnd2 : Hid (T.eraseIdx j).Nodup := (List.eraseIdx_sublist _ _).nodup hT.out.1
                          obtain ⟨w5, hup, hS5, hF5⟩ := hS9.put (i := q.1) (k := q.2) (by omega) (by omega)
                          have hnr := hS9.nr
                          have hIt5 := hIt9.fr hF5 (by omega) (by omega)
                          have hT2 : Hid (∀ e : Ed, e ∈ P.ins S2 q ↔ e ∈ S ∨ (e ∈ D ∧ e ∉ T.eraseIdx j)) := fun e => by
                            rw [P.mem_ins, hT.out.2, mem_eraseIdx_nd hT.out.1 hj.out]
                            constructor
                            · rintro ((h1 | ⟨h1, h2⟩) | rfl)
                              · exact .inl h1
                              · exact .inr ⟨h1, fun h => h2 h.1⟩
                              · exact .inr ⟨hqB.out, fun h => h.2 rfl⟩
                            · rintro (h1 | ⟨h1, h2⟩)
                              · exact .inl (.inl h1)
                              · by_cases e1 : e = q
                                · exact .inr e1
                                · exact .inl (.inr ⟨h1, fun h => h2 ⟨h, e1⟩⟩)
                          generalize w'.heap.size = bx at *
                          clear hS hIt hIt2 hF hF9 hin' hql hS9 hIt9 hF5 hT hj hqB hnr
                          go_upto_region 51 with (fail)
                          refine no_implicit_lambda% (wp_region_lit ?_)
                          refine no_implicit_lambda% (wpl_val ?_ rfl ?_ ?_)
                          rotate_left
                          · (go_simp; (try with_reducible rfl))
                          (try simp only [Act.put, Z1, Z2, Z4, Z5, Z6])
                          refine wpl_val (.agg #[.int .i64 q.1, .int .i64 q.2]) rfl (run_load_cs rfl rfl hB9 Try.underlying72 rfl zero72.2) ?_
                          (try simp only [Act.put, Z1, Z2, Z3, Z4, Z5, Z6])
                          refine wpl_law rfl (wp_mapUpdateE rfl rfl rfl rfl hup ?_)
                          (try simp only [Act.put, Z1, Z2, Z3, Z4, Z5, Z6])
                          refine no_implicit_lambda% (wpList_nil ?_)
                          clear hup hB9
                          go_wp2_with fail
                          go_roundg (T.eraseIdx j).length
                          case measure => exact hlen.out
                          case rel => exact ⟨T.eraseIdx j, P.ins S2 q, rfl, hS5, hIt5, hnd2.out, hT2.out⟩
                    · replace hj := Lib.hid hj
                      replace hqB := Lib.hid hqB
                      go_upto_region 44 with (fail)
                      refine no_implicit_lambda% (wp_region_lit ?_)
                      refine wpl_run (.tuple #[.bool true, .agg #[.int .i64 q.1, .int .i64 q.2], .bool true]) w' rfl (by go_simp) ?_
                      (try simp only [Act.put, Z1, Z2, Z3, Z4, Z5, Z6])
                      refine no_implicit_lambda% (wpl_val ?_ rfl ?_ ?_)
                      rotate_left
                      · (go_simp; (try with_reducible rfl))
                      (try simp only [Act.put, Z1, Z2, Z3, Z4, Z5, Z6])
                      refine no_implicit_lambda% (wpList_nil ?_)
                      clear hrun
                      go_upto_region 45 with (fail)
                      refine no_implicit_lambda% (wp_region_lit ?_)
                      iterate 2
                        refine no_implicit_lambda% (wpl_val ?_ rfl ?_ ?_)
                        rotate_left
                        · (go_simp; (try with_reducible rfl))
                        (try simp only [Act.put, Z1, Z2, Z3, Z4, Z5, Z6])
                      refine wpl_alloc 72 #[.int .i64 0, .int .i64 0] rfl rfl hz72 ?_
                      (try simp only [Act.put, Z1, Z2, Z3, Z4, Z5, Z6])
                      refine wpList_store_fr rfl 72 _ _ rfl w'.heap.size #[.int .i64 q.1, .int .i64 q.2] rfl rfl 72 _ (Blk.alloc_new _ _ _) zero72.2 rfl (by simp [Value.oneCell']) ?_
                      intro w9 hB9 hF9
                      (try simp only [Act.put, Z1, Z2, Z3, Z4, Z5, Z6])
                      refine no_implicit_lambda% (wpList_nil ?_)
                      clear hent
                      have hin' := hin.out
                      have hS9 := (hS.fr hF (fun i hi => by omega)).below (box_below hF9)
                      have hIt9 := hIt2.below (box_below hF9)
                      have hlen := Lib.hid (erase_len hj.out)
                      have hql := hDl.out q hqB.out
                      have l1 := hS9.st.look (i := q.1) (k := q.2) (by omega) (by omega)
                      have hnd2 : Hid (T.eraseIdx j).Nodup := (List.eraseIdx_sublist _ _).nodup hT.out.1
                      generalize w'.heap.size = bx at *
                      clear hS hIt hIt2 hF hF9 hin' hql
                      by_cases hm : q ∈ S
                      · rw [decide_eq_true hm] at l1
                        have hT2 : Hid (P.An D (T.eraseIdx j) (fun e => ¬ e ∈ S) c4) := hT.out.2.miss hT.out.1 hj.out (fun h => h hm)
                        clear hT hm hj hqB
                        go_upto_region 46 with (fail)
                        refine no_implicit_lambda% (wp_region_lit ?_)
                        refine no_implicit_lambda% (wpl_val ?_ rfl ?_ ?_)
                        rotate_left
                        · (go_simp; (try with_reducible rfl))
                        (try simp only [Act.put, Z1, Z2, Z4, Z5, Z6])
                        refine wpl_val (.agg #[.int .i64 q.1, .int .i64 q.2]) rfl (run_load_cs rfl rfl hB9 Try.underlying72 rfl zero72.2) ?_
                        (try simp only [Act.put, Z1, Z2, Z3, Z4, Z5, Z6])
                        refine no_implicit_lambda% (wpl_val ?_ rfl ?_ ?_)
                        rotate_left
                        · (have c0 := l1; go_simp; (try with_reducible rfl))
                        (try simp only [Act.put, Z1, Z2, Z3, Z4, Z5, Z6])
                        refine no_implicit_lambda% (wpl_val ?_ rfl ?_ ?_)
                        rotate_left
                        · (go_simp; (try with_reducible rfl))
                        (try simp only [Act.put, Z1, Z2, Z3, Z4, Z5, Z6])
                        refine no_implicit_lambda% (wpList_nil ?_)
                        clear l1 hB9
                        go_wp2_with fail
                        go_roundg (T.eraseIdx j).length
                        case measure => exact hlen.out
                        case rel => exact ⟨T.eraseIdx j, c4, rfl, rfl, hS9, hIt9, hnd2.out, hT2.out⟩
                      · rw [decide_eq_false hm] at l1
                        have hT2 : Hid (P.An D (T.eraseIdx j) (fun e => ¬ e ∈ S) true) := P.An.hit hT.out.1 hj.out hqB.out hm
                        clear hT hm hj hqB
                        go_upto_region 46 with (fail)
                        refine no_implicit_lambda% (wp_region_lit ?_)
                        refine no_implicit_lambda% (wpl_val ?_ rfl ?_ ?_)
                        rotate_left
                        · (go_simp; (try with_reducible rfl))
                        (try simp only [Act.put, Z1, Z2, Z4, Z5, Z6])
                        refine wpl_val (.agg #[.int .i64 q.1, .int .i64 q.2]) rfl (run_load_cs rfl rfl hB9 Try.underlying72 rfl zero72.2) ?_
                        (try simp only [Act.put, Z1, Z2, Z3, Z4, Z5, Z6])
                        refine no_implicit_lambda% (wpl_val ?_ rfl ?_ ?_)
                        rotate_left
                        · (have c0 := l1; go_simp; (try with_reducible rfl))
                        (try simp only [Act.put, Z1, Z2, Z3, Z4, Z5, Z6])
                        refine no_implicit_lambda% (wpl_val ?_ rfl ?_ ?_)
                        rotate_left
                        · (go_simp; (try with_reducible rfl))
                        (try simp only [Act.put, Z1, Z2, Z3, Z4, Z5, Z6])
                        refine no_implicit_lambda% (wpList_nil ?_)
                        clear l1 hB9
                        go_upto_region 47 with (fail)
                        refine no_implicit_lambda% (wp_region_lit ?_)
                        refine no_implicit_lambda% (wpl_val ?_ rfl ?_ ?_)
                        rotate_left
                        · (go_simp; (try with_reducible rfl))
                        (try simp only [Act.put, Z1, Z2, Z4, Z5, Z6])
                        refine wpl_val (.int .u8 (P.ob a c true false)) rfl (run_or rfl rfl (or4 _ _ _ _)) ?_
                        (try simp only [Act.put, Z1, Z2, Z3, Z4, Z5, Z6])
                        refine no_implicit_lambda% (wpl_val ?_ rfl ?_ ?_)
                        rotate_left
                        · (go_simp; (try with_reducible rfl))
                        (try simp only [Act.put, Z1, Z2, Z3, Z4, Z5, Z6])
                        refine no_implicit_lambda% (wpList_nil ?_)
                        go_wp2_with fail
                        go_roundg (T.eraseIdx j).length
                        case measure => exact hlen.out
                        case rel => exact ⟨T.eraseIdx j, true, rfl, rfl, hS9, hIt9, hnd2.out, hT2.out⟩
end Go.Proofs.Ytnemaolbmocncaa
