/- The walk of the document's Check. -/
import Derived.Test.YtnemaolbmocncaaRcP
namespace Go.Proofs.Ytnemaolbmocncaa
open Go.RowKit
set_option linter.unusedSimpArgs false
set_option linter.unusedVariables false
attribute [local irreducible] wpList
set_option maxRecDepth 100000 in
set_option maxHeartbeats 32000000 in
theorem rcheck_any {w : World} {ao : Option Addr} {cap : Nat} {R : List Rec} (h : HAt w ao R) (hR : R.length ≤ 1000) :
    Calls Try.prog 12 #[.slice ao R.length cap] w fun e w' => e = .returned (.tuple #[.int .u8 (P.chk (his R)).1, .bool (decide ((P.chk (his R)).2 = 0))]) ∧ Below w.heap.size w w' := by
  have hz36 := zero36.1
  have hz43 := zero43.1
  have hH := Lib.hid h
  have h0 : Hid (Below w.heap.size w w) := Below.refl _ _
  clear h
  go_enter Try.func12, Try.ntmps12
  go_upto_region 1 with (fail)
  refine no_implicit_lambda% (wp_region_lit ?_)
  refine no_implicit_lambda% (wpl_val ?_ rfl ?_ ?_)
  rotate_left
  · (go_simp; (try with_reducible rfl))
  (try simp only [Act.put, Z1, Z2, Z4, Z5, Z6])
  refine no_implicit_lambda% (wpl_val ?_ rfl ?_ ?_)
  rotate_left
  · (go_simp; (try with_reducible rfl))
  (try simp only [Act.put, Z1, Z2, Z3, Z4, Z5, Z6])
  refine no_implicit_lambda% (wpl_val ?_ rfl ?_ ?_)
  rotate_left
  · (go_simp; (try with_reducible rfl))
  (try simp only [Act.put, Z1, Z2, Z3, Z4, Z5, Z6])
  refine no_implicit_lambda% (wpList_nil ?_)
  go_wp2_with fail
  go_loopw [21] (fun i wr => ∃ k : Nat, i = .int .i64 k ∧ k ≤ R.length ∧ Below w.heap.size w wr ∧ Hid (∀ j, j < k → ¬ P.badN (his R) j)) (fun i _ => R.length - (intOf i).toNat)
  case atStart => exact ⟨0, rfl, Nat.zero_le _, h0.out, fun j hj => by omega⟩
  case round =>
    obtain ⟨k, rfl, hk, hS, hgood⟩ := hrel
    by_cases hlt : k < R.length
    · have hlt' : (k : Int) < (R.length : Int) := by omega
      obtain ⟨x, hx⟩ : ∃ x, R[k]? = some x := ⟨_, List.getElem?_eq_getElem hlt⟩
      have hHr := hH.out.below hS
      obtain ⟨b, o, rfl, hbl, hr⟩ := hHr.row k x hx
      replace hr := Lib.hid hr
      have hone := Lib.hid (hHr.sub x (List.mem_of_getElem? hx)).one
      have hxh := Lib.hid (his_get hx)
      have hmem := Lib.hid (List.mem_of_getElem? hx)
      clear hx hHr
      go_upto_region 3 with (fail)
      refine no_implicit_lambda% (wp_region_lit ?_)
      iterate 2
        refine no_implicit_lambda% (wpl_val ?_ rfl ?_ ?_)
        rotate_left
        · (go_simp; (try with_reducible rfl))
        (try simp only [Act.put, Z1, Z2, Z3, Z4, Z5, Z6])
      refine wpList_load_mid rfl 36 _ rfl b (o + k * 5) rfl (pcL x) _ hr.out Try.underlying36 rfl (size36' x) ?_
      (try simp only [Act.put, Z1, Z2, Z3, Z4, Z5, Z6])
      refine wpl_alloc 36 (pcA noR) rfl rfl hz36 ?_
      (try simp only [Act.put, Z1, Z2, Z3, Z4, Z5, Z6])
      refine no_implicit_lambda% (wpl_val ?_ rfl ?_ ?_)
      rotate_left
      · (go_simp; (try with_reducible rfl))
      (try simp only [Act.put, Z1, Z2, Z3, Z4, Z5, Z6])
      refine wpList_store_fr rfl 36 _ _ rfl wr.heap.size (pcA x) rfl rfl 36 _ (Blk.alloc_new _ _ _) (size36 x) rfl hone.out ?_
      intro w9 hB9 hF9
      (try simp only [Act.put, Z1, Z2, Z3, Z4, Z5, Z6])
      refine no_implicit_lambda% (wpList_nil ?_)
      have hb9 := box_below hF9
      clear hF9
      replace hS := hS.trans (hb9.mono hS.size)
      clear hr hbl hb9 hone
      generalize wr.heap.size = bx at *
      have hcw := rwrites_any x w9 ((hH.out.below hS).sub x hmem.out)
      go_upto_region 4 with (fail)
      refine no_implicit_lambda% (wp_region_lit ?_)
      refine wpl_val (.agg (pcA x)) rfl (run_load_cs rfl rfl hB9 Try.underlying36 rfl (size36 x)) ?_
      (try simp only [Act.put, Z1, Z2, Z3, Z4, Z5, Z6])
      refine wpl_call _ _ rfl (by go_simp) _ hcw ?_
      rintro e w8 ⟨rfl, hb8⟩
      refine ⟨_, rfl, ?_⟩
      (try simp only [Act.put, Z1, Z2, Z3, Z4, Z5, Z6])
      replace hS := hS.trans (hb8.mono hS.size)
      have hBx := hB9.below hb8
      clear hcw hb8 hB9
      clear w9
      cases hw : x.1.wr with
      | false =>
        have hge : Hid (x.1.wr = true → ¬ x.1.commit ≤ x.1.start) := fun e => by rw [hw] at e; cases e
        clear hw
        refine no_implicit_lambda% (wpl_val ?_ rfl ?_ ?_)
        rotate_left
        · (go_simp; (try with_reducible rfl))
        (try simp only [Act.put, Z1, Z2, Z3, Z4, Z5, Z6])
        iterate 5
          refine no_implicit_lambda% (wpl_skip rfl ?_)
          (try simp only [Act.put, Z1, Z2, Z3, Z4, Z5, Z6])
        refine no_implicit_lambda% (wpl_val ?_ rfl ?_ ?_)
        rotate_left
        · (go_simp; (try with_reducible rfl))
        (try simp only [Act.put, Z1, Z2, Z3, Z4, Z5, Z6])
        refine no_implicit_lambda% (wpList_nil ?_)
        have hS8 := Lib.hid (And.intro hS hBx)
        clear hS hBx
        go_upto_region 6 with (fail)
        refine no_implicit_lambda% (wp_region_lit ?_)
        refine no_implicit_lambda% (wpl_val ?_ rfl ?_ ?_)
        rotate_left
        · (go_simp; (try with_reducible rfl))
        (try simp only [Act.put, Z1, Z2, Z4, Z5, Z6])
        refine no_implicit_lambda% (wpl_val ?_ rfl ?_ ?_)
        rotate_left
        · (go_simp; (try with_reducible rfl))
        (try simp only [Act.put, Z1, Z2, Z3, Z4, Z5, Z6])
        refine no_implicit_lambda% (wpl_val ?_ rfl ?_ ?_)
        rotate_left
        · (go_simp; (try with_reducible rfl))
        (try simp only [Act.put, Z1, Z2, Z3, Z4, Z5, Z6])
        refine no_implicit_lambda% (wpList_nil ?_)
        go_wp2_with fail
        go_loopw [37] (fun i wr => ∃ m : Nat, i = .int .i64 m ∧ m ≤ R.length ∧ Below w.heap.size w wr ∧ Blk wr bx (pcA x) 36 ∧ Hid (∀ j c, j < m → j ≠ k → (his R)[j]? = some c → c.wr = true → x.1.wr = true → x.1.commit ≠ c.commit)) (fun i _ => R.length - (intOf i).toNat)
        case atStart => exact ⟨0, rfl, Nat.zero_le _, hS8.out.1, hS8.out.2, fun j c hj => by omega⟩
        case round =>
          clear hS8
          obtain ⟨m, rfl, hm, hS, hBx, hC⟩ := hrel
          by_cases hlm : m < R.length
          · have hlm' : (m : Int) < (R.length : Int) := by omega
            obtain ⟨y, hy⟩ : ∃ y, R[m]? = some y := ⟨_, List.getElem?_eq_getElem hlm⟩
            have hHr := hH.out.below hS
            obtain ⟨hbl, hr⟩ := hHr.row.at' hy
            replace hr := Lib.hid hr
            have hone := Lib.hid (hHr.sub y (List.mem_of_getElem? hy)).one
            have hyh := Lib.hid (his_get hy)
            have hymem := Lib.hid (List.mem_of_getElem? hy)
            clear hy hHr
            go_upto_region 8 with (fail)
            refine no_implicit_lambda% (wp_region_lit ?_)
            iterate 2
              refine no_implicit_lambda% (wpl_val ?_ rfl ?_ ?_)
              rotate_left
              · (go_simp; (try with_reducible rfl))
              (try simp only [Act.put, Z1, Z2, Z3, Z4, Z5, Z6])
            refine wpList_load_mid rfl 36 _ rfl b (o + m * 5) rfl (pcL y) _ hr.out Try.underlying36 rfl (size36' y) ?_
            (try simp only [Act.put, Z1, Z2, Z3, Z4, Z5, Z6])
            refine wpl_alloc 36 (pcA noR) rfl rfl hz36 ?_
            (try simp only [Act.put, Z1, Z2, Z3, Z4, Z5, Z6])
            refine no_implicit_lambda% (wpl_val ?_ rfl ?_ ?_)
            rotate_left
            · (go_simp; (try with_reducible rfl))
            (try simp only [Act.put, Z1, Z2, Z3, Z4, Z5, Z6])
            refine wpList_store_fr rfl 36 _ _ rfl wr.heap.size (pcA y) rfl rfl 36 _ (Blk.alloc_new _ _ _) (size36 y) rfl hone.out ?_
            intro w9 hB9 hF9
            (try simp only [Act.put, Z1, Z2, Z3, Z4, Z5, Z6])
            refine no_implicit_lambda% (wpList_nil ?_)
            have hb9 := box_below hF9
            clear hF9
            replace hS := hS.trans (hb9.mono hS.size)
            replace hBx := hBx.below hb9
            clear hb9 hr hbl hone
            generalize wr.heap.size = by_ at *
            by_cases hkm : k = m
            · have hkm' : ((k : Int) != (m : Int)) = false := by simp [hkm]
              have hC2 : Hid (∀ j c, j < m + 1 → j ≠ k → (his R)[j]? = some c → c.wr = true → x.1.wr = true → x.1.commit ≠ c.commit) := fun j c hj hjk hc h1 h2 => hC.out j c (by omega) hjk hc h1 h2
              clear hC hkm
              go_upto_region 9 with (fail)
              refine no_implicit_lambda% (wp_region_lit ?_)
              iterate 4
                refine no_implicit_lambda% (wpl_val ?_ rfl ?_ ?_)
                rotate_left
                · (go_simp; (try with_reducible rfl))
                (try simp only [Act.put, Z1, Z2, Z3, Z4, Z5, Z6])
              iterate 2
                refine no_implicit_lambda% (wpl_skip rfl ?_)
                (try simp only [Act.put, Z1, Z2, Z3, Z4, Z5, Z6])
              iterate 2
                refine no_implicit_lambda% (wpl_val ?_ rfl ?_ ?_)
                rotate_left
                · (go_simp; (try with_reducible rfl))
                (try simp only [Act.put, Z1, Z2, Z3, Z4, Z5, Z6])
              iterate 2
                refine no_implicit_lambda% (wpl_skip rfl ?_)
                (try simp only [Act.put, Z1, Z2, Z3, Z4, Z5, Z6])
              iterate 2
                refine no_implicit_lambda% (wpl_val ?_ rfl ?_ ?_)
                rotate_left
                · (go_simp; (try with_reducible rfl))
                (try simp only [Act.put, Z1, Z2, Z3, Z4, Z5, Z6])
              iterate 5
                refine no_implicit_lambda% (wpl_skip rfl ?_)
                (try simp only [Act.put, Z1, Z2, Z3, Z4, Z5, Z6])
              refine no_implicit_lambda% (wpl_val ?_ rfl ?_ ?_)
              rotate_left
              · (go_simp; (try with_reducible rfl))
              (try simp only [Act.put, Z1, Z2, Z3, Z4, Z5, Z6])
              refine no_implicit_lambda% (wpList_nil ?_)
              clear hB9
              go_wp2_with fail
              go_roundw
              case rel => exact ⟨m + 1, by go_num, by omega, hS, hBx, hC2⟩
              case measure => simp [intOf]; omega
            · have hkm' : ((k : Int) != (m : Int)) = true := by simp; omega
              clear hkm
              have hcw := rwrites_any x w9 ((hH.out.below hS).sub x hmem.out)
              go_upto_region 9 with (fail)
              refine no_implicit_lambda% (wp_region_lit ?_)
              iterate 4
                refine no_implicit_lambda% (wpl_val ?_ rfl ?_ ?_)
                rotate_left
                · (go_simp; (try with_reducible rfl))
                (try simp only [Act.put, Z1, Z2, Z3, Z4, Z5, Z6])
              refine wpl_val (.agg (pcA x)) rfl (run_load_cs rfl rfl hBx Try.underlying36 rfl (size36 x)) ?_
              (try simp only [Act.put, Z1, Z2, Z3, Z4, Z5, Z6])
              refine wpl_call _ _ rfl (by go_simp) _ hcw ?_
              rintro e w7 ⟨rfl, hb7⟩
              refine ⟨_, rfl, ?_⟩
              (try simp only [Act.put, Z1, Z2, Z3, Z4, Z5, Z6])
              replace hS := hS.trans (hb7.mono hS.size)
              replace hBx := hBx.below hb7
              replace hB9 := hB9.below hb7
              clear hcw hb7 w9
              cases hwx : x.1.wr with
              | false =>
                have hC2 : Hid (∀ j c, j < m + 1 → j ≠ k → (his R)[j]? = some c → c.wr = true → x.1.wr = true → x.1.commit ≠ c.commit) := fun j c _ _ _ _ h2 => by rw [hwx] at h2; cases h2
                clear hC hwx
                iterate 2
                  refine no_implicit_lambda% (wpl_val ?_ rfl ?_ ?_)
                  rotate_left
                  · (go_simp; (try with_reducible rfl))
                  (try simp only [Act.put, Z1, Z2, Z3, Z4, Z5, Z6])
                iterate 2
                  refine no_implicit_lambda% (wpl_skip rfl ?_)
                  (try simp only [Act.put, Z1, Z2, Z3, Z4, Z5, Z6])
                iterate 2
                  refine no_implicit_lambda% (wpl_val ?_ rfl ?_ ?_)
                  rotate_left
                  · (go_simp; (try with_reducible rfl))
                  (try simp only [Act.put, Z1, Z2, Z3, Z4, Z5, Z6])
                iterate 5
                  refine no_implicit_lambda% (wpl_skip rfl ?_)
                  (try simp only [Act.put, Z1, Z2, Z3, Z4, Z5, Z6])
                refine no_implicit_lambda% (wpl_val ?_ rfl ?_ ?_)
                rotate_left
                · (go_simp; (try with_reducible rfl))
                (try simp only [Act.put, Z1, Z2, Z3, Z4, Z5, Z6])
                refine no_implicit_lambda% (wpList_nil ?_)
                clear hB9
                go_wp2_with fail
                go_roundw
                case rel => exact ⟨m + 1, by go_num, by omega, hS, hBx, hC2⟩
                case measure => simp [intOf]; omega
              | true =>
                iterate 2
                  refine no_implicit_lambda% (wpl_val ?_ rfl ?_ ?_)
                  rotate_left
                  · (go_simp; (try with_reducible rfl))
                  (try simp only [Act.put, Z1, Z2, Z3, Z4, Z5, Z6])
                refine wpl_val (.agg (pcA y)) rfl (run_load_cs rfl rfl hB9 Try.underlying36 rfl (size36 y)) ?_
                (try simp only [Act.put, Z1, Z2, Z3, Z4, Z5, Z6])
                have hcy := rwrites_any y w7 ((hH.out.below hS).sub y hymem.out)
                refine wpl_call _ _ rfl (by go_simp) _ hcy ?_
                rintro e w6 ⟨rfl, hb6⟩
                refine ⟨_, rfl, ?_⟩
                (try simp only [Act.put, Z1, Z2, Z3, Z4, Z5, Z6])
                replace hS := hS.trans (hb6.mono hS.size)
                replace hBx := hBx.below hb6
                replace hB9 := hB9.below hb6
                clear hcy hb6
                cases hwy : y.1.wr with
                | false =>
                  have hC2 : Hid (∀ j c, j < m + 1 → j ≠ k → (his R)[j]? = some c → c.wr = true → x.1.wr = true → x.1.commit ≠ c.commit) := fun j c hj hjk hc h1 h2 => by
                    by_cases e : j = m
                    · rw [e, hyh.out] at hc
                      obtain rfl := Option.some.inj hc
                      rw [hwy] at h1; cases h1
                    · exact hC.out j c (by omega) hjk hc h1 h2
                  clear hC hwy hwx
                  iterate 2
                    refine no_implicit_lambda% (wpl_val ?_ rfl ?_ ?_)
                    rotate_left
                    · (go_simp; (try with_reducible rfl))
                    (try simp only [Act.put, Z1, Z2, Z3, Z4, Z5, Z6])
                  iterate 5
                    refine no_implicit_lambda% (wpl_skip rfl ?_)
                    (try simp only [Act.put, Z1, Z2, Z3, Z4, Z5, Z6])
                  refine no_implicit_lambda% (wpl_val ?_ rfl ?_ ?_)
                  rotate_left
                  · (go_simp; (try with_reducible rfl))
                  (try simp only [Act.put, Z1, Z2, Z3, Z4, Z5, Z6])
                  refine no_implicit_lambda% (wpList_nil ?_)
                  clear hB9
                  go_wp2_with fail
                  go_roundw
                  case rel => exact ⟨m + 1, by go_num, by omega, hS, hBx, hC2⟩
                  case measure => simp [intOf]; omega
                | true =>
                  by_cases heq : x.1.commit = y.1.commit
                  · have heq' : (x.1.commit == y.1.commit) = true := by simp [heq]
                    have HP : Hid (P.chk (his R) = (0, 1)) := P.chk_bad (P.badN_iff.2 ⟨k, _, hxh.out, hwx, .inr ⟨m, _, fun e => by simp [e] at hkm', hyh.out, hwy, heq⟩⟩)
                    clear hC hwy hwx heq
                    iterate 3
                      refine no_implicit_lambda% (wpl_val ?_ rfl ?_ ?_)
                      rotate_left
                      · (go_simp; (try with_reducible rfl))
                      (try simp only [Act.put, Z1, Z2, Z3, Z4, Z5, Z6])
                    refine no_implicit_lambda% (wpl_val ?_ rfl ?_ ?_)
                    rotate_left
                    · (have c0 := (show w6.cell? ⟨bx, 1, none⟩ = some (.int .u32 x.1.commit) by rw [hBx.cell]; rfl); go_simp; (try with_reducible rfl))
                    (try simp only [Act.put, Z1, Z2, Z3, Z4, Z5, Z6])
                    refine no_implicit_lambda% (wpl_val ?_ rfl ?_ ?_)
                    rotate_left
                    · (go_simp; (try with_reducible rfl))
                    (try simp only [Act.put, Z1, Z2, Z3, Z4, Z5, Z6])
                    refine no_implicit_lambda% (wpl_val ?_ rfl ?_ ?_)
                    rotate_left
                    · (have c0 := (show w6.cell? ⟨by_, 1, none⟩ = some (.int .u32 y.1.commit) by rw [hB9.cell]; rfl); go_simp; (try with_reducible rfl))
                    (try simp only [Act.put, Z1, Z2, Z3, Z4, Z5, Z6])
                    iterate 2
                      refine no_implicit_lambda% (wpl_val ?_ rfl ?_ ?_)
                      rotate_left
                      · (go_simp; (try with_reducible rfl))
                      (try simp only [Act.put, Z1, Z2, Z3, Z4, Z5, Z6])
                    refine no_implicit_lambda% (wpList_nil ?_)
                    go_wp2_with fail
                    go_ret2
                    rw [HP.out]
                    exact ⟨rfl, hS⟩
                  · have heq' : (x.1.commit == y.1.commit) = false := by simp [heq]
                    have hC2 : Hid (∀ j c, j < m + 1 → j ≠ k → (his R)[j]? = some c → c.wr = true → x.1.wr = true → x.1.commit ≠ c.commit) := fun j c hj hjk hc h1 h2 => by
                      by_cases e : j = m
                      · rw [e, hyh.out] at hc
                        obtain rfl := Option.some.inj hc
                        exact heq
                      · exact hC.out j c (by omega) hjk hc h1 h2
                    clear hC hwy hwx heq
                    iterate 3
                      refine no_implicit_lambda% (wpl_val ?_ rfl ?_ ?_)
                      rotate_left
                      · (go_simp; (try with_reducible rfl))
                      (try simp only [Act.put, Z1, Z2, Z3, Z4, Z5, Z6])
                    refine no_implicit_lambda% (wpl_val ?_ rfl ?_ ?_)
                    rotate_left
                    · (have c0 := (show w6.cell? ⟨bx, 1, none⟩ = some (.int .u32 x.1.commit) by rw [hBx.cell]; rfl); go_simp; (try with_reducible rfl))
                    (try simp only [Act.put, Z1, Z2, Z3, Z4, Z5, Z6])
                    refine no_implicit_lambda% (wpl_val ?_ rfl ?_ ?_)
                    rotate_left
                    · (go_simp; (try with_reducible rfl))
                    (try simp only [Act.put, Z1, Z2, Z3, Z4, Z5, Z6])
                    refine no_implicit_lambda% (wpl_val ?_ rfl ?_ ?_)
                    rotate_left
                    · (have c0 := (show w6.cell? ⟨by_, 1, none⟩ = some (.int .u32 y.1.commit) by rw [hB9.cell]; rfl); go_simp; (try with_reducible rfl))
                    (try simp only [Act.put, Z1, Z2, Z3, Z4, Z5, Z6])
                    iterate 2
                      refine no_implicit_lambda% (wpl_val ?_ rfl ?_ ?_)
                      rotate_left
                      · (go_simp; (try with_reducible rfl))
                      (try simp only [Act.put, Z1, Z2, Z3, Z4, Z5, Z6])
                    refine no_implicit_lambda% (wpList_nil ?_)
                    clear hB9
                    go_wp2_with fail
                    go_roundw
                    case rel => exact ⟨m + 1, by go_num, by omega, hS, hBx, hC2⟩
                    case measure => simp [intOf]; omega
          · obtain rfl : m = R.length := by omega
            have hg2 : Hid (∀ j, j < k + 1 → ¬ P.badN (his R) j) := fun j hj => by
              by_cases e : j = k
              · rw [e]
                rintro ⟨a, h1, h0, h2⟩
                rw [hxh.out] at h1
                obtain rfl := Option.some.inj h1
                rcases h2 with h2 | ⟨i, c, h2, h3, h4, h5⟩
                · have h9 := hge.out h0; omega
                · exact hC.out i c (by rw [← his_length]; exact (List.getElem?_eq_some_iff.1 h3).1) h2 h3 h4 h0 h5
              · exact hgood.out j (by omega)
            clear hgood hlm hC hge
            go_wp2_with fail
            go_roundw
            case rel => exact ⟨k + 1, by go_num, by omega, hS, hg2⟩
            case measure => simp [intOf]; omega
      | true =>
        by_cases hge : x.1.commit ≤ x.1.start
        · have hge' : decide (x.1.commit ≤ x.1.start) = true := by simp [hge]
          have HP : Hid (P.chk (his R) = (0, 1)) := P.chk_bad (P.badN_iff.2 ⟨k, _, hxh.out, hw, .inl hge⟩)
          clear hge hw
          iterate 2
            refine no_implicit_lambda% (wpl_val ?_ rfl ?_ ?_)
            rotate_left
            · (go_simp; (try with_reducible rfl))
            (try simp only [Act.put, Z1, Z2, Z3, Z4, Z5, Z6])
          refine no_implicit_lambda% (wpl_val ?_ rfl ?_ ?_)
          rotate_left
          · (have c0 := (show w8.cell? ⟨bx, 1, none⟩ = some (.int .u32 x.1.commit) by rw [hBx.cell]; rfl); go_simp; (try with_reducible rfl))
          (try simp only [Act.put, Z1, Z2, Z3, Z4, Z5, Z6])
          refine no_implicit_lambda% (wpl_val ?_ rfl ?_ ?_)
          rotate_left
          · (go_simp; (try with_reducible rfl))
          (try simp only [Act.put, Z1, Z2, Z3, Z4, Z5, Z6])
          refine no_implicit_lambda% (wpl_val ?_ rfl ?_ ?_)
          rotate_left
          · (have c0 := (show w8.cell? ⟨bx, 0, none⟩ = some (.int .u32 x.1.start) by rw [hBx.cell]; rfl); go_simp; (try with_reducible rfl))
          (try simp only [Act.put, Z1, Z2, Z3, Z4, Z5, Z6])
          iterate 2
            refine no_implicit_lambda% (wpl_val ?_ rfl ?_ ?_)
            rotate_left
            · (go_simp; (try with_reducible rfl))
            (try simp only [Act.put, Z1, Z2, Z3, Z4, Z5, Z6])
          refine no_implicit_lambda% (wpList_nil ?_)
          go_wp2_with fail
          go_ret2
          rw [HP.out]
          exact ⟨rfl, hS⟩
        · have hge' : decide (x.1.commit ≤ x.1.start) = false := by simp; omega
          clear hw
          iterate 2
            refine no_implicit_lambda% (wpl_val ?_ rfl ?_ ?_)
            rotate_left
            · (go_simp; (try with_reducible rfl))
            (try simp only [Act.put, Z1, Z2, Z3, Z4, Z5, Z6])
          refine no_implicit_lambda% (wpl_val ?_ rfl ?_ ?_)
          rotate_left
          · (have c0 := (show w8.cell? ⟨bx, 1, none⟩ = some (.int .u32 x.1.commit) by rw [hBx.cell]; rfl); go_simp; (try with_reducible rfl))
          (try simp only [Act.put, Z1, Z2, Z3, Z4, Z5, Z6])
          refine no_implicit_lambda% (wpl_val ?_ rfl ?_ ?_)
          rotate_left
          · (go_simp; (try with_reducible rfl))
          (try simp only [Act.put, Z1, Z2, Z3, Z4, Z5, Z6])
          refine no_implicit_lambda% (wpl_val ?_ rfl ?_ ?_)
          rotate_left
          · (have c0 := (show w8.cell? ⟨bx, 0, none⟩ = some (.int .u32 x.1.start) by rw [hBx.cell]; rfl); go_simp; (try with_reducible rfl))
          (try simp only [Act.put, Z1, Z2, Z3, Z4, Z5, Z6])
          iterate 2
            refine no_implicit_lambda% (wpl_val ?_ rfl ?_ ?_)
            rotate_left
            · (go_simp; (try with_reducible rfl))
            (try simp only [Act.put, Z1, Z2, Z3, Z4, Z5, Z6])
          refine no_implicit_lambda% (wpList_nil ?_)
          replace hge : Hid (x.1.wr = true → ¬ x.1.commit ≤ x.1.start) := fun _ => hge
          clear hge'
          have hS8 := Lib.hid (And.intro hS hBx)
          clear hS hBx
          go_upto_region 6 with (fail)
          refine no_implicit_lambda% (wp_region_lit ?_)
          refine no_implicit_lambda% (wpl_val ?_ rfl ?_ ?_)
          rotate_left
          · (go_simp; (try with_reducible rfl))
          (try simp only [Act.put, Z1, Z2, Z4, Z5, Z6])
          refine no_implicit_lambda% (wpl_val ?_ rfl ?_ ?_)
          rotate_left
          · (go_simp; (try with_reducible rfl))
          (try simp only [Act.put, Z1, Z2, Z3, Z4, Z5, Z6])
          refine no_implicit_lambda% (wpl_val ?_ rfl ?_ ?_)
          rotate_left
          · (go_simp; (try with_reducible rfl))
          (try simp only [Act.put, Z1, Z2, Z3, Z4, Z5, Z6])
          refine no_implicit_lambda% (wpList_nil ?_)
          go_wp2_with fail
          go_loopw [37] (fun i wr => ∃ m : Nat, i = .int .i64 m ∧ m ≤ R.length ∧ Below w.heap.size w wr ∧ Blk wr bx (pcA x) 36 ∧ Hid (∀ j c, j < m → j ≠ k → (his R)[j]? = some c → c.wr = true → x.1.wr = true → x.1.commit ≠ c.commit)) (fun i _ => R.length - (intOf i).toNat)
          case atStart => exact ⟨0, rfl, Nat.zero_le _, hS8.out.1, hS8.out.2, fun j c hj => by omega⟩
          case round =>
            clear hS8
            obtain ⟨m, rfl, hm, hS, hBx, hC⟩ := hrel
            by_cases hlm : m < R.length
            · have hlm' : (m : Int) < (R.length : Int) := by omega
              obtain ⟨y, hy⟩ : ∃ y, R[m]? = some y := ⟨_, List.getElem?_eq_getElem hlm⟩
              have hHr := hH.out.below hS
              obtain ⟨hbl, hr⟩ := hHr.row.at' hy
              replace hr := Lib.hid hr
              have hone := Lib.hid (hHr.sub y (List.mem_of_getElem? hy)).one
              have hyh := Lib.hid (his_get hy)
              have hymem := Lib.hid (List.mem_of_getElem? hy)
              clear hy hHr
              go_upto_region 8 with (fail)
              refine no_implicit_lambda% (wp_region_lit ?_)
              iterate 2
                refine no_implicit_lambda% (wpl_val ?_ rfl ?_ ?_)
                rotate_left
                · (go_simp; (try with_reducible rfl))
                (try simp only [Act.put, Z1, Z2, Z3, Z4, Z5, Z6])
              refine wpList_load_mid rfl 36 _ rfl b (o + m * 5) rfl (pcL y) _ hr.out Try.underlying36 rfl (size36' y) ?_
              (try simp only [Act.put, Z1, Z2, Z3, Z4, Z5, Z6])
              refine wpl_alloc 36 (pcA noR) rfl rfl hz36 ?_
              (try simp only [Act.put, Z1, Z2, Z3, Z4, Z5, Z6])
              refine no_implicit_lambda% (wpl_val ?_ rfl ?_ ?_)
              rotate_left
              · (go_simp; (try with_reducible rfl))
              (try simp only [Act.put, Z1, Z2, Z3, Z4, Z5, Z6])
              refine wpList_store_fr rfl 36 _ _ rfl wr.heap.size (pcA y) rfl rfl 36 _ (Blk.alloc_new _ _ _) (size36 y) rfl hone.out ?_
              intro w9 hB9 hF9
              (try simp only [Act.put, Z1, Z2, Z3, Z4, Z5, Z6])
              refine no_implicit_lambda% (wpList_nil ?_)
              have hb9 := box_below hF9
              clear hF9
              replace hS := hS.trans (hb9.mono hS.size)
              replace hBx := hBx.below hb9
              clear hb9 hr hbl hone
              generalize wr.heap.size = by_ at *
              by_cases hkm : k = m
              · have hkm' : ((k : Int) != (m : Int)) = false := by simp [hkm]
                have hC2 : Hid (∀ j c, j < m + 1 → j ≠ k → (his R)[j]? = some c → c.wr = true → x.1.wr = true → x.1.commit ≠ c.commit) := fun j c hj hjk hc h1 h2 => hC.out j c (by omega) hjk hc h1 h2
                clear hC hkm
                go_upto_region 9 with (fail)
                refine no_implicit_lambda% (wp_region_lit ?_)
                iterate 4
                  refine no_implicit_lambda% (wpl_val ?_ rfl ?_ ?_)
                  rotate_left
                  · (go_simp; (try with_reducible rfl))
                  (try simp only [Act.put, Z1, Z2, Z3, Z4, Z5, Z6])
                iterate 2
                  refine no_implicit_lambda% (wpl_skip rfl ?_)
                  (try simp only [Act.put, Z1, Z2, Z3, Z4, Z5, Z6])
                iterate 2
                  refine no_implicit_lambda% (wpl_val ?_ rfl ?_ ?_)
                  rotate_left
                  · (go_simp; (try with_reducible rfl))
                  (try simp only [Act.put, Z1, Z2, Z3, Z4, Z5, Z6])
                iterate 2
                  refine no_implicit_lambda% (wpl_skip rfl ?_)
                  (try simp only [Act.put, Z1, Z2, Z3, Z4, Z5, Z6])
                iterate 2
                  refine no_implicit_lambda% (wpl_val ?_ rfl ?_ ?_)
                  rotate_left
                  · (go_simp; (try with_reducible rfl))
                  (try simp only [Act.put, Z1, Z2, Z3, Z4, Z5, Z6])
                iterate 5
                  refine no_implicit_lambda% (wpl_skip rfl ?_)
                  (try simp only [Act.put, Z1, Z2, Z3, Z4, Z5, Z6])
                refine no_implicit_lambda% (wpl_val ?_ rfl ?_ ?_)
                rotate_left
                · (go_simp; (try with_reducible rfl))
                (try simp only [Act.put, Z1, Z2, Z3, Z4, Z5, Z6])
                refine no_implicit_lambda% (wpList_nil ?_)
                clear hB9
                go_wp2_with fail
                go_roundw
                case rel => exact ⟨m + 1, by go_num, by omega, hS, hBx, hC2⟩
                case measure => simp [intOf]; omega
              · have hkm' : ((k : Int) != (m : Int)) = true := by simp; omega
                clear hkm
                have hcw := rwrites_any x w9 ((hH.out.below hS).sub x hmem.out)
                go_upto_region 9 with (fail)
                refine no_implicit_lambda% (wp_region_lit ?_)
                iterate 4
                  refine no_implicit_lambda% (wpl_val ?_ rfl ?_ ?_)
                  rotate_left
                  · (go_simp; (try with_reducible rfl))
                  (try simp only [Act.put, Z1, Z2, Z3, Z4, Z5, Z6])
                refine wpl_val (.agg (pcA x)) rfl (run_load_cs rfl rfl hBx Try.underlying36 rfl (size36 x)) ?_
                (try simp only [Act.put, Z1, Z2, Z3, Z4, Z5, Z6])
                refine wpl_call _ _ rfl (by go_simp) _ hcw ?_
                rintro e w7 ⟨rfl, hb7⟩
                refine ⟨_, rfl, ?_⟩
                (try simp only [Act.put, Z1, Z2, Z3, Z4, Z5, Z6])
                replace hS := hS.trans (hb7.mono hS.size)
                replace hBx := hBx.below hb7
                replace hB9 := hB9.below hb7
                clear hcw hb7 w9
                cases hwx : x.1.wr with
                | false =>
                  have hC2 : Hid (∀ j c, j < m + 1 → j ≠ k → (his R)[j]? = some c → c.wr = true → x.1.wr = true → x.1.commit ≠ c.commit) := fun j c _ _ _ _ h2 => by rw [hwx] at h2; cases h2
                  clear hC hwx
                  iterate 2
                    refine no_implicit_lambda% (wpl_val ?_ rfl ?_ ?_)
                    rotate_left
                    · (go_simp; (try with_reducible rfl))
                    (try simp only [Act.put, Z1, Z2, Z3, Z4, Z5, Z6])
                  iterate 2
                    refine no_implicit_lambda% (wpl_skip rfl ?_)
                    (try simp only [Act.put, Z1, Z2, Z3, Z4, Z5, Z6])
                  iterate 2
                    refine no_implicit_lambda% (wpl_val ?_ rfl ?_ ?_)
                    rotate_left
                    · (go_simp; (try with_reducible rfl))
                    (try simp only [Act.put, Z1, Z2, Z3, Z4, Z5, Z6])
                  iterate 5
                    refine no_implicit_lambda% (wpl_skip rfl ?_)
                    (try simp only [Act.put, Z1, Z2, Z3, Z4, Z5, Z6])
                  refine no_implicit_lambda% (wpl_val ?_ rfl ?_ ?_)
                  rotate_left
                  · (go_simp; (try with_reducible rfl))
                  (try simp only [Act.put, Z1, Z2, Z3, Z4, Z5, Z6])
                  refine no_implicit_lambda% (wpList_nil ?_)
                  clear hB9
                  go_wp2_with fail
                  go_roundw
                  case rel => exact ⟨m + 1, by go_num, by omega, hS, hBx, hC2⟩
                  case measure => simp [intOf]; omega
                | true =>
                  iterate 2
                    refine no_implicit_lambda% (wpl_val ?_ rfl ?_ ?_)
                    rotate_left
                    · (go_simp; (try with_reducible rfl))
                    (try simp only [Act.put, Z1, Z2, Z3, Z4, Z5, Z6])
                  refine wpl_val (.agg (pcA y)) rfl (run_load_cs rfl rfl hB9 Try.underlying36 rfl (size36 y)) ?_
                  (try simp only [Act.put, Z1, Z2, Z3, Z4, Z5, Z6])
                  have hcy := rwrites_any y w7 ((hH.out.below hS).sub y hymem.out)
                  refine wpl_call _ _ rfl (by go_simp) _ hcy ?_
                  rintro e w6 ⟨rfl, hb6⟩
                  refine ⟨_, rfl, ?_⟩
                  (try simp only [Act.put, Z1, Z2, Z3, Z4, Z5, Z6])
                  replace hS := hS.trans (hb6.mono hS.size)
                  replace hBx := hBx.below hb6
                  replace hB9 := hB9.below hb6
                  clear hcy hb6
                  cases hwy : y.1.wr with
                  | false =>
                    have hC2 : Hid (∀ j c, j < m + 1 → j ≠ k → (his R)[j]? = some c → c.wr = true → x.1.wr = true → x.1.commit ≠ c.commit) := fun j c hj hjk hc h1 h2 => by
                      by_cases e : j = m
                      · rw [e, hyh.out] at hc
                        obtain rfl := Option.some.inj hc
                        rw [hwy] at h1; cases h1
                      · exact hC.out j c (by omega) hjk hc h1 h2
                    clear hC hwy hwx
                    iterate 2
                      refine no_implicit_lambda% (wpl_val ?_ rfl ?_ ?_)
                      rotate_left
                      · (go_simp; (try with_reducible rfl))
                      (try simp only [Act.put, Z1, Z2, Z3, Z4, Z5, Z6])
                    iterate 5
                      refine no_implicit_lambda% (wpl_skip rfl ?_)
                      (try simp only [Act.put, Z1, Z2, Z3, Z4, Z5, Z6])
                    refine no_implicit_lambda% (wpl_val ?_ rfl ?_ ?_)
                    rotate_left
                    · (go_simp; (try with_reducible rfl))
                    (try simp only [Act.put, Z1, Z2, Z3, Z4, Z5, Z6])
                    refine no_implicit_lambda% (wpList_nil ?_)
                    clear hB9
                    go_wp2_with fail
                    go_roundw
                    case rel => exact ⟨m + 1, by go_num, by omega, hS, hBx, hC2⟩
                    case measure => simp [intOf]; omega
                  | true =>
                    by_cases heq : x.1.commit = y.1.commit
                    · have heq' : (x.1.commit == y.1.commit) = true := by simp [heq]
                      have HP : Hid (P.chk (his R) = (0, 1)) := P.chk_bad (P.badN_iff.2 ⟨k, _, hxh.out, hwx, .inr ⟨m, _, fun e => by simp [e] at hkm', hyh.out, hwy, heq⟩⟩)
                      clear hC hwy hwx heq
                      iterate 3
                        refine no_implicit_lambda% (wpl_val ?_ rfl ?_ ?_)
                        rotate_left
                        · (go_simp; (try with_reducible rfl))
                        (try simp only [Act.put, Z1, Z2, Z3, Z4, Z5, Z6])
                      refine no_implicit_lambda% (wpl_val ?_ rfl ?_ ?_)
                      rotate_left
                      · (have c0 := (show w6.cell? ⟨bx, 1, none⟩ = some (.int .u32 x.1.commit) by rw [hBx.cell]; rfl); go_simp; (try with_reducible rfl))
                      (try simp only [Act.put, Z1, Z2, Z3, Z4, Z5, Z6])
                      refine no_implicit_lambda% (wpl_val ?_ rfl ?_ ?_)
                      rotate_left
                      · (go_simp; (try with_reducible rfl))
                      (try simp only [Act.put, Z1, Z2, Z3, Z4, Z5, Z6])
                      refine no_implicit_lambda% (wpl_val ?_ rfl ?_ ?_)
                      rotate_left
                      · (have c0 := (show w6.cell? ⟨by_, 1, none⟩ = some (.int .u32 y.1.commit) by rw [hB9.cell]; rfl); go_simp; (try with_reducible rfl))
                      (try simp only [Act.put, Z1, Z2, Z3, Z4, Z5, Z6])
                      iterate 2
                        refine no_implicit_lambda% (wpl_val ?_ rfl ?_ ?_)
                        rotate_left
                        · (go_simp; (try with_reducible rfl))
                        (try simp only [Act.put, Z1, Z2, Z3, Z4, Z5, Z6])
                      refine no_implicit_lambda% (wpList_nil ?_)
                      go_wp2_with fail
                      go_ret2
                      rw [HP.out]
                      exact ⟨rfl, hS⟩
                    · have heq' : (x.1.commit == y.1.commit) = false := by simp [heq]
                      have hC2 : Hid (∀ j c, j < m + 1 → j ≠ k → (his R)[j]? = some c → c.wr = true → x.1.wr = true → x.1.commit ≠ c.commit) := fun j c hj hjk hc h1 h2 => by
                        by_cases e : j = m
                        · rw [e, hyh.out] at hc
                          obtain rfl := Option.some.inj hc
                          exact heq
                        · exact hC.out j c (by omega) hjk hc h1 h2
                      clear hC hwy hwx heq
                      iterate 3
                        refine no_implicit_lambda% (wpl_val ?_ rfl ?_ ?_)
                        rotate_left
                        · (go_simp; (try with_reducible rfl))
                        (try simp only [Act.put, Z1, Z2, Z3, Z4, Z5, Z6])
                      refine no_implicit_lambda% (wpl_val ?_ rfl ?_ ?_)
                      rotate_left
                      · (have c0 := (show w6.cell? ⟨bx, 1, none⟩ = some (.int .u32 x.1.commit) by rw [hBx.cell]; rfl); go_simp; (try with_reducible rfl))
                      (try simp only [Act.put, Z1, Z2, Z3, Z4, Z5, Z6])
                      refine no_implicit_lambda% (wpl_val ?_ rfl ?_ ?_)
                      rotate_left
                      · (go_simp; (try with_reducible rfl))
                      (try simp only [Act.put, Z1, Z2, Z3, Z4, Z5, Z6])
                      refine no_implicit_lambda% (wpl_val ?_ rfl ?_ ?_)
                      rotate_left
                      · (have c0 := (show w6.cell? ⟨by_, 1, none⟩ = some (.int .u32 y.1.commit) by rw [hB9.cell]; rfl); go_simp; (try with_reducible rfl))
                      (try simp only [Act.put, Z1, Z2, Z3, Z4, Z5, Z6])
                      iterate 2
                        refine no_implicit_lambda% (wpl_val ?_ rfl ?_ ?_)
                        rotate_left
                        · (go_simp; (try with_reducible rfl))
                        (try simp only [Act.put, Z1, Z2, Z3, Z4, Z5, Z6])
                      refine no_implicit_lambda% (wpList_nil ?_)
                      clear hB9
                      go_wp2_with fail
                      go_roundw
                      case rel => exact ⟨m + 1, by go_num, by omega, hS, hBx, hC2⟩
                      case measure => simp [intOf]; omega
            · obtain rfl : m = R.length := by omega
              have hg2 : Hid (∀ j, j < k + 1 → ¬ P.badN (his R) j) := fun j hj => by
                by_cases e : j = k
                · rw [e]
                  rintro ⟨a, h1, h0, h2⟩
                  rw [hxh.out] at h1
                  obtain rfl := Option.some.inj h1
                  rcases h2 with h2 | ⟨i, c, h2, h3, h4, h5⟩
                  · have h9 := hge.out h0; omega
                  · exact hC.out i c (by rw [← his_length]; exact (List.getElem?_eq_some_iff.1 h3).1) h2 h3 h4 h0 h5
                · exact hgood.out j (by omega)
              clear hgood hlm hC hge
              go_wp2_with fail
              go_roundw
              case rel => exact ⟨k + 1, by go_num, by omega, hS, hg2⟩
              case measure => simp [intOf]; omega
    · obtain rfl : k = R.length := by omega
      have hbad : Hid (¬ P.bad (his R)) := fun hb => by
        obtain ⟨j, hj⟩ := P.badN_iff.1 hb
        by_cases hl : j < R.length
        · exact hgood.out j hl hj
        · obtain ⟨a, h1, _⟩ := hj
          have := (List.getElem?_eq_some_iff.1 h1).1
          rw [his_length] at this; exact hl this
      clear hgood hlt
      go_upto_region 14 with (fail)
      refine no_implicit_lambda% (wp_region_lit ?_)
      refine no_implicit_lambda% (wpl_val ?_ rfl ?_ ?_)
      rotate_left
      · (go_simp; (try with_reducible rfl))
      (try simp only [Act.put, Z1, Z2, Z4, Z5, Z6])
      refine no_implicit_lambda% (wpl_val ?_ rfl ?_ ?_)
      rotate_left
      · (go_simp; (try with_reducible rfl))
      (try simp only [Act.put, Z1, Z2, Z3, Z4, Z5, Z6])
      refine no_implicit_lambda% (wpl_val ?_ rfl ?_ ?_)
      rotate_left
      · (go_simp; (try with_reducible rfl))
      (try simp only [Act.put, Z1, Z2, Z3, Z4, Z5, Z6])
      refine no_implicit_lambda% (wpList_nil ?_)
      replace hS := Lib.hid hS
      go_wp2_with fail
      go_loopw [64, 8] (fun i o wr => ∃ (k : Nat) (a b c d : Bool), i = .int .i64 k ∧ o = .int .u8 (P.ob a b c d) ∧ k ≤ R.length ∧ Below w.heap.size w wr ∧ Hid (P.F4 (his R) k a b c d)) (fun i _ _ => R.length - (intOf i).toNat)
      case atStart => exact ⟨0, false, false, false, false, rfl, rfl, Nat.zero_le _, hS.out, P.F4.start _⟩
      case round =>
        clear hS hk
        obtain ⟨k, a1, b1, c1, d1, rfl, rfl, hk, hS, hF⟩ := hrel
        by_cases hlt : k < R.length
        · have hlt' : (k : Int) < (R.length : Int) := by omega
          obtain ⟨x, hx⟩ : ∃ x, R[k]? = some x := ⟨_, List.getElem?_eq_getElem hlt⟩
          have hHr := hH.out.below hS
          obtain ⟨b, o, rfl, hbl, hr⟩ := hHr.row k x hx
          replace hr := Lib.hid hr
          have hone := Lib.hid (hHr.sub x (List.mem_of_getElem? hx)).one
          have hxh := Lib.hid (his_get hx)
          have hmem := Lib.hid (List.mem_of_getElem? hx)
          clear hx hHr
          go_upto_region 16 with (fail)
          refine no_implicit_lambda% (wp_region_lit ?_)
          iterate 2
            refine no_implicit_lambda% (wpl_val ?_ rfl ?_ ?_)
            rotate_left
            · (go_simp; (try with_reducible rfl))
            (try simp only [Act.put, Z1, Z2, Z3, Z4, Z5, Z6])
          refine wpList_load_mid rfl 36 _ rfl b (o + k * 5) rfl (pcL x) _ hr.out Try.underlying36 rfl (size36' x) ?_
          (try simp only [Act.put, Z1, Z2, Z3, Z4, Z5, Z6])
          refine wpl_alloc 36 (pcA noR) rfl rfl hz36 ?_
          (try simp only [Act.put, Z1, Z2, Z3, Z4, Z5, Z6])
          refine no_implicit_lambda% (wpl_val ?_ rfl ?_ ?_)
          rotate_left
          · (go_simp; (try with_reducible rfl))
          (try simp only [Act.put, Z1, Z2, Z3, Z4, Z5, Z6])
          refine wpList_store_fr rfl 36 _ _ rfl wr.heap.size (pcA x) rfl rfl 36 _ (Blk.alloc_new _ _ _) (size36 x) rfl hone.out ?_
          intro w9 hB9 hF9
          (try simp only [Act.put, Z1, Z2, Z3, Z4, Z5, Z6])
          refine no_implicit_lambda% (wpList_nil ?_)
          have hb9 := box_below hF9
          clear hF9
          replace hS := hS.trans (hb9.mono hS.size)
          clear hr hbl hb9 hone
          generalize wr.heap.size = bx at *
          have hre := reach_any (cap := cap) (hH.out.below hS) hR hlt false
          go_upto_region 17 with (fail)
          refine no_implicit_lambda% (wp_region_lit ?_)
          iterate 2
            refine no_implicit_lambda% (wpl_val ?_ rfl ?_ ?_)
            rotate_left
            · (go_simp; (try with_reducible rfl))
            (try simp only [Act.put, Z1, Z2, Z3, Z4, Z5, Z6])
          refine wpl_call _ _ rfl (by go_simp) _ hre ?_
          rintro e w5 ⟨g, s, rfl, hg, hSA, hsl, hsp, hb5⟩
          refine ⟨_, rfl, ?_⟩
          replace hS := hS.trans (hb5.mono hS.size)
          have hBx := hB9.below hb5
          clear hre hB9 hg hb5
          clear w9
          (try simp only [Act.put, Z1, Z2, Z3, Z4, Z5, Z6])
          refine no_implicit_lambda% (wpl_val ?_ rfl ?_ ?_)
          rotate_left
          · (go_simp; (try with_reducible rfl))
          (try simp only [Act.put, Z1, Z2, Z3, Z4, Z5, Z6])
          refine no_implicit_lambda% (wpList_nil ?_)
          obtain ⟨c2, hc2⟩ : ∃ c, s[k]? = some c := ⟨_, List.getElem?_eq_getElem (by rw [hsl]; exact hlt)⟩
          have hcs := hSA.get hc2
          have hpb : Hid (c2 = true ↔ P.pB (his R) k) := by
            have h1 := (hsp k).trans P.rrel_dep
            rw [hc2] at h1
            exact Iff.trans (by simp) h1
          clear hsp hSA hsl hc2
          go_upto_region 18 with (fail)
          refine no_implicit_lambda% (wp_region_lit ?_)
          iterate 3
            refine no_implicit_lambda% (wpl_val ?_ rfl ?_ ?_)
            rotate_left
            · (go_simp; (try with_reducible rfl))
            (try simp only [Act.put, Z1, Z2, Z3, Z4, Z5, Z6])
          refine no_implicit_lambda% (wpl_val ?_ rfl ?_ ?_)
          rotate_left
          · (have c0 := hcs; go_simp; (try with_reducible rfl))
          (try simp only [Act.put, Z1, Z2, Z3, Z4, Z5, Z6])
          refine no_implicit_lambda% (wpList_nil ?_)
          clear hcs
          go_upto_if 75 with (fail)
          go_cut [8] (fun o wx => ∃ b2 : Bool, o = .int .u8 (P.ob a1 b2 c1 d1) ∧ Below w.heap.size w wx ∧ Blk wx bx (pcA x) 36 ∧ Hid (P.Fd (P.pB (his R)) (k + 1) false b2))
          case first =>
            cases c2 with
            | true =>
              have hF2 : Hid (P.Fd (P.pB (his R)) (k + 1) false true) := P.Fd.hit (hpb.out.1 rfl)
              clear hF hpb
              go_upto_region 19 with (fail)
              refine no_implicit_lambda% (wp_region_lit ?_)
              refine no_implicit_lambda% (wpl_val ?_ rfl ?_ ?_)
              rotate_left
              · (go_simp; (try with_reducible rfl))
              (try simp only [Act.put, Z1, Z2, Z4, Z5, Z6])
              refine wpl_val (.int .u8 (P.ob a1 true c1 d1)) rfl (run_or rfl rfl (or2 _ _ _ _)) ?_
              (try simp only [Act.put, Z1, Z2, Z3, Z4, Z5, Z6])
              refine no_implicit_lambda% (wpl_val ?_ rfl ?_ ?_)
              rotate_left
              · (go_simp; (try with_reducible rfl))
              (try simp only [Act.put, Z1, Z2, Z3, Z4, Z5, Z6])
              refine no_implicit_lambda% (wpList_nil ?_)
              go_wp2_with fail
              go_meet
              case rel => exact ⟨true, rfl, hS, hBx, hF2⟩
            | false =>
              have hF2 : Hid (P.Fd (P.pB (his R)) (k + 1) false b1) := hF.out.fb.miss fun e => by have := hpb.out.2 e; cases this
              clear hF hpb
              go_wp2_with fail
              go_meet
              case rel => exact ⟨b1, rfl, hS, hBx, hF2⟩
          case rest =>
            clear hS hBx hpb
            obtain ⟨b2, rfl, hS, hBx, hFb⟩ := hcut
            go_upto_region 20 with (fail)
            refine no_implicit_lambda% (wp_region_lit ?_)
            refine no_implicit_lambda% (wpl_val ?_ rfl ?_ ?_)
            rotate_left
            · (go_simp; (try with_reducible rfl))
            (try simp only [Act.put, Z1, Z2, Z4, Z5, Z6])
            refine no_implicit_lambda% (wpl_val ?_ rfl ?_ ?_)
            rotate_left
            · (go_simp; (try with_reducible rfl))
            (try simp only [Act.put, Z1, Z2, Z3, Z4, Z5, Z6])
            refine no_implicit_lambda% (wpl_val ?_ rfl ?_ ?_)
            rotate_left
            · (go_simp; (try with_reducible rfl))
            (try simp only [Act.put, Z1, Z2, Z3, Z4, Z5, Z6])
            refine no_implicit_lambda% (wpList_nil ?_)
            replace hS := Lib.hid (And.intro hS hBx)
            clear hBx
            go_wp2_with fail
            go_loopw [80, 8] (fun i o wr => ∃ (m : Nat) (c3 : Bool), i = .int .i64 m ∧ o = .int .u8 (P.ob a1 b2 c3 d1) ∧ m ≤ R.length ∧ Below w.heap.size w wr ∧ Blk wr bx (pcA x) 36 ∧ Hid (P.Fd (P.qC (his R) k) m c1 c3)) (fun i _ _ => R.length - (intOf i).toNat)
            case atStart => exact ⟨0, c1, rfl, rfl, Nat.zero_le _, hS.out.1, hS.out.2, P.Fd.start _ _⟩
            case round =>
              clear hS
              obtain ⟨m, c3, rfl, rfl, hm, hS, hBx, hT⟩ := hrel
              by_cases hlm : m < R.length
              · have hlm' : (m : Int) < (R.length : Int) := by omega
                have hdp := depends_any (cap := cap) (hH.out.below hS) hR hlt hlm
                go_upto_region 23 with (fail)
                refine no_implicit_lambda% (wp_region_lit ?_)
                iterate 3
                  refine no_implicit_lambda% (wpl_val ?_ rfl ?_ ?_)
                  rotate_left
                  · (go_simp; (try with_reducible rfl))
                  (try simp only [Act.put, Z1, Z2, Z3, Z4, Z5, Z6])
                refine wpl_call _ _ rfl (by go_simp) _ hdp ?_
                rintro e w5 ⟨c, rfl, hcd, hb5⟩
                refine ⟨_, rfl, ?_⟩
                replace hS := hS.trans (hb5.mono hS.size)
                replace hBx := hBx.below hb5
                clear hdp hb5
                (try simp only [Act.put, Z1, Z2, Z3, Z4, Z5, Z6])
                cases c with
                | false =>
                  have hT2 : Hid (P.Fd (P.qC (his R) k) (m + 1) c1 c3) := hT.out.miss fun e => by have := hcd.2 e.1; cases this
                  clear hT hcd
                  refine no_implicit_lambda% (wpl_val ?_ rfl ?_ ?_)
                  rotate_left
                  · (go_simp; (try with_reducible rfl))
                  (try simp only [Act.put, Z1, Z2, Z3, Z4, Z5, Z6])
                  iterate 5
                    refine no_implicit_lambda% (wpl_skip rfl ?_)
                    (try simp only [Act.put, Z1, Z2, Z3, Z4, Z5, Z6])
                  refine no_implicit_lambda% (wpl_val ?_ rfl ?_ ?_)
                  rotate_left
                  · (go_simp; (try with_reducible rfl))
                  (try simp only [Act.put, Z1, Z2, Z3, Z4, Z5, Z6])
                  refine no_implicit_lambda% (wpList_nil ?_)
                  go_wp2_with fail
                  go_roundw
                  case rel => exact ⟨m + 1, c3, by go_num, rfl, by omega, hS, hBx, hT2⟩
                  case measure => simp [intOf]; omega
                | true =>
                  have hah := ahead_any (cap := cap) (hH.out.below hS) hR hlt hlm
                  iterate 4
                    refine no_implicit_lambda% (wpl_val ?_ rfl ?_ ?_)
                    rotate_left
                    · (go_simp; (try with_reducible rfl))
                    (try simp only [Act.put, Z1, Z2, Z3, Z4, Z5, Z6])
                  refine wpl_call _ _ rfl (by go_simp) _ hah ?_
                  rintro e w6 ⟨c, rfl, hca, hb6⟩
                  refine ⟨_, rfl, ?_⟩
                  replace hS := hS.trans (hb6.mono hS.size)
                  replace hBx := hBx.below hb6
                  clear hah hb6
                  (try simp only [Act.put, Z1, Z2, Z3, Z4, Z5, Z6])
                  cases c with
                  | true =>
                    have hT2 : Hid (P.Fd (P.qC (his R) k) (m + 1) c1 c3) := hT.out.miss fun e => e.2 (hca.1 rfl)
                    clear hT hcd hca
                    iterate 2
                      refine no_implicit_lambda% (wpl_val ?_ rfl ?_ ?_)
                      rotate_left
                      · (go_simp; (try with_reducible rfl))
                      (try simp only [Act.put, Z1, Z2, Z3, Z4, Z5, Z6])
                    refine no_implicit_lambda% (wpList_nil ?_)
                    go_wp2_with fail
                    go_roundw
                    case rel => exact ⟨m + 1, c3, by go_num, rfl, by omega, hS, hBx, hT2⟩
                    case measure => simp [intOf]; omega
                  | false =>
                    have hT2 : Hid (P.Fd (P.qC (his R) k) (m + 1) c1 true) := P.Fd.hit ⟨hcd.1 rfl, fun e => by have := hca.2 e; cases this⟩
                    clear hT hcd hca
                    iterate 2
                      refine no_implicit_lambda% (wpl_val ?_ rfl ?_ ?_)
                      rotate_left
                      · (go_simp; (try with_reducible rfl))
                      (try simp only [Act.put, Z1, Z2, Z3, Z4, Z5, Z6])
                    refine no_implicit_lambda% (wpList_nil ?_)
                    go_upto_region 24 with (fail)
                    refine no_implicit_lambda% (wp_region_lit ?_)
                    refine no_implicit_lambda% (wpl_val ?_ rfl ?_ ?_)
                    rotate_left
                    · (go_simp; (try with_reducible rfl))
                    (try simp only [Act.put, Z1, Z2, Z4, Z5, Z6])
                    refine wpl_val (.int .u8 (P.ob a1 b2 true d1)) rfl (run_or rfl rfl (or4 _ _ _ _)) ?_
                    (try simp only [Act.put, Z1, Z2, Z3, Z4, Z5, Z6])
                    refine no_implicit_lambda% (wpl_val ?_ rfl ?_ ?_)
                    rotate_left
                    · (go_simp; (try with_reducible rfl))
                    (try simp only [Act.put, Z1, Z2, Z3, Z4, Z5, Z6])
                    refine no_implicit_lambda% (wpList_nil ?_)
                    go_wp2_with fail
                    go_roundw
                    case rel => exact ⟨m + 1, true, by go_num, rfl, by omega, hS, hBx, hT2⟩
                    case measure => simp [intOf]; omega
              · obtain rfl : m = R.length := by omega
                have hFc : Hid (P.Fd (P.pC (his R)) (k + 1) false c3) := hF.out.fc.row hT.out (by rw [← his_length R]; exact P.pC_iff)
                clear hT hlm
                cases hd : x.1.done with
                | false =>
                  have cd : wr.cell? ⟨bx, 2, none⟩ = some (.bool false) := by rw [hBx.cell, ← hd]; rfl
                  have hF2 : Hid (P.F4 (his R) (k + 1) a1 b2 c3 d1) := ⟨hF.out.fa.miss (P.pA_not hxh.out hd), hFb.out, hFc.out, hF.out.fd.miss (P.pD_not hxh.out hd)⟩
                  clear hF hFb hFc hd
                  go_upto_region 26 with (fail)
                  refine no_implicit_lambda% (wp_region_lit ?_)
                  refine no_implicit_lambda% (wpl_val ?_ rfl ?_ ?_)
                  rotate_left
                  · (go_simp; (try with_reducible rfl))
                  (try simp only [Act.put, Z1, Z2, Z4, Z5, Z6])
                  refine no_implicit_lambda% (wpl_val ?_ rfl ?_ ?_)
                  rotate_left
                  · (have c0 := cd; go_simp; (try with_reducible rfl))
                  (try simp only [Act.put, Z1, Z2, Z3, Z4, Z5, Z6])
                  refine no_implicit_lambda% (wpl_val ?_ rfl ?_ ?_)
                  rotate_left
                  · (go_simp; (try with_reducible rfl))
                  (try simp only [Act.put, Z1, Z2, Z3, Z4, Z5, Z6])
                  refine no_implicit_lambda% (wpList_nil ?_)
                  clear cd hBx
                  go_wp2_with fail
                  go_roundw
                  case rel => exact ⟨k + 1, a1, b2, c3, d1, by go_num, rfl, by omega, hS, hF2⟩
                  case measure => simp [intOf]; omega
                | true =>
                  have cd : wr.cell? ⟨bx, 2, none⟩ = some (.bool true) := by rw [hBx.cell, ← hd]; rfl
                  replace hd := Lib.hid hd
                  go_upto_region 26 with (fail)
                  refine no_implicit_lambda% (wp_region_lit ?_)
                  refine no_implicit_lambda% (wpl_val ?_ rfl ?_ ?_)
                  rotate_left
                  · (go_simp; (try with_reducible rfl))
                  (try simp only [Act.put, Z1, Z2, Z4, Z5, Z6])
                  refine no_implicit_lambda% (wpl_val ?_ rfl ?_ ?_)
                  rotate_left
                  · (have c0 := cd; go_simp; (try with_reducible rfl))
                  (try simp only [Act.put, Z1, Z2, Z3, Z4, Z5, Z6])
                  refine no_implicit_lambda% (wpl_val ?_ rfl ?_ ?_)
                  rotate_left
                  · (go_simp; (try with_reducible rfl))
                  (try simp only [Act.put, Z1, Z2, Z3, Z4, Z5, Z6])
                  refine no_implicit_lambda% (wpList_nil ?_)
                  clear cd
                  obtain ⟨aor, capr, hrv, _, hrr⟩ := (hH.out.sub x hmem.out).rd
                  have cr : wr.cell? ⟨bx, 3, none⟩ = some (.slice aor x.1.reads.length capr) := by rw [hBx.cell, ← hrv]; rfl
                  have hokx := Lib.hid (hH.out.sub x hmem.out).ok
                  have hrl := hokx.out.rl
                  replace hrr := Lib.hid hrr
                  clear hrv
                  go_upto_region 27 with (fail)
                  refine no_implicit_lambda% (wp_region_lit ?_)
                  refine no_implicit_lambda% (wpl_val ?_ rfl ?_ ?_)
                  rotate_left
                  · (go_simp; (try with_reducible rfl))
                  (try simp only [Act.put, Z1, Z2, Z4, Z5, Z6])
                  refine no_implicit_lambda% (wpl_val ?_ rfl ?_ ?_)
                  rotate_left
                  · (have c0 := cr; go_simp; (try with_reducible rfl))
                  (try simp only [Act.put, Z1, Z2, Z3, Z4, Z5, Z6])
                  refine no_implicit_lambda% (wpl_val ?_ rfl ?_ ?_)
                  rotate_left
                  · (go_simp; (try with_reducible rfl))
                  (try simp only [Act.put, Z1, Z2, Z3, Z4, Z5, Z6])
                  refine no_implicit_lambda% (wpl_val ?_ rfl ?_ ?_)
                  rotate_left
                  · (go_simp; (try with_reducible rfl))
                  (try simp only [Act.put, Z1, Z2, Z3, Z4, Z5, Z6])
                  refine no_implicit_lambda% (wpList_nil ?_)
                  clear cr
                  replace hS := Lib.hid (And.intro hS hBx)
                  clear hBx
                  go_wp2_with fail
                  go_loopw [103, 8] (fun i o wr => ∃ (m : Nat) (a3 d3 : Bool), i = .int .i64 m ∧ o = .int .u8 (P.ob a3 b2 c3 d3) ∧ m ≤ x.1.reads.length ∧ Below w.heap.size w wr ∧ Blk wr bx (pcA x) 36 ∧ Hid (P.Fd (P.rA (his R) x.1) m a1 a3) ∧ Hid (P.Fd (P.rD (his R) k x.1) m d1 d3)) (fun i _ _ => x.1.reads.length - (intOf i).toNat)
                  case atStart => exact ⟨0, a1, d1, rfl, rfl, Nat.zero_le _, hS.out.1, hS.out.2, P.Fd.start _ _, P.Fd.start _ _⟩
                  case round =>
                    clear hS hm
                    obtain ⟨m, a3, d3, rfl, rfl, hm, hS, hBx, hTa, hTd⟩ := hrel
                    by_cases hlm : m < x.1.reads.length
                    · have hlm' : (m : Int) < (x.1.reads.length : Int) := by omega
                      obtain ⟨v, hv⟩ : ∃ v, x.1.reads[m]? = some v := ⟨_, List.getElem?_eq_getElem hlm⟩
                      obtain ⟨br, or_, rfl, hbl2, hr2⟩ := (hrr.out.below hS) m v hv
                      have hv0 : 0 ≤ v.2 := (hokx.out.reads v (List.mem_of_getElem? hv)).2.le
                      replace hv0 := Lib.hid hv0
                      replace hr2 := Lib.hid hr2
                      replace hv := Lib.hid hv
                      go_upto_region 29 with (fail)
                      refine no_implicit_lambda% (wp_region_lit ?_)
                      refine no_implicit_lambda% (wpl_val ?_ rfl ?_ ?_)
                      rotate_left
                      · (go_simp; (try with_reducible rfl))
                      (try simp only [Act.put, Z1, Z2, Z4, Z5, Z6])
                      refine wpList_load_mid rfl 43 _ rfl br (or_ + m * 2) rfl (seC v) _ hr2.out Try.underlying43 rfl zero43.2 ?_
                      (try simp only [Act.put, Z1, Z2, Z3, Z4, Z5, Z6])
                      refine wpl_alloc 43 #[.int .u16 0, .int .u32 0] rfl rfl hz43 ?_
                      (try simp only [Act.put, Z1, Z2, Z3, Z4, Z5, Z6])
                      refine wpList_store_fr rfl 43 _ _ rfl wr.heap.size #[.int .u16 v.1, .int .u32 v.2] rfl rfl 43 _ (Blk.alloc_new _ _ _) zero43.2 rfl (by simp [Value.oneCell']) ?_
                      intro w9 hB9 hF9
                      (try simp only [Act.put, Z1, Z2, Z3, Z4, Z5, Z6])
                      refine no_implicit_lambda% (wpList_nil ?_)
                      have hb9 := box_below hF9
                      replace hS := hS.trans (hb9.mono hS.size)
                      replace hBx := hBx.below hb9
                      clear hF9 hr2 hbl2 hb9
                      generalize wr.heap.size = bv at *
                      go_upto_region 30 with (fail)
                      refine no_implicit_lambda% (wp_region_lit ?_)
                      refine no_implicit_lambda% (wpl_val ?_ rfl ?_ ?_)
                      rotate_left
                      · (go_simp; (try with_reducible rfl))
                      (try simp only [Act.put, Z1, Z2, Z4, Z5, Z6])
                      refine no_implicit_lambda% (wpl_val ?_ rfl ?_ ?_)
                      rotate_left
                      · (have c0 := (show w9.cell? ⟨bv, 1, none⟩ = some (.int .u32 v.2) by rw [hB9.cell]; rfl); go_simp; (try with_reducible rfl))
                      (try simp only [Act.put, Z1, Z2, Z3, Z4, Z5, Z6])
                      iterate 2
                        refine no_implicit_lambda% (wpl_val ?_ rfl ?_ ?_)
                        rotate_left
                        · (go_simp; (try with_reducible rfl))
                        (try simp only [Act.put, Z1, Z2, Z3, Z4, Z5, Z6])
                      refine no_implicit_lambda% (wpList_nil ?_)
                      go_upto_region 31 with (fail)
                      refine no_implicit_lambda% (wp_region_lit ?_)
                      refine no_implicit_lambda% (wpl_val ?_ rfl ?_ ?_)
                      rotate_left
                      · (go_simp; (try with_reducible rfl))
                      (try simp only [Act.put, Z1, Z2, Z4, Z5, Z6])
                      refine no_implicit_lambda% (wpl_val ?_ rfl ?_ ?_)
                      rotate_left
                      · (go_simp; (try with_reducible rfl))
                      (try simp only [Act.put, Z1, Z2, Z3, Z4, Z5, Z6])
                      refine no_implicit_lambda% (wpl_val ?_ rfl ?_ ?_)
                      rotate_left
                      · (go_simp; (try with_reducible rfl))
                      (try simp only [Act.put, Z1, Z2, Z3, Z4, Z5, Z6])
                      refine no_implicit_lambda% (wpList_nil ?_)
                      replace hS := Lib.hid (And.intro hS (And.intro hBx hB9))
                      clear hBx hB9
                      have hth0 : Hid (P.Fd (P.by_ (his R) v.1 v.2) 0 (v.2 == 0) (v.2 == 0)) := P.Fd.start _ _
                      go_wp2_with fail
                      go_loopw [112, 15, 8] (fun i t o wr => ∃ (j : Nat) (th d4 : Bool), i = .int .i64 j ∧ t = .bool th ∧ o = .int .u8 (P.ob a3 b2 c3 d4) ∧ j ≤ R.length ∧ Below w.heap.size w wr ∧ Blk wr bx (pcA x) 36 ∧ Blk wr bv #[.int .u16 v.1, .int .u32 v.2] 43 ∧ Hid (P.Fd (P.by_ (his R) v.1 v.2) j (v.2 == 0) th) ∧ Hid (P.Fd (P.vD (his R) k v) j d3 d4)) (fun i _ _ _ => R.length - (intOf i).toNat)
                      case atStart => exact ⟨0, _, d3, rfl, rfl, rfl, Nat.zero_le _, hS.out.1, hS.out.2.1, hS.out.2.2, hth0, P.Fd.start _ _⟩
                      case round =>
                        clear hS hth0
                        obtain ⟨j, th, d4, rfl, rfl, rfl, hj, hS, hBx, hBv, hT, hD⟩ := hrel
                        by_cases hlj : j < R.length
                        · have hlj' : (j : Int) < (R.length : Int) := by omega
                          obtain ⟨y, hy⟩ : ∃ y, R[j]? = some y := ⟨_, List.getElem?_eq_getElem hlj⟩
                          have hHr := hH.out.below hS
                          obtain ⟨hbl, hr⟩ := hHr.row.at' hy
                          replace hr := Lib.hid hr
                          have hone := Lib.hid (hHr.sub y (List.mem_of_getElem? hy)).one
                          replace hy := Lib.hid hy
                          clear hHr
                          go_upto_region 33 with (fail)
                          refine no_implicit_lambda% (wp_region_lit ?_)
                          iterate 2
                            refine no_implicit_lambda% (wpl_val ?_ rfl ?_ ?_)
                            rotate_left
                            · (go_simp; (try with_reducible rfl))
                            (try simp only [Act.put, Z1, Z2, Z3, Z4, Z5, Z6])
                          refine wpList_load_mid rfl 36 _ rfl b (o + j * 5) rfl (pcL y) _ hr.out Try.underlying36 rfl (size36' y) ?_
                          (try simp only [Act.put, Z1, Z2, Z3, Z4, Z5, Z6])
                          refine wpl_alloc 36 (pcA noR) rfl rfl hz36 ?_
                          (try simp only [Act.put, Z1, Z2, Z3, Z4, Z5, Z6])
                          refine no_implicit_lambda% (wpl_val ?_ rfl ?_ ?_)
                          rotate_left
                          · (go_simp; (try with_reducible rfl))
                          (try simp only [Act.put, Z1, Z2, Z3, Z4, Z5, Z6])
                          refine wpList_store_fr rfl 36 _ _ rfl wr.heap.size (pcA y) rfl rfl 36 _ (Blk.alloc_new _ _ _) (size36 y) rfl hone.out ?_
                          intro w9 hB9 hF9
                          (try simp only [Act.put, Z1, Z2, Z3, Z4, Z5, Z6])
                          refine no_implicit_lambda% (wpList_nil ?_)
                          have hb9 := box_below hF9
                          clear hF9
                          replace hS := hS.trans (hb9.mono hS.size)
                          replace hBx := hBx.below hb9
                          replace hBv := hBv.below hb9
                          clear hb9 hr hbl hone
                          generalize wr.heap.size = by_ at *
                          go_upto_region 34 with (fail)
                          go_cut [15] (fun t wx => ∃ th2 : Bool, t = .bool th2 ∧ Below w.heap.size w wx ∧ Blk wx bx (pcA x) 36 ∧ Blk wx bv #[.int .u16 v.1, .int .u32 v.2] 43 ∧ Hid (P.Fd (P.by_ (his R) v.1 v.2) (j + 1) (v.2 == 0) th2))
                          case first =>
                            clear hD
                            cases th with
                            | true =>
                              have hT2 : Hid (P.Fd (P.by_ (his R) v.1 v.2) (j + 1) (v.2 == 0) true) := hT.out.keep
                              clear hT hB9
                              refine no_implicit_lambda% (wp_region_lit ?_)
                              iterate 2
                                refine no_implicit_lambda% (wpl_val ?_ rfl ?_ ?_)
                                rotate_left
                                · (go_simp; (try with_reducible rfl))
                                (try simp only [Act.put, Z1, Z2, Z3, Z4, Z5, Z6])
                              iterate 11
                                refine no_implicit_lambda% (wpl_skip rfl ?_)
                                (try simp only [Act.put, Z1, Z2, Z3, Z4, Z5, Z6])
                              iterate 2
                                refine no_implicit_lambda% (wpl_val ?_ rfl ?_ ?_)
                                rotate_left
                                · (go_simp; (try with_reducible rfl))
                                (try simp only [Act.put, Z1, Z2, Z3, Z4, Z5, Z6])
                              refine no_implicit_lambda% (wpList_nil ?_)
                              go_wp2_with fail
                              go_meet
                              case rel => exact ⟨true, rfl, hS, hBx, hBv, hT2⟩
                            | false =>
                              refine no_implicit_lambda% (wp_region_lit ?_)
                              iterate 2
                                refine no_implicit_lambda% (wpl_val ?_ rfl ?_ ?_)
                                rotate_left
                                · (go_simp; (try with_reducible rfl))
                                (try simp only [Act.put, Z1, Z2, Z3, Z4, Z5, Z6])
                              refine wpl_val (.agg (pcA y)) rfl (run_load_cs rfl rfl hB9 Try.underlying36 rfl (size36 y)) ?_
                              (try simp only [Act.put, Z1, Z2, Z3, Z4, Z5, Z6])
                              refine no_implicit_lambda% (wpl_val ?_ rfl ?_ ?_)
                              rotate_left
                              · (go_simp; (try with_reducible rfl))
                              (try simp only [Act.put, Z1, Z2, Z3, Z4, Z5, Z6])
                              refine no_implicit_lambda% (wpl_val ?_ rfl ?_ ?_)
                              rotate_left
                              · (have c0 := (show w9.cell? ⟨bv, 0, none⟩ = some (.int .u16 v.1) by rw [hBv.cell]; rfl); go_simp; (try with_reducible rfl))
                              (try simp only [Act.put, Z1, Z2, Z3, Z4, Z5, Z6])
                              have hcx := wrote_any y v.1 w9 ((hH.out.below hS).sub y (List.mem_of_getElem? hy.out))
                              refine wpl_call _ _ rfl (by go_simp) _ hcx ?_
                              rintro e w5 ⟨rfl, hb5⟩
                              refine ⟨_, rfl, ?_⟩
                              replace hS := hS.trans (hb5.mono hS.size)
                              replace hBx := hBx.below hb5
                              replace hBv := hBv.below hb5
                              replace hB9 := hB9.below hb5
                              clear hcx hb5
                              clear w9
                              (try simp only [Act.put, Z1, Z2, Z3, Z4, Z5, Z6])
                              cases hwx : wroB y.1 v.1 with
                              | false =>
                                have hT2 : Hid (P.Fd (P.by_ (his R) v.1 v.2) (j + 1) (v.2 == 0) false) := hT.out.miss fun e => by
                                  obtain ⟨z, h1, h2, _⟩ := by_wro e
                                  rw [hy.out] at h1
                                  obtain rfl := Option.some.inj h1
                                  rw [hwx] at h2; cases h2
                                clear hT hwx
                                refine no_implicit_lambda% (wpl_val ?_ rfl ?_ ?_)
                                rotate_left
                                · (go_simp; (try with_reducible rfl))
                                (try simp only [Act.put, Z1, Z2, Z3, Z4, Z5, Z6])
                                iterate 5
                                  refine no_implicit_lambda% (wpl_skip rfl ?_)
                                  (try simp only [Act.put, Z1, Z2, Z3, Z4, Z5, Z6])
                                iterate 3
                                  refine no_implicit_lambda% (wpl_val ?_ rfl ?_ ?_)
                                  rotate_left
                                  · (go_simp; (try with_reducible rfl))
                                  (try simp only [Act.put, Z1, Z2, Z3, Z4, Z5, Z6])
                                refine no_implicit_lambda% (wpList_nil ?_)
                                go_wp2_with fail
                                go_meet
                                case rel => exact ⟨false, rfl, hS, hBx, hBv, hT2⟩
                              | true =>
                                by_cases he : y.1.commit = v.2
                                · have he' : (y.1.commit == v.2) = true := by simp [he]
                                  have hT2 : Hid (P.Fd (P.by_ (his R) v.1 v.2) (j + 1) (v.2 == 0) true) := P.Fd.hit (he ▸ wro_by hy.out hwx)
                                  replace he := Lib.hid he
                                  clear hT hwx
                                  iterate 2
                                    refine no_implicit_lambda% (wpl_val ?_ rfl ?_ ?_)
                                    rotate_left
                                    · (go_simp; (try with_reducible rfl))
                                    (try simp only [Act.put, Z1, Z2, Z3, Z4, Z5, Z6])
                                  refine no_implicit_lambda% (wpl_val ?_ rfl ?_ ?_)
                                  rotate_left
                                  · (have c0 := (show w5.cell? ⟨by_, 1, none⟩ = some (.int .u32 y.1.commit) by rw [hB9.cell]; rfl); go_simp; (try with_reducible rfl))
                                  (try simp only [Act.put, Z1, Z2, Z3, Z4, Z5, Z6])
                                  refine no_implicit_lambda% (wpl_val ?_ rfl ?_ ?_)
                                  rotate_left
                                  · (go_simp; (try with_reducible rfl))
                                  (try simp only [Act.put, Z1, Z2, Z3, Z4, Z5, Z6])
                                  refine no_implicit_lambda% (wpl_val ?_ rfl ?_ ?_)
                                  rotate_left
                                  · (have c0 := (show w5.cell? ⟨bv, 1, none⟩ = some (.int .u32 v.2) by rw [hBv.cell]; rfl); go_simp; (try with_reducible rfl))
                                  (try simp only [Act.put, Z1, Z2, Z3, Z4, Z5, Z6])
                                  iterate 4
                                    refine no_implicit_lambda% (wpl_val ?_ rfl ?_ ?_)
                                    rotate_left
                                    · (go_simp; (try with_reducible rfl))
                                    (try simp only [Act.put, Z1, Z2, Z3, Z4, Z5, Z6])
                                  refine no_implicit_lambda% (wpList_nil ?_)
                                  go_wp2_with fail
                                  go_meet
                                  case rel => exact ⟨true, rfl, hS, hBx, hBv, hT2⟩
                                · have he' : (y.1.commit == v.2) = false := by simp [he]
                                  have hT2 : Hid (P.Fd (P.by_ (his R) v.1 v.2) (j + 1) (v.2 == 0) false) := hT.out.miss fun e => by
                                    obtain ⟨z, h1, _, h2⟩ := by_wro e
                                    rw [hy.out] at h1
                                    obtain rfl := Option.some.inj h1
                                    exact he h2
                                  replace he := Lib.hid he
                                  clear hT hwx
                                  iterate 2
                                    refine no_implicit_lambda% (wpl_val ?_ rfl ?_ ?_)
                                    rotate_left
                                    · (go_simp; (try with_reducible rfl))
                                    (try simp only [Act.put, Z1, Z2, Z3, Z4, Z5, Z6])
                                  refine no_implicit_lambda% (wpl_val ?_ rfl ?_ ?_)
                                  rotate_left
                                  · (have c0 := (show w5.cell? ⟨by_, 1, none⟩ = some (.int .u32 y.1.commit) by rw [hB9.cell]; rfl); go_simp; (try with_reducible rfl))
                                  (try simp only [Act.put, Z1, Z2, Z3, Z4, Z5, Z6])
                                  refine no_implicit_lambda% (wpl_val ?_ rfl ?_ ?_)
                                  rotate_left
                                  · (go_simp; (try with_reducible rfl))
                                  (try simp only [Act.put, Z1, Z2, Z3, Z4, Z5, Z6])
                                  refine no_implicit_lambda% (wpl_val ?_ rfl ?_ ?_)
                                  rotate_left
                                  · (have c0 := (show w5.cell? ⟨bv, 1, none⟩ = some (.int .u32 v.2) by rw [hBv.cell]; rfl); go_simp; (try with_reducible rfl))
                                  (try simp only [Act.put, Z1, Z2, Z3, Z4, Z5, Z6])
                                  iterate 4
                                    refine no_implicit_lambda% (wpl_val ?_ rfl ?_ ?_)
                                    rotate_left
                                    · (go_simp; (try with_reducible rfl))
                                    (try simp only [Act.put, Z1, Z2, Z3, Z4, Z5, Z6])
                                  refine no_implicit_lambda% (wpList_nil ?_)
                                  go_wp2_with fail
                                  go_meet
                                  case rel => exact ⟨false, rfl, hS, hBx, hBv, hT2⟩
                          case rest =>
                            clear hS hBx hBv hB9 hT hy
                            obtain ⟨th2, rfl, hS, hBx, hBv, hT⟩ := hcut
                            by_cases hkj : k = j
                            · have hkj' : ((j : Int) != (k : Int)) = false := by simp [hkj]
                              have hD2 : Hid (P.Fd (P.vD (his R) k v) (j + 1) d3 d4) := hD.out.miss fun e => e.1 hkj
                              clear hD hkj
                              go_upto_region 35 with (fail)
                              refine no_implicit_lambda% (wp_region_lit ?_)
                              iterate 4
                                refine no_implicit_lambda% (wpl_val ?_ rfl ?_ ?_)
                                rotate_left
                                · (go_simp; (try with_reducible rfl))
                                (try simp only [Act.put, Z1, Z2, Z3, Z4, Z5, Z6])
                              iterate 7
                                refine no_implicit_lambda% (wpl_skip rfl ?_)
                                (try simp only [Act.put, Z1, Z2, Z3, Z4, Z5, Z6])
                              refine no_implicit_lambda% (wpl_val ?_ rfl ?_ ?_)
                              rotate_left
                              · (go_simp; (try with_reducible rfl))
                              (try simp only [Act.put, Z1, Z2, Z3, Z4, Z5, Z6])
                              refine no_implicit_lambda% (wpList_nil ?_)
                              go_wp2_with fail
                              go_roundw
                              case rel => exact ⟨j + 1, th2, d4, by go_num, rfl, rfl, by omega, hS, hBx, hBv, hT, hD2⟩
                              case measure => simp [intOf]; omega
                            · have hkj' : ((j : Int) != (k : Int)) = true := by simp; omega
                              have hfo := follows_any (cap := cap) (hH.out.below hS) hR v.1 v.2 hlj
                              replace hkj := Lib.hid hkj
                              go_upto_region 35 with (fail)
                              refine no_implicit_lambda% (wp_region_lit ?_)
                              iterate 6
                                refine no_implicit_lambda% (wpl_val ?_ rfl ?_ ?_)
                                rotate_left
                                · (go_simp; (try with_reducible rfl))
                                (try simp only [Act.put, Z1, Z2, Z3, Z4, Z5, Z6])
                              refine no_implicit_lambda% (wpl_val ?_ rfl ?_ ?_)
                              rotate_left
                              · (have c0 := (show wc.cell? ⟨bv, 0, none⟩ = some (.int .u16 v.1) by rw [hBv.cell]; rfl); go_simp; (try with_reducible rfl))
                              (try simp only [Act.put, Z1, Z2, Z3, Z4, Z5, Z6])
                              refine no_implicit_lambda% (wpl_val ?_ rfl ?_ ?_)
                              rotate_left
                              · (go_simp; (try with_reducible rfl))
                              (try simp only [Act.put, Z1, Z2, Z3, Z4, Z5, Z6])
                              refine no_implicit_lambda% (wpl_val ?_ rfl ?_ ?_)
                              rotate_left
                              · (have c0 := (show wc.cell? ⟨bv, 1, none⟩ = some (.int .u32 v.2) by rw [hBv.cell]; rfl); go_simp; (try with_reducible rfl))
                              (try simp only [Act.put, Z1, Z2, Z3, Z4, Z5, Z6])
                              refine no_implicit_lambda% (wpl_val ?_ rfl ?_ ?_)
                              rotate_left
                              · (go_simp; (try with_reducible rfl))
                              (try simp only [Act.put, Z1, Z2, Z3, Z4, Z5, Z6])
                              refine wpl_call _ _ rfl (by go_simp) _ hfo ?_
                              rintro e w5 ⟨c, rfl, hcf, hb5⟩
                              refine ⟨_, rfl, ?_⟩
                              replace hS := hS.trans (hb5.mono hS.size)
                              replace hBx := hBx.below hb5
                              replace hBv := hBv.below hb5
                              clear hfo hb5
                              clear wc
                              (try simp only [Act.put, Z1, Z2, Z3, Z4, Z5, Z6])
                              cases c with
                              | false =>
                                have hD2 : Hid (P.Fd (P.vD (his R) k v) (j + 1) d3 d4) := hD.out.miss fun e => by have := hcf.2 e.2.1; cases this
                                clear hD hkj hcf
                                refine no_implicit_lambda% (wpl_val ?_ rfl ?_ ?_)
                                rotate_left
                                · (go_simp; (try with_reducible rfl))
                                (try simp only [Act.put, Z1, Z2, Z3, Z4, Z5, Z6])
                                refine no_implicit_lambda% (wpList_nil ?_)
                                go_wp2_with fail
                                go_roundw
                                case rel => exact ⟨j + 1, th2, d4, by go_num, rfl, rfl, by omega, hS, hBx, hBv, hT, hD2⟩
                                case measure => simp [intOf]; omega
                              | true =>
                                have hnx := Lib.hid (hcf.1 rfl)
                                clear hcf
                                refine no_implicit_lambda% (wpl_val ?_ rfl ?_ ?_)
                                rotate_left
                                · (go_simp; (try with_reducible rfl))
                                (try simp only [Act.put, Z1, Z2, Z3, Z4, Z5, Z6])
                                refine no_implicit_lambda% (wpList_nil ?_)
                                have hre := reach_any (cap := cap) (hH.out.below hS) hR hlj true
                                go_upto_region 36 with (fail)
                                refine no_implicit_lambda% (wp_region_lit ?_)
                                iterate 2
                                  refine no_implicit_lambda% (wpl_val ?_ rfl ?_ ?_)
                                  rotate_left
                                  · (go_simp; (try with_reducible rfl))
                                  (try simp only [Act.put, Z1, Z2, Z3, Z4, Z5, Z6])
                                refine wpl_call _ _ rfl (by go_simp) _ hre ?_
                                rintro e w6 ⟨g2, s, rfl, hg, hSA, hsl, hsp, hb6⟩
                                refine ⟨_, rfl, ?_⟩
                                replace hS := hS.trans (hb6.mono hS.size)
                                replace hBx := hBx.below hb6
                                replace hBv := hBv.below hb6
                                clear hre hg hb6
                                clear w5
                                (try simp only [Act.put, Z1, Z2, Z3, Z4, Z5, Z6])
                                refine no_implicit_lambda% (wpl_val ?_ rfl ?_ ?_)
                                rotate_left
                                · (go_simp; (try with_reducible rfl))
                                (try simp only [Act.put, Z1, Z2, Z3, Z4, Z5, Z6])
                                refine no_implicit_lambda% (wpList_nil ?_)
                                obtain ⟨c2, hc2⟩ : ∃ c, s[k]? = some c := ⟨_, List.getElem?_eq_getElem (by rw [hsl]; exact hlt)⟩
                                have hcs := hSA.get hc2
                                have hpb : Hid (c2 = true ↔ P.Path (fun x y => P.sta (his R) x y ∨ P.dep (his R) x y) j k) := by
                                  have h1 := (hsp k).trans P.rrel_all
                                  rw [hc2] at h1
                                  exact Iff.trans (by simp) h1
                                clear hsp hSA hsl hc2
                                cases c2 with
                                | false =>
                                  have hD2 : Hid (P.Fd (P.vD (his R) k v) (j + 1) d3 d4) := hD.out.miss fun e => by have := hpb.out.2 e.2.2.1; cases this
                                  clear hD hkj hnx hpb
                                  go_upto_region 37 with (fail)
                                  refine no_implicit_lambda% (wp_region_lit ?_)
                                  iterate 3
                                    refine no_implicit_lambda% (wpl_val ?_ rfl ?_ ?_)
                                    rotate_left
                                    · (go_simp; (try with_reducible rfl))
                                    (try simp only [Act.put, Z1, Z2, Z3, Z4, Z5, Z6])
                                  refine no_implicit_lambda% (wpl_val ?_ rfl ?_ ?_)
                                  rotate_left
                                  · (have c0 := hcs; go_simp; (try with_reducible rfl))
                                  (try simp only [Act.put, Z1, Z2, Z3, Z4, Z5, Z6])
                                  refine no_implicit_lambda% (wpl_val ?_ rfl ?_ ?_)
                                  rotate_left
                                  · (go_simp; (try with_reducible rfl))
                                  (try simp only [Act.put, Z1, Z2, Z3, Z4, Z5, Z6])
                                  iterate 8
                                    refine no_implicit_lambda% (wpl_skip rfl ?_)
                                    (try simp only [Act.put, Z1, Z2, Z3, Z4, Z5, Z6])
                                  refine no_implicit_lambda% (wpl_val ?_ rfl ?_ ?_)
                                  rotate_left
                                  · (go_simp; (try with_reducible rfl))
                                  (try simp only [Act.put, Z1, Z2, Z3, Z4, Z5, Z6])
                                  refine no_implicit_lambda% (wpList_nil ?_)
                                  clear hcs
                                  go_wp2_with fail
                                  go_roundw
                                  case rel => exact ⟨j + 1, th2, d4, by go_num, rfl, rfl, by omega, hS, hBx, hBv, hT, hD2⟩
                                  case measure => simp [intOf]; omega
                                | true =>
                                  by_cases hz : v.2 = 0
                                  · have hz' : (v.2 == 0) = true := by simp [hz]
                                    have hD2 : Hid (P.Fd (P.vD (his R) k v) (j + 1) d3 true) := P.Fd.hit ⟨hkj.out, hnx.out, hpb.out.1 rfl, .inr (by omega)⟩
                                    replace hz := Lib.hid hz
                                    clear hD hkj hnx hpb
                                    go_upto_region 37 with (fail)
                                    refine no_implicit_lambda% (wp_region_lit ?_)
                                    iterate 3
                                      refine no_implicit_lambda% (wpl_val ?_ rfl ?_ ?_)
                                      rotate_left
                                      · (go_simp; (try with_reducible rfl))
                                      (try simp only [Act.put, Z1, Z2, Z3, Z4, Z5, Z6])
                                    refine no_implicit_lambda% (wpl_val ?_ rfl ?_ ?_)
                                    rotate_left
                                    · (have c0 := hcs; go_simp; (try with_reducible rfl))
                                    (try simp only [Act.put, Z1, Z2, Z3, Z4, Z5, Z6])
                                    iterate 2
                                      refine no_implicit_lambda% (wpl_val ?_ rfl ?_ ?_)
                                      rotate_left
                                      · (go_simp; (try with_reducible rfl))
                                      (try simp only [Act.put, Z1, Z2, Z3, Z4, Z5, Z6])
                                    refine no_implicit_lambda% (wpl_val ?_ rfl ?_ ?_)
                                    rotate_left
                                    · (have c0 := (show w6.cell? ⟨bv, 1, none⟩ = some (.int .u32 v.2) by rw [hBv.cell]; rfl); go_simp; (try with_reducible rfl))
                                    (try simp only [Act.put, Z1, Z2, Z3, Z4, Z5, Z6])
                                    iterate 2
                                      refine no_implicit_lambda% (wpl_val ?_ rfl ?_ ?_)
                                      rotate_left
                                      · (go_simp; (try with_reducible rfl))
                                      (try simp only [Act.put, Z1, Z2, Z3, Z4, Z5, Z6])
                                    iterate 3
                                      refine no_implicit_lambda% (wpl_skip rfl ?_)
                                      (try simp only [Act.put, Z1, Z2, Z3, Z4, Z5, Z6])
                                    iterate 2
                                      refine no_implicit_lambda% (wpl_val ?_ rfl ?_ ?_)
                                      rotate_left
                                      · (go_simp; (try with_reducible rfl))
                                      (try simp only [Act.put, Z1, Z2, Z3, Z4, Z5, Z6])
                                    refine no_implicit_lambda% (wpList_nil ?_)
                                    clear hcs hz'
                                    go_upto_region 38 with (fail)
                                    refine no_implicit_lambda% (wp_region_lit ?_)
                                    refine no_implicit_lambda% (wpl_val ?_ rfl ?_ ?_)
                                    rotate_left
                                    · (go_simp; (try with_reducible rfl))
                                    (try simp only [Act.put, Z1, Z2, Z4, Z5, Z6])
                                    refine wpl_val (.int .u8 (P.ob a3 b2 c3 true)) rfl (run_or rfl rfl (or8 _ _ _ _)) ?_
                                    (try simp only [Act.put, Z1, Z2, Z3, Z4, Z5, Z6])
                                    refine no_implicit_lambda% (wpl_val ?_ rfl ?_ ?_)
                                    rotate_left
                                    · (go_simp; (try with_reducible rfl))
                                    (try simp only [Act.put, Z1, Z2, Z3, Z4, Z5, Z6])
                                    refine no_implicit_lambda% (wpList_nil ?_)
                                    go_wp2_with fail
                                    go_roundw
                                    case rel => exact ⟨j + 1, th2, true, by go_num, rfl, rfl, by omega, hS, hBx, hBv, hT, hD2⟩
                                    case measure => simp [intOf]; omega
                                  · have hz' : (v.2 == 0) = false := by simp [hz]
                                    have hco := committed_any (cap := cap) (hH.out.below hS) hR v
                                    go_upto_region 37 with (fail)
                                    refine no_implicit_lambda% (wp_region_lit ?_)
                                    iterate 3
                                      refine no_implicit_lambda% (wpl_val ?_ rfl ?_ ?_)
                                      rotate_left
                                      · (go_simp; (try with_reducible rfl))
                                      (try simp only [Act.put, Z1, Z2, Z3, Z4, Z5, Z6])
                                    refine no_implicit_lambda% (wpl_val ?_ rfl ?_ ?_)
                                    rotate_left
                                    · (have c0 := hcs; go_simp; (try with_reducible rfl))
                                    (try simp only [Act.put, Z1, Z2, Z3, Z4, Z5, Z6])
                                    iterate 2
                                      refine no_implicit_lambda% (wpl_val ?_ rfl ?_ ?_)
                                      rotate_left
                                      · (go_simp; (try with_reducible rfl))
                                      (try simp only [Act.put, Z1, Z2, Z3, Z4, Z5, Z6])
                                    refine no_implicit_lambda% (wpl_val ?_ rfl ?_ ?_)
                                    rotate_left
                                    · (have c0 := (show w6.cell? ⟨bv, 1, none⟩ = some (.int .u32 v.2) by rw [hBv.cell]; rfl); go_simp; (try with_reducible rfl))
                                    (try simp only [Act.put, Z1, Z2, Z3, Z4, Z5, Z6])
                                    iterate 3
                                      refine no_implicit_lambda% (wpl_val ?_ rfl ?_ ?_)
                                      rotate_left
                                      · (go_simp; (try with_reducible rfl))
                                      (try simp only [Act.put, Z1, Z2, Z3, Z4, Z5, Z6])
                                    refine wpl_val (.agg #[.int .u16 v.1, .int .u32 v.2]) rfl (run_load_cs rfl rfl hBv Try.underlying43 rfl zero43.2) ?_
                                    (try simp only [Act.put, Z1, Z2, Z3, Z4, Z5, Z6])
                                    refine wpl_call _ _ rfl (by go_simp) _ hco ?_
                                    rintro e w7 ⟨c, rfl, hcc, hb7⟩
                                    refine ⟨_, rfl, ?_⟩
                                    replace hS := hS.trans (hb7.mono hS.size)
                                    replace hBx := hBx.below hb7
                                    replace hBv := hBv.below hb7
                                    clear hco hb7 hcs hz'
                                    (try simp only [Act.put, Z1, Z2, Z3, Z4, Z5, Z6])
                                    replace hz := Lib.hid hz
                                    cases c with
                                    | true =>
                                      have hD2 : Hid (P.Fd (P.vD (his R) k v) (j + 1) d3 true) := P.Fd.hit ⟨hkj.out, hnx.out, hpb.out.1 rfl, .inl (hcc.1 rfl)⟩
                                      clear hD hkj hnx hpb hcc
                                      iterate 2
                                        refine no_implicit_lambda% (wpl_val ?_ rfl ?_ ?_)
                                        rotate_left
                                        · (go_simp; (try with_reducible rfl))
                                        (try simp only [Act.put, Z1, Z2, Z3, Z4, Z5, Z6])
                                      refine no_implicit_lambda% (wpList_nil ?_)
                                      go_upto_region 38 with (fail)
                                      refine no_implicit_lambda% (wp_region_lit ?_)
                                      refine no_implicit_lambda% (wpl_val ?_ rfl ?_ ?_)
                                      rotate_left
                                      · (go_simp; (try with_reducible rfl))
                                      (try simp only [Act.put, Z1, Z2, Z4, Z5, Z6])
                                      refine wpl_val (.int .u8 (P.ob a3 b2 c3 true)) rfl (run_or rfl rfl (or8 _ _ _ _)) ?_
                                      (try simp only [Act.put, Z1, Z2, Z3, Z4, Z5, Z6])
                                      refine no_implicit_lambda% (wpl_val ?_ rfl ?_ ?_)
                                      rotate_left
                                      · (go_simp; (try with_reducible rfl))
                                      (try simp only [Act.put, Z1, Z2, Z3, Z4, Z5, Z6])
                                      refine no_implicit_lambda% (wpList_nil ?_)
                                      go_wp2_with fail
                                      go_roundw
                                      case rel => exact ⟨j + 1, th2, true, by go_num, rfl, rfl, by omega, hS, hBx, hBv, hT, hD2⟩
                                      case measure => simp [intOf]; omega
                                    | false =>
                                      have hD2 : Hid (P.Fd (P.vD (his R) k v) (j + 1) d3 d4) := hD.out.miss fun e => by
                                        have h1 := hv0.out
                                        have h2 := hz.out
                                        rcases e.2.2.2 with h3 | h3
                                        · have := hcc.2 h3; cases this
                                        · exact h2 (by omega)
                                      clear hD hkj hnx hpb hcc
                                      iterate 2
                                        refine no_implicit_lambda% (wpl_val ?_ rfl ?_ ?_)
                                        rotate_left
                                        · (go_simp; (try with_reducible rfl))
                                        (try simp only [Act.put, Z1, Z2, Z3, Z4, Z5, Z6])
                                      refine no_implicit_lambda% (wpList_nil ?_)
                                      go_wp2_with fail
                                      go_roundw
                                      case rel => exact ⟨j + 1, th2, d4, by go_num, rfl, rfl, by omega, hS, hBx, hBv, hT, hD2⟩
                                      case measure => simp [intOf]; omega
                        · obtain rfl : j = R.length := by omega
                          have hDr : Hid (P.Fd (P.rD (his R) k x.1) (m + 1) d1 d4) := hTd.out.row hD.out (by rw [← his_length R]; exact P.rD_iff hv.out)
                          have hth : Hid (th = false ↔ P.vA (his R) v) := P.there_iff hv0.out (by rw [his_length]; exact hT.out)
                          clear hD hT hlj hTd hBv
                          cases th with
                          | true =>
                            have hTa2 : Hid (P.Fd (P.rA (his R) x.1) (m + 1) a1 a3) := hTa.out.miss fun e => by have := hth.out.2 ((P.rA_iff hv.out).1 e); cases this
                            clear hTa hth
                            go_upto_region 40 with (fail)
                            refine no_implicit_lambda% (wp_region_lit ?_)
                            iterate 2
                              refine no_implicit_lambda% (wpl_val ?_ rfl ?_ ?_)
                              rotate_left
                              · (go_simp; (try with_reducible rfl))
                              (try simp only [Act.put, Z1, Z2, Z3, Z4, Z5, Z6])
                            refine no_implicit_lambda% (wpList_nil ?_)
                            go_wp2_with fail
                            go_roundw
                            case rel => exact ⟨m + 1, a3, d4, by go_num, rfl, by omega, hS, hBx, hTa2, hDr⟩
                            case measure => simp [intOf]; omega
                          | false =>
                            have hTa2 : Hid (P.Fd (P.rA (his R) x.1) (m + 1) a1 true) := P.Fd.hit ((P.rA_iff hv.out).2 (hth.out.1 rfl))
                            clear hTa hth
                            go_upto_region 40 with (fail)
                            refine no_implicit_lambda% (wp_region_lit ?_)
                            iterate 2
                              refine no_implicit_lambda% (wpl_val ?_ rfl ?_ ?_)
                              rotate_left
                              · (go_simp; (try with_reducible rfl))
                              (try simp only [Act.put, Z1, Z2, Z3, Z4, Z5, Z6])
                            refine no_implicit_lambda% (wpList_nil ?_)
                            go_upto_region 41 with (fail)
                            refine no_implicit_lambda% (wp_region_lit ?_)
                            refine no_implicit_lambda% (wpl_val ?_ rfl ?_ ?_)
                            rotate_left
                            · (go_simp; (try with_reducible rfl))
                            (try simp only [Act.put, Z1, Z2, Z4, Z5, Z6])
                            refine wpl_val (.int .u8 (P.ob true b2 c3 d4)) rfl (run_or rfl rfl (or1 _ _ _ _)) ?_
                            (try simp only [Act.put, Z1, Z2, Z3, Z4, Z5, Z6])
                            refine no_implicit_lambda% (wpl_val ?_ rfl ?_ ?_)
                            rotate_left
                            · (go_simp; (try with_reducible rfl))
                            (try simp only [Act.put, Z1, Z2, Z3, Z4, Z5, Z6])
                            refine no_implicit_lambda% (wpList_nil ?_)
                            go_wp2_with fail
                            go_roundw
                            case rel => exact ⟨m + 1, true, d4, by go_num, rfl, by omega, hS, hBx, hTa2, hDr⟩
                            case measure => simp [intOf]; omega
                    · obtain rfl : m = x.1.reads.length := by omega
                      have hF2 : Hid (P.F4 (his R) (k + 1) a3 b2 c3 d3) := ⟨hF.out.fa.row hTa.out (P.pA_iff hxh.out hd.out), hFb.out, hFc.out, hF.out.fd.row hTd.out (P.pD_iff hxh.out hd.out)⟩
                      clear hF hFb hFc hd hTa hTd hBx hlm
                      go_wp2_with fail
                      go_roundw
                      case rel => exact ⟨k + 1, a3, b2, c3, d3, by go_num, rfl, by omega, hS, hF2⟩
                      case measure => simp [intOf]; omega
        · obtain rfl : k = R.length := by omega
          have HP : Hid (P.chk (his R) = (P.ob a1 b1 c1 d1, 0)) := P.F4.fin hbad.out (by rw [his_length]; exact hF.out)
          clear hF hlt
          go_wp2_with fail
          go_ret2
          rw [HP.out]
          exact ⟨rfl, hS⟩
end Go.Proofs.Ytnemaolbmocncaa
