/- The walks of the document's answer: committed, Ahead. -/
import Derived.Test.YtnemaolbmocncaaRefHW
namespace Go.Proofs.Ytnemaolbmocncaa
open Go.RowKit
set_option linter.unusedSimpArgs false
set_option linter.unusedVariables false
attribute [local irreducible] wpList
set_option maxRecDepth 100000 in
set_option maxHeartbeats 8000000 in
theorem committed_any {w : World} {ao : Option Addr} {cap : Nat} {R : List Rec} (h : HAt w ao R) (hR : R.length ≤ 1000) (v : Int × Int) :
    Calls Try.prog 29 #[.slice ao R.length cap, .agg #[.int .u16 v.1, .int .u32 v.2]] w fun e w' => ∃ c : Bool, e = .returned (.bool c) ∧ (c = true ↔ ∃ j, P.by_ (his R) v.1 v.2 j) ∧ Below w.heap.size w w' := by
  have hz36 := zero36.1
  obtain ⟨p, t⟩ := v
  dsimp only
  have hbx : Blk (w.alloc (.cells #[.int .u16 p, .int .u32 t] 43)) w.heap.size #[.int .u16 p, .int .u32 t] 43 := Blk.alloc_new _ _ _
  have al := (Below.refl w.heap.size w).alloc (Nat.le_refl _) (.cells #[.int .u16 p, .int .u32 t] 43)
  have hH := Lib.hid h
  clear h
  go_enter Try.func29, Try.ntmps29
  go_upto_region 1 with (fail)
  have HB := Lib.hid (And.intro hbx al)
  clear hbx al
  generalize w.alloc (.cells #[.int .u16 p, .int .u32 t] 43) = V0 at *
  refine no_implicit_lambda% (wp_region_lit ?_)
  refine no_implicit_lambda% (wpl_val ?_ rfl ?_ ?_)
  rotate_left
  · (go_simp; (try with_reducible rfl))
  (try simp only [Act.put, Z1, Z2, Z4, Z5, Z6])
  refine no_implicit_lambda% (wpl_val ?_ rfl ?_ ?_)
  rotate_left
  · (go_simp; (try with_reducible rfl))
  (try simp only [Act.put, Z1, Z2, Z3, Z4, Z5, Z6])
  refine no_implicit_lambda% (wpl_val ?_ rfl ?_ ?_)
  rotate_left
  · (go_simp; (try with_reducible rfl))
  (try simp only [Act.put, Z1, Z2, Z3, Z4, Z5, Z6])
  refine no_implicit_lambda% (wpList_nil ?_)
  go_wp2_with fail
  go_loopw [9] (fun i wr => ∃ m : Nat, i = .int .i64 m ∧ m ≤ R.length ∧ Below w.heap.size w wr ∧ Blk wr w.heap.size #[.int .u16 p, .int .u32 t] 43 ∧ Hid (∀ (j : Nat) (x : Rec), j < m → R[j]? = some x → wroB x.1 p = true → x.1.commit ≠ t)) (fun i _ => R.length - (intOf i).toNat)
  case atStart => exact ⟨0, rfl, Nat.zero_le _, HB.out.2, HB.out.1, fun j x hj => by omega⟩
  case round =>
    clear HB
    obtain ⟨m, rfl, hm, hS, hK, hT⟩ := hrel
    by_cases hlm : m < R.length
    · have hlm' : (m : Int) < (R.length : Int) := by omega
      obtain ⟨x, hx⟩ : ∃ x, R[m]? = some x := ⟨_, List.getElem?_eq_getElem hlm⟩
      have hHr := hH.out.below hS
      obtain ⟨b, o, rfl, hbl, hr⟩ := hHr.row m x hx
      replace hr := Lib.hid hr
      have hone := Lib.hid (hHr.sub x (List.mem_of_getElem? hx)).one
      have hmem := Lib.hid (List.mem_of_getElem? hx)
      replace hx := Lib.hid hx
      clear hHr
      go_upto_region 3 with (fail)
      refine no_implicit_lambda% (wp_region_lit ?_)
      refine no_implicit_lambda% (wpl_val ?_ rfl ?_ ?_)
      rotate_left
      · (go_simp; (try with_reducible rfl))
      (try simp only [Act.put, Z1, Z2, Z4, Z5, Z6])
      refine wpList_load_mid rfl 36 _ rfl b (o + m * 5) rfl (pcL x) _ hr.out Try.underlying36 rfl (size36' x) ?_
      (try simp only [Act.put, Z1, Z2, Z3, Z4, Z5, Z6])
      refine wpl_alloc 36 (pcA noR) rfl rfl hz36 ?_
      (try simp only [Act.put, Z1, Z2, Z3, Z4, Z5, Z6])
      refine wpList_store_fr rfl 36 _ _ rfl wr.heap.size (pcA x) rfl rfl 36 _ (Blk.alloc_new _ _ _) (size36 x) rfl hone.out ?_
      intro w9 hB9 hF9
      (try simp only [Act.put, Z1, Z2, Z3, Z4, Z5, Z6])
      refine no_implicit_lambda% (wpList_nil ?_)
      replace hS := hS.trans ((box_below hF9).mono hS.size)
      replace hK := hK.below (box_below hF9)
      clear hF9 hr hbl hone
      generalize wr.heap.size = bx at *
      have hT2 : (wroB x.1 p = true → x.1.commit ≠ t) → Hid (∀ (j : Nat) (z : Rec), j < m + 1 → R[j]? = some z → wroB z.1 p = true → z.1.commit ≠ t) := fun hc j z hj hz h1 => by
        by_cases e : j = m
        · rw [e, hx.out] at hz
          obtain rfl := Option.some.inj hz
          exact hc h1
        · exact hT.out j z (by omega) hz h1
      replace hT2 := Lib.hid hT2
      have k0 : w9.cell? ⟨w.heap.size, 0, none⟩ = some (.int .u16 p) := by rw [hK.cell]; rfl
      have hcx := wrote_any x p w9 ((hH.out.below hS).sub x hmem.out)
      go_upto_region 4 with (fail)
      refine no_implicit_lambda% (wp_region_lit ?_)
      refine wpl_val (.agg (pcA x)) rfl (run_load_cs rfl rfl hB9 Try.underlying36 rfl (size36 x)) ?_
      (try simp only [Act.put, Z1, Z2, Z3, Z4, Z5, Z6])
      refine no_implicit_lambda% (wpl_val ?_ rfl ?_ ?_)
      rotate_left
      · (go_simp; (try with_reducible rfl))
      (try simp only [Act.put, Z1, Z2, Z3, Z4, Z5, Z6])
      refine no_implicit_lambda% (wpl_val ?_ rfl ?_ ?_)
      rotate_left
      · (have c0 := k0; go_simp; (try with_reducible rfl))
      (try simp only [Act.put, Z1, Z2, Z3, Z4, Z5, Z6])
      refine wpl_call _ _ rfl (by go_simp) _ hcx ?_
      rintro e w5 ⟨rfl, hb5⟩
      refine ⟨_, rfl, ?_⟩
      replace hS := hS.trans (hb5.mono hS.size)
      replace hK := hK.below hb5
      replace hB9 := hB9.below hb5
      clear hcx hb5 k0
      (try simp only [Act.put, Z1, Z2, Z3, Z4, Z5, Z6])
      cases hwx : wroB x.1 p with
      | false =>
        have hT3 := hT2.out (fun e => by rw [hwx] at e; cases e)
        clear hT2 hT hwx
        refine no_implicit_lambda% (wpl_val ?_ rfl ?_ ?_)
        rotate_left
        · (go_simp; (try with_reducible rfl))
        (try simp only [Act.put, Z1, Z2, Z3, Z4, Z5, Z6])
        iterate 5
          refine no_implicit_lambda% (wpl_skip rfl ?_)
          (try simp only [Act.put, Z1, Z2, Z3, Z4, Z5, Z6])
        refine no_implicit_lambda% (wpl_val ?_ rfl ?_ ?_)
        rotate_left
        · (go_simp; (try with_reducible rfl))
        (try simp only [Act.put, Z1, Z2, Z3, Z4, Z5, Z6])
        refine no_implicit_lambda% (wpList_nil ?_)
        clear hB9
        go_wp2_with fail
        go_roundw
        case rel => exact ⟨m + 1, by go_num, by omega, hS, hK, hT3⟩
        case measure => simp [intOf]; omega
      | true =>
        by_cases he : x.1.commit = t
        · have he' : (x.1.commit == t) = true := by simp [he]
          have HR : Hid (∃ j, P.by_ (his R) p t j) := ⟨m, by rw [← he]; exact wro_by hx.out hwx⟩
          clear hwx he
          iterate 2
            refine no_implicit_lambda% (wpl_val ?_ rfl ?_ ?_)
            rotate_left
            · (go_simp; (try with_reducible rfl))
            (try simp only [Act.put, Z1, Z2, Z3, Z4, Z5, Z6])
          refine no_implicit_lambda% (wpl_val ?_ rfl ?_ ?_)
          rotate_left
          · (have c0 := (show w5.cell? ⟨bx, 1, none⟩ = some (.int .u32 x.1.commit) by rw [hB9.cell]; rfl); go_simp; (try with_reducible rfl))
          (try simp only [Act.put, Z1, Z2, Z3, Z4, Z5, Z6])
          refine no_implicit_lambda% (wpl_val ?_ rfl ?_ ?_)
          rotate_left
          · (go_simp; (try with_reducible rfl))
          (try simp only [Act.put, Z1, Z2, Z3, Z4, Z5, Z6])
          refine no_implicit_lambda% (wpl_val ?_ rfl ?_ ?_)
          rotate_left
          · (have c0 := (show w5.cell? ⟨w.heap.size, 1, none⟩ = some (.int .u32 t) by rw [hK.cell]; rfl); go_simp; (try with_reducible rfl))
          (try simp only [Act.put, Z1, Z2, Z3, Z4, Z5, Z6])
          iterate 2
            refine no_implicit_lambda% (wpl_val ?_ rfl ?_ ?_)
            rotate_left
            · (go_simp; (try with_reducible rfl))
            (try simp only [Act.put, Z1, Z2, Z3, Z4, Z5, Z6])
          refine no_implicit_lambda% (wpList_nil ?_)
          go_wp2_with fail
          go_ret
          exact ⟨true, rfl, ⟨fun _ => HR.out, fun _ => rfl⟩, hS⟩
        · have he' : (x.1.commit == t) = false := by simp [he]
          have hT3 := hT2.out (fun _ => he)
          clear hT2 hT hwx he
          iterate 2
            refine no_implicit_lambda% (wpl_val ?_ rfl ?_ ?_)
            rotate_left
            · (go_simp; (try with_reducible rfl))
            (try simp only [Act.put, Z1, Z2, Z3, Z4, Z5, Z6])
          refine no_implicit_lambda% (wpl_val ?_ rfl ?_ ?_)
          rotate_left
          · (have c0 := (show w5.cell? ⟨bx, 1, none⟩ = some (.int .u32 x.1.commit) by rw [hB9.cell]; rfl); go_simp; (try with_reducible rfl))
          (try simp only [Act.put, Z1, Z2, Z3, Z4, Z5, Z6])
          refine no_implicit_lambda% (wpl_val ?_ rfl ?_ ?_)
          rotate_left
          · (go_simp; (try with_reducible rfl))
          (try simp only [Act.put, Z1, Z2, Z3, Z4, Z5, Z6])
          refine no_implicit_lambda% (wpl_val ?_ rfl ?_ ?_)
          rotate_left
          · (have c0 := (show w5.cell? ⟨w.heap.size, 1, none⟩ = some (.int .u32 t) by rw [hK.cell]; rfl); go_simp; (try with_reducible rfl))
          (try simp only [Act.put, Z1, Z2, Z3, Z4, Z5, Z6])
          iterate 2
            refine no_implicit_lambda% (wpl_val ?_ rfl ?_ ?_)
            rotate_left
            · (go_simp; (try with_reducible rfl))
            (try simp only [Act.put, Z1, Z2, Z3, Z4, Z5, Z6])
          refine no_implicit_lambda% (wpList_nil ?_)
          clear hB9
          go_wp2_with fail
          go_roundw
          case rel => exact ⟨m + 1, by go_num, by omega, hS, hK, hT3⟩
          case measure => simp [intOf]; omega
    · obtain rfl : m = R.length := by omega
      have HR : Hid (¬ ∃ j, P.by_ (his R) p t j) := fun ⟨j, hj⟩ => by
        obtain ⟨z, hz, h1, h2⟩ := by_wro hj
        exact hT.out j z (List.getElem?_eq_some_iff.1 hz).1 hz h1 h2
      clear hT hlm
      go_wp2_with fail
      go_ret
      exact ⟨false, rfl, ⟨fun e => (by cases e), fun e => absurd e HR.out⟩, hS⟩
set_option maxRecDepth 100000 in
set_option maxHeartbeats 8000000 in
theorem ahead_any {w : World} {ao : Option Addr} {cap : Nat} {R : List Rec} (h : HAt w ao R) (hR : R.length ≤ 1000) {i k : Nat} (hi : i < R.length) (hk : k < R.length) :
    Calls Try.prog 26 #[.slice ao R.length cap, .int .i64 i, .int .i64 k] w fun e w' => ∃ c : Bool, e = .returned (.bool c) ∧ (c = true ↔ P.sta (his R) i k) ∧ Below w.heap.size w w' := by
  obtain ⟨x, hx⟩ : ∃ x, R[i]? = some x := ⟨_, List.getElem?_eq_getElem hi⟩
  obtain ⟨y, hy⟩ : ∃ y, R[k]? = some y := ⟨_, List.getElem?_eq_getElem hk⟩
  obtain ⟨b, o, rfl, _, _⟩ := h.row i x hx
  have hrx := fun W (hW : Below w.heap.size w W) => ((h.row.below hW).at' hx).2
  have hcd : Hid (∀ W, Below w.heap.size w W → W.cell? ⟨b, o + i * 5 + 2, none⟩ = some (.bool x.1.done)) := fun W hW => ((h.row.below hW).at' hx).2 2 _ rfl
  have hcy : Hid (∀ W, Below w.heap.size w W → W.cell? ⟨b, o + k * 5 + 2, none⟩ = some (.bool y.1.done)) := fun W hW => ((h.row.below hW).at' hy).2 2 _ rfl
  have hcs : Hid (∀ W, Below w.heap.size w W → W.cell? ⟨b, o + k * 5, none⟩ = some (.int .u32 y.1.start)) := fun W hW => by have := ((h.row.below hW).at' hy).2 0 _ rfl; simpa using this
  have hsub := Lib.hid (h.sub x (List.mem_of_getElem? hx))
  have hi' : (i : Int) < (R.length : Int) := by omega
  have hk' : (k : Int) < (R.length : Int) := by omega
  have hsta : Hid (P.sta (his R) i k ↔ i ≠ k ∧ x.1.done = true ∧ y.1.done = true ∧ x.1.en ≤ y.1.start) := by
    unfold Hid P.sta
    rw [his_get hx, his_get hy]
    constructor
    · rintro ⟨h1, a, b, h2, h3, h4⟩
      obtain rfl := Option.some.inj h2
      obtain rfl := Option.some.inj h3
      exact ⟨h1, h4⟩
    · rintro ⟨h1, h2⟩
      exact ⟨h1, _, _, rfl, rfl, h2⟩
  replace hrx := Lib.hid hrx
  have h0 : Hid (Below w.heap.size w w.drew) := (Below.refl _ _).drew
  clear h hx hy
  go_enter Try.func26, Try.ntmps26
  go_upto_region 1 with (fail)
  refine wp_region_held (S := (fun w' => Below w.heap.size w w')) (by kernel_rfl) ?_
  change wpAnyH _ _ _ _ _ _ _ _ (World.drew _)
  (try simp only [Act.put])
  have hS := h0.out
  clear h0
  generalize w.drew = V at *
  by_cases hik : i = k
  · have hik' : ((i : Int) != (k : Int)) = false := by simp [hik]
    have HR : Hid (¬ P.sta (his R) i k) := fun e => (hsta.out.1 e).1 hik
    clear hik
    refine anyH_pure 0 _ ?_ rfl (by kernel_rfl) (by kernel_rfl) (by kernel_rfl) (fun _ _ _ h => h) rfl ?_ hS ?_
    rotate_left
    · (intro w'; go_simp; (try with_reducible rfl))
    (try simp only [Act.put, Z1, Z2, Z4, Z5, Z6])
    refine anyH_pure 1 _ ?_ rfl (by kernel_rfl) (by kernel_rfl) (by kernel_rfl) (fun _ _ _ h => h) rfl ?_ hS ?_
    rotate_left
    · (intro w'; go_simp; (try with_reducible rfl))
    (try simp only [Act.put, Z1, Z2, Z3, Z4, Z5, Z6])
    refine anyH_pure 2 _ ?_ rfl (by kernel_rfl) (by kernel_rfl) (by kernel_rfl) (fun _ _ _ h => h) rfl ?_ hS ?_
    rotate_left
    · (intro w'; go_simp; (try with_reducible rfl))
    (try simp only [Act.put, Z1, Z2, Z3, Z4, Z5, Z6])
    refine anyH_pure 3 _ ?_ rfl (by kernel_rfl) (by kernel_rfl) (by kernel_rfl) (fun _ _ _ h => h) rfl ?_ hS ?_
    rotate_left
    · (intro w'; go_simp; (try with_reducible rfl))
    (try simp only [Act.put, Z1, Z2, Z3, Z4, Z5, Z6])
    refine anyH_skip 4 _ rfl (by kernel_rfl) (by kernel_rfl) (by kernel_rfl) (fun _ _ _ h => h) rfl hS ?_
    (try simp only [Act.put, Z1, Z2, Z3, Z4, Z5, Z6])
    refine anyH_skip 5 _ rfl (by kernel_rfl) (by kernel_rfl) (by kernel_rfl) (fun _ _ _ h => h) rfl hS ?_
    (try simp only [Act.put, Z1, Z2, Z3, Z4, Z5, Z6])
    refine anyH_skip 6 _ rfl (by kernel_rfl) (by kernel_rfl) (by kernel_rfl) (fun _ _ _ h => h) rfl hS ?_
    (try simp only [Act.put, Z1, Z2, Z3, Z4, Z5, Z6])
    refine anyH_skip 7 _ rfl (by kernel_rfl) (by kernel_rfl) (by kernel_rfl) (fun _ _ _ h => h) rfl hS ?_
    (try simp only [Act.put, Z1, Z2, Z3, Z4, Z5, Z6])
    refine anyH_skip 8 _ rfl (by kernel_rfl) (by kernel_rfl) (by kernel_rfl) (fun _ _ _ h => h) rfl hS ?_
    (try simp only [Act.put, Z1, Z2, Z3, Z4, Z5, Z6])
    refine anyH_pure 9 _ ?_ rfl (by kernel_rfl) (by kernel_rfl) (by kernel_rfl) (fun _ _ _ h => h) rfl ?_ hS ?_
    rotate_left
    · (intro w'; go_simp; (try with_reducible rfl))
    (try simp only [Act.put, Z1, Z2, Z3, Z4, Z5, Z6])
    refine anyH_pure 10 _ ?_ rfl (by kernel_rfl) (by kernel_rfl) (by kernel_rfl) (fun _ _ _ h => h) rfl ?_ hS ?_
    rotate_left
    · (intro w'; go_simp; (try with_reducible rfl))
    (try simp only [Act.put, Z1, Z2, Z3, Z4, Z5, Z6])
    refine anyH_skip 11 _ rfl (by kernel_rfl) (by kernel_rfl) (by kernel_rfl) (fun _ _ _ h => h) rfl hS ?_
    (try simp only [Act.put, Z1, Z2, Z3, Z4, Z5, Z6])
    refine anyH_skip 12 _ rfl (by kernel_rfl) (by kernel_rfl) (by kernel_rfl) (fun _ _ _ h => h) rfl hS ?_
    (try simp only [Act.put, Z1, Z2, Z3, Z4, Z5, Z6])
    refine anyH_skip 13 _ rfl (by kernel_rfl) (by kernel_rfl) (by kernel_rfl) (fun _ _ _ h => h) rfl hS ?_
    (try simp only [Act.put, Z1, Z2, Z3, Z4, Z5, Z6])
    refine anyH_skip 14 _ rfl (by kernel_rfl) (by kernel_rfl) (by kernel_rfl) (fun _ _ _ h => h) rfl hS ?_
    (try simp only [Act.put, Z1, Z2, Z3, Z4, Z5, Z6])
    refine anyH_skip 15 _ rfl (by kernel_rfl) (by kernel_rfl) (by kernel_rfl) (fun _ _ _ h => h) rfl hS ?_
    (try simp only [Act.put, Z1, Z2, Z3, Z4, Z5, Z6])
    refine anyH_pure 16 _ ?_ rfl (by kernel_rfl) (by kernel_rfl) (by kernel_rfl) (fun _ _ _ h => h) rfl ?_ hS ?_
    rotate_left
    · (intro w'; go_simp; (try with_reducible rfl))
    (try simp only [Act.put, Z1, Z2, Z3, Z4, Z5, Z6])
    refine anyH_pure 17 _ ?_ rfl (by kernel_rfl) (by kernel_rfl) (by kernel_rfl) (fun _ _ _ h => h) rfl ?_ hS ?_
    rotate_left
    · (intro w'; go_simp; (try with_reducible rfl))
    (try simp only [Act.put, Z1, Z2, Z3, Z4, Z5, Z6])
    refine anyH_skip 18 _ rfl (by kernel_rfl) (by kernel_rfl) (by kernel_rfl) (fun _ _ _ h => h) rfl hS ?_
    (try simp only [Act.put, Z1, Z2, Z3, Z4, Z5, Z6])
    refine anyH_skip 19 _ rfl (by kernel_rfl) (by kernel_rfl) (by kernel_rfl) (fun _ _ _ h => h) rfl hS ?_
    (try simp only [Act.put, Z1, Z2, Z3, Z4, Z5, Z6])
    refine anyH_skip 20 _ rfl (by kernel_rfl) (by kernel_rfl) (by kernel_rfl) (fun _ _ _ h => h) rfl hS ?_
    (try simp only [Act.put, Z1, Z2, Z3, Z4, Z5, Z6])
    refine anyH_skip 21 _ rfl (by kernel_rfl) (by kernel_rfl) (by kernel_rfl) (fun _ _ _ h => h) rfl hS ?_
    (try simp only [Act.put, Z1, Z2, Z3, Z4, Z5, Z6])
    refine anyH_skip 22 _ rfl (by kernel_rfl) (by kernel_rfl) (by kernel_rfl) (fun _ _ _ h => h) rfl hS ?_
    (try simp only [Act.put, Z1, Z2, Z3, Z4, Z5, Z6])
    refine anyH_skip 23 _ rfl (by kernel_rfl) (by kernel_rfl) (by kernel_rfl) (fun _ _ _ h => h) rfl hS ?_
    (try simp only [Act.put, Z1, Z2, Z3, Z4, Z5, Z6])
    refine anyH_skip 24 _ rfl (by kernel_rfl) (by kernel_rfl) (by kernel_rfl) (fun _ _ _ h => h) rfl hS ?_
    (try simp only [Act.put, Z1, Z2, Z3, Z4, Z5, Z6])
    refine anyH_skip 25 _ rfl (by kernel_rfl) (by kernel_rfl) (by kernel_rfl) (fun _ _ _ h => h) rfl hS ?_
    (try simp only [Act.put, Z1, Z2, Z3, Z4, Z5, Z6])
    refine anyH_skip 26 _ rfl (by kernel_rfl) (by kernel_rfl) (by kernel_rfl) (fun _ _ _ h => h) rfl hS ?_
    (try simp only [Act.put, Z1, Z2, Z3, Z4, Z5, Z6])
    refine anyH_skip 27 _ rfl (by kernel_rfl) (by kernel_rfl) (by kernel_rfl) (fun _ _ _ h => h) rfl hS ?_
    (try simp only [Act.put, Z1, Z2, Z3, Z4, Z5, Z6])
    refine anyH_skip 28 _ rfl (by kernel_rfl) (by kernel_rfl) (by kernel_rfl) (fun _ _ _ h => h) rfl hS ?_
    (try simp only [Act.put, Z1, Z2, Z3, Z4, Z5, Z6])
    refine anyH_pure 29 _ ?_ rfl (by kernel_rfl) (by kernel_rfl) (by kernel_rfl) (fun _ _ _ h => h) rfl ?_ hS ?_
    rotate_left
    · (intro w'; go_simp; (try with_reducible rfl))
    (try simp only [Act.put, Z1, Z2, Z3, Z4, Z5, Z6])
    refine anyH_pure 30 _ ?_ rfl (by kernel_rfl) (by kernel_rfl) (by kernel_rfl) (fun _ _ _ h => h) rfl ?_ hS ?_
    rotate_left
    · (intro w'; go_simp; (try with_reducible rfl))
    (try simp only [Act.put, Z1, Z2, Z3, Z4, Z5, Z6])
    refine wpAnyH_done (by kernel_rfl) ?_ _
    go_wp2_with fail
    go_ret
    exact ⟨false, rfl, ⟨fun e => (by cases e), fun e => absurd e HR.out⟩, hS⟩
  have hik' : ((i : Int) != (k : Int)) = true := by simp; omega
  replace hik := Lib.hid hik
  cases hdx : x.1.done with
  | false =>
    have HR : Hid (¬ P.sta (his R) i k) := fun e => by have := (hsta.out.1 e).2.1; rw [hdx] at this; cases this
    rw [hdx] at hcd
    clear hdx
    refine anyH_pure 0 _ ?_ rfl (by kernel_rfl) (by kernel_rfl) (by kernel_rfl) (fun _ _ _ h => h) rfl ?_ hS ?_
    rotate_left
    · (intro w'; go_simp; (try with_reducible rfl))
    (try simp only [Act.put, Z1, Z2, Z4, Z5, Z6])
    refine anyH_pure 1 _ ?_ rfl (by kernel_rfl) (by kernel_rfl) (by kernel_rfl) (fun _ _ _ h => h) rfl ?_ hS ?_
    rotate_left
    · (intro w'; go_simp; (try with_reducible rfl))
    (try simp only [Act.put, Z1, Z2, Z3, Z4, Z5, Z6])
    refine anyH_pure 2 _ ?_ rfl (by kernel_rfl) (by kernel_rfl) (by kernel_rfl) (fun _ _ _ h => h) rfl ?_ hS ?_
    rotate_left
    · (intro w'; go_simp; (try with_reducible rfl))
    (try simp only [Act.put, Z1, Z2, Z3, Z4, Z5, Z6])
    refine anyH_pure 3 _ ?_ rfl (by kernel_rfl) (by kernel_rfl) (by kernel_rfl) (fun _ _ _ h => h) rfl ?_ hS ?_
    rotate_left
    · (intro w'; go_simp; (try with_reducible rfl))
    (try simp only [Act.put, Z1, Z2, Z3, Z4, Z5, Z6])
    refine anyH_pure 4 _ ?_ rfl (by kernel_rfl) (by kernel_rfl) (by kernel_rfl) (fun _ _ _ h => h) rfl ?_ hS ?_
    rotate_left
    · (intro w'; go_simp; (try with_reducible rfl))
    (try simp only [Act.put, Z1, Z2, Z3, Z4, Z5, Z6])
    refine anyH_pure 5 _ ?_ rfl (by kernel_rfl) (by kernel_rfl) (by kernel_rfl) (fun _ _ _ h => h) rfl ?_ hS ?_
    rotate_left
    · (intro w'; go_simp; (try with_reducible rfl))
    (try simp only [Act.put, Z1, Z2, Z3, Z4, Z5, Z6])
    refine anyH_pure 6 _ ?_ rfl (by kernel_rfl) (by kernel_rfl) (by kernel_rfl) (fun _ _ _ h => h) rfl ?_ hS ?_
    rotate_left
    · (intro w'; go_simp; (try with_reducible rfl))
    (try simp only [Act.put, Z1, Z2, Z3, Z4, Z5, Z6])
    refine anyH_pure 7 _ ?_ rfl (by kernel_rfl) (by kernel_rfl) (by kernel_rfl) (fun _ _ _ h => h) rfl ?_ hS ?_
    rotate_left
    · (intro w'; go_simp; (try with_reducible rfl))
    (try simp only [Act.put, Z1, Z2, Z3, Z4, Z5, Z6])
    refine anyH_if 8 _ ?_ rfl (by kernel_rfl) (by kernel_rfl) (by kernel_rfl) (fun _ _ _ h => h) rfl ?_ hS ?_
    rotate_left
    · (intro w' h; have c0 := hcd.out w' h; go_simp; (try with_reducible rfl))
    (try simp only [Act.put, Z1, Z2, Z3, Z4, Z5, Z6])
    refine anyH_pure 9 _ ?_ rfl (by kernel_rfl) (by kernel_rfl) (by kernel_rfl) (fun _ _ _ h => h) rfl ?_ hS ?_
    rotate_left
    · (intro w'; go_simp; (try with_reducible rfl))
    (try simp only [Act.put, Z1, Z2, Z3, Z4, Z5, Z6])
    refine anyH_pure 10 _ ?_ rfl (by kernel_rfl) (by kernel_rfl) (by kernel_rfl) (fun _ _ _ h => h) rfl ?_ hS ?_
    rotate_left
    · (intro w'; go_simp; (try with_reducible rfl))
    (try simp only [Act.put, Z1, Z2, Z3, Z4, Z5, Z6])
    refine anyH_skip 11 _ rfl (by kernel_rfl) (by kernel_rfl) (by kernel_rfl) (fun _ _ _ h => h) rfl hS ?_
    (try simp only [Act.put, Z1, Z2, Z3, Z4, Z5, Z6])
    refine anyH_skip 12 _ rfl (by kernel_rfl) (by kernel_rfl) (by kernel_rfl) (fun _ _ _ h => h) rfl hS ?_
    (try simp only [Act.put, Z1, Z2, Z3, Z4, Z5, Z6])
    refine anyH_skip 13 _ rfl (by kernel_rfl) (by kernel_rfl) (by kernel_rfl) (fun _ _ _ h => h) rfl hS ?_
    (try simp only [Act.put, Z1, Z2, Z3, Z4, Z5, Z6])
    refine anyH_skip 14 _ rfl (by kernel_rfl) (by kernel_rfl) (by kernel_rfl) (fun _ _ _ h => h) rfl hS ?_
    (try simp only [Act.put, Z1, Z2, Z3, Z4, Z5, Z6])
    refine anyH_skip 15 _ rfl (by kernel_rfl) (by kernel_rfl) (by kernel_rfl) (fun _ _ _ h => h) rfl hS ?_
    (try simp only [Act.put, Z1, Z2, Z3, Z4, Z5, Z6])
    refine anyH_pure 16 _ ?_ rfl (by kernel_rfl) (by kernel_rfl) (by kernel_rfl) (fun _ _ _ h => h) rfl ?_ hS ?_
    rotate_left
    · (intro w'; go_simp; (try with_reducible rfl))
    (try simp only [Act.put, Z1, Z2, Z3, Z4, Z5, Z6])
    refine anyH_pure 17 _ ?_ rfl (by kernel_rfl) (by kernel_rfl) (by kernel_rfl) (fun _ _ _ h => h) rfl ?_ hS ?_
    rotate_left
    · (intro w'; go_simp; (try with_reducible rfl))
    (try simp only [Act.put, Z1, Z2, Z3, Z4, Z5, Z6])
    refine anyH_skip 18 _ rfl (by kernel_rfl) (by kernel_rfl) (by kernel_rfl) (fun _ _ _ h => h) rfl hS ?_
    (try simp only [Act.put, Z1, Z2, Z3, Z4, Z5, Z6])
    refine anyH_skip 19 _ rfl (by kernel_rfl) (by kernel_rfl) (by kernel_rfl) (fun _ _ _ h => h) rfl hS ?_
    (try simp only [Act.put, Z1, Z2, Z3, Z4, Z5, Z6])
    refine anyH_skip 20 _ rfl (by kernel_rfl) (by kernel_rfl) (by kernel_rfl) (fun _ _ _ h => h) rfl hS ?_
    (try simp only [Act.put, Z1, Z2, Z3, Z4, Z5, Z6])
    refine anyH_skip 21 _ rfl (by kernel_rfl) (by kernel_rfl) (by kernel_rfl) (fun _ _ _ h => h) rfl hS ?_
    (try simp only [Act.put, Z1, Z2, Z3, Z4, Z5, Z6])
    refine anyH_skip 22 _ rfl (by kernel_rfl) (by kernel_rfl) (by kernel_rfl) (fun _ _ _ h => h) rfl hS ?_
    (try simp only [Act.put, Z1, Z2, Z3, Z4, Z5, Z6])
    refine anyH_skip 23 _ rfl (by kernel_rfl) (by kernel_rfl) (by kernel_rfl) (fun _ _ _ h => h) rfl hS ?_
    (try simp only [Act.put, Z1, Z2, Z3, Z4, Z5, Z6])
    refine anyH_skip 24 _ rfl (by kernel_rfl) (by kernel_rfl) (by kernel_rfl) (fun _ _ _ h => h) rfl hS ?_
    (try simp only [Act.put, Z1, Z2, Z3, Z4, Z5, Z6])
    refine anyH_skip 25 _ rfl (by kernel_rfl) (by kernel_rfl) (by kernel_rfl) (fun _ _ _ h => h) rfl hS ?_
    (try simp only [Act.put, Z1, Z2, Z3, Z4, Z5, Z6])
    refine anyH_skip 26 _ rfl (by kernel_rfl) (by kernel_rfl) (by kernel_rfl) (fun _ _ _ h => h) rfl hS ?_
    (try simp only [Act.put, Z1, Z2, Z3, Z4, Z5, Z6])
    refine anyH_skip 27 _ rfl (by kernel_rfl) (by kernel_rfl) (by kernel_rfl) (fun _ _ _ h => h) rfl hS ?_
    (try simp only [Act.put, Z1, Z2, Z3, Z4, Z5, Z6])
    refine anyH_skip 28 _ rfl (by kernel_rfl) (by kernel_rfl) (by kernel_rfl) (fun _ _ _ h => h) rfl hS ?_
    (try simp only [Act.put, Z1, Z2, Z3, Z4, Z5, Z6])
    refine anyH_pure 29 _ ?_ rfl (by kernel_rfl) (by kernel_rfl) (by kernel_rfl) (fun _ _ _ h => h) rfl ?_ hS ?_
    rotate_left
    · (intro w'; go_simp; (try with_reducible rfl))
    (try simp only [Act.put, Z1, Z2, Z3, Z4, Z5, Z6])
    refine anyH_pure 30 _ ?_ rfl (by kernel_rfl) (by kernel_rfl) (by kernel_rfl) (fun _ _ _ h => h) rfl ?_ hS ?_
    rotate_left
    · (intro w'; go_simp; (try with_reducible rfl))
    (try simp only [Act.put, Z1, Z2, Z3, Z4, Z5, Z6])
    refine wpAnyH_done (by kernel_rfl) ?_ _
    go_wp2_with fail
    go_ret
    exact ⟨false, rfl, ⟨fun e => (by cases e), fun e => absurd e HR.out⟩, hS⟩
  | true =>
    rw [hdx] at hcd
    replace hdx := Lib.hid hdx
    cases hdy : y.1.done with
    | false =>
      have HR : Hid (¬ P.sta (his R) i k) := fun e => by have := (hsta.out.1 e).2.2.1; rw [hdy] at this; cases this
      rw [hdy] at hcy
      clear hdy
      refine anyH_pure 0 _ ?_ rfl (by kernel_rfl) (by kernel_rfl) (by kernel_rfl) (fun _ _ _ h => h) rfl ?_ hS ?_
      rotate_left
      · (intro w'; go_simp; (try with_reducible rfl))
      (try simp only [Act.put, Z1, Z2, Z4, Z5, Z6])
      refine anyH_pure 1 _ ?_ rfl (by kernel_rfl) (by kernel_rfl) (by kernel_rfl) (fun _ _ _ h => h) rfl ?_ hS ?_
      rotate_left
      · (intro w'; go_simp; (try with_reducible rfl))
      (try simp only [Act.put, Z1, Z2, Z3, Z4, Z5, Z6])
      refine anyH_pure 2 _ ?_ rfl (by kernel_rfl) (by kernel_rfl) (by kernel_rfl) (fun _ _ _ h => h) rfl ?_ hS ?_
      rotate_left
      · (intro w'; go_simp; (try with_reducible rfl))
      (try simp only [Act.put, Z1, Z2, Z3, Z4, Z5, Z6])
      refine anyH_pure 3 _ ?_ rfl (by kernel_rfl) (by kernel_rfl) (by kernel_rfl) (fun _ _ _ h => h) rfl ?_ hS ?_
      rotate_left
      · (intro w'; go_simp; (try with_reducible rfl))
      (try simp only [Act.put, Z1, Z2, Z3, Z4, Z5, Z6])
      refine anyH_pure 4 _ ?_ rfl (by kernel_rfl) (by kernel_rfl) (by kernel_rfl) (fun _ _ _ h => h) rfl ?_ hS ?_
      rotate_left
      · (intro w'; go_simp; (try with_reducible rfl))
      (try simp only [Act.put, Z1, Z2, Z3, Z4, Z5, Z6])
      refine anyH_pure 5 _ ?_ rfl (by kernel_rfl) (by kernel_rfl) (by kernel_rfl) (fun _ _ _ h => h) rfl ?_ hS ?_
      rotate_left
      · (intro w'; go_simp; (try with_reducible rfl))
      (try simp only [Act.put, Z1, Z2, Z3, Z4, Z5, Z6])
      refine anyH_pure 6 _ ?_ rfl (by kernel_rfl) (by kernel_rfl) (by kernel_rfl) (fun _ _ _ h => h) rfl ?_ hS ?_
      rotate_left
      · (intro w'; go_simp; (try with_reducible rfl))
      (try simp only [Act.put, Z1, Z2, Z3, Z4, Z5, Z6])
      refine anyH_pure 7 _ ?_ rfl (by kernel_rfl) (by kernel_rfl) (by kernel_rfl) (fun _ _ _ h => h) rfl ?_ hS ?_
      rotate_left
      · (intro w'; go_simp; (try with_reducible rfl))
      (try simp only [Act.put, Z1, Z2, Z3, Z4, Z5, Z6])
      refine anyH_if 8 _ ?_ rfl (by kernel_rfl) (by kernel_rfl) (by kernel_rfl) (fun _ _ _ h => h) rfl ?_ hS ?_
      rotate_left
      · (intro w' h; have c0 := hcd.out w' h; go_simp; (try with_reducible rfl))
      (try simp only [Act.put, Z1, Z2, Z3, Z4, Z5, Z6])
      refine anyH_pure 9 _ ?_ rfl (by kernel_rfl) (by kernel_rfl) (by kernel_rfl) (fun _ _ _ h => h) rfl ?_ hS ?_
      rotate_left
      · (intro w'; go_simp; (try with_reducible rfl))
      (try simp only [Act.put, Z1, Z2, Z3, Z4, Z5, Z6])
      refine anyH_pure 10 _ ?_ rfl (by kernel_rfl) (by kernel_rfl) (by kernel_rfl) (fun _ _ _ h => h) rfl ?_ hS ?_
      rotate_left
      · (intro w'; go_simp; (try with_reducible rfl))
      (try simp only [Act.put, Z1, Z2, Z3, Z4, Z5, Z6])
      refine anyH_pure 11 _ ?_ rfl (by kernel_rfl) (by kernel_rfl) (by kernel_rfl) (fun _ _ _ h => h) rfl ?_ hS ?_
      rotate_left
      · (intro w'; go_simp; (try with_reducible rfl))
      (try simp only [Act.put, Z1, Z2, Z3, Z4, Z5, Z6])
      refine anyH_pure 12 _ ?_ rfl (by kernel_rfl) (by kernel_rfl) (by kernel_rfl) (fun _ _ _ h => h) rfl ?_ hS ?_
      rotate_left
      · (intro w'; go_simp; (try with_reducible rfl))
      (try simp only [Act.put, Z1, Z2, Z3, Z4, Z5, Z6])
      refine anyH_pure 13 _ ?_ rfl (by kernel_rfl) (by kernel_rfl) (by kernel_rfl) (fun _ _ _ h => h) rfl ?_ hS ?_
      rotate_left
      · (intro w'; go_simp; (try with_reducible rfl))
      (try simp only [Act.put, Z1, Z2, Z3, Z4, Z5, Z6])
      refine anyH_pure 14 _ ?_ rfl (by kernel_rfl) (by kernel_rfl) (by kernel_rfl) (fun _ _ _ h => h) rfl ?_ hS ?_
      rotate_left
      · (intro w'; go_simp; (try with_reducible rfl))
      (try simp only [Act.put, Z1, Z2, Z3, Z4, Z5, Z6])
      refine anyH_if 15 _ ?_ rfl (by kernel_rfl) (by kernel_rfl) (by kernel_rfl) (fun _ _ _ h => h) rfl ?_ hS ?_
      rotate_left
      · (intro w' h; have c0 := hcy.out w' h; go_simp; (try with_reducible rfl))
      (try simp only [Act.put, Z1, Z2, Z3, Z4, Z5, Z6])
      refine anyH_pure 16 _ ?_ rfl (by kernel_rfl) (by kernel_rfl) (by kernel_rfl) (fun _ _ _ h => h) rfl ?_ hS ?_
      rotate_left
      · (intro w'; go_simp; (try with_reducible rfl))
      (try simp only [Act.put, Z1, Z2, Z3, Z4, Z5, Z6])
      refine anyH_pure 17 _ ?_ rfl (by kernel_rfl) (by kernel_rfl) (by kernel_rfl) (fun _ _ _ h => h) rfl ?_ hS ?_
      rotate_left
      · (intro w'; go_simp; (try with_reducible rfl))
      (try simp only [Act.put, Z1, Z2, Z3, Z4, Z5, Z6])
      refine anyH_skip 18 _ rfl (by kernel_rfl) (by kernel_rfl) (by kernel_rfl) (fun _ _ _ h => h) rfl hS ?_
      (try simp only [Act.put, Z1, Z2, Z3, Z4, Z5, Z6])
      refine anyH_skip 19 _ rfl (by kernel_rfl) (by kernel_rfl) (by kernel_rfl) (fun _ _ _ h => h) rfl hS ?_
      (try simp only [Act.put, Z1, Z2, Z3, Z4, Z5, Z6])
      refine anyH_skip 20 _ rfl (by kernel_rfl) (by kernel_rfl) (by kernel_rfl) (fun _ _ _ h => h) rfl hS ?_
      (try simp only [Act.put, Z1, Z2, Z3, Z4, Z5, Z6])
      refine anyH_skip 21 _ rfl (by kernel_rfl) (by kernel_rfl) (by kernel_rfl) (fun _ _ _ h => h) rfl hS ?_
      (try simp only [Act.put, Z1, Z2, Z3, Z4, Z5, Z6])
      refine anyH_skip 22 _ rfl (by kernel_rfl) (by kernel_rfl) (by kernel_rfl) (fun _ _ _ h => h) rfl hS ?_
      (try simp only [Act.put, Z1, Z2, Z3, Z4, Z5, Z6])
      refine anyH_skip 23 _ rfl (by kernel_rfl) (by kernel_rfl) (by kernel_rfl) (fun _ _ _ h => h) rfl hS ?_
      (try simp only [Act.put, Z1, Z2, Z3, Z4, Z5, Z6])
      refine anyH_skip 24 _ rfl (by kernel_rfl) (by kernel_rfl) (by kernel_rfl) (fun _ _ _ h => h) rfl hS ?_
      (try simp only [Act.put, Z1, Z2, Z3, Z4, Z5, Z6])
      refine anyH_skip 25 _ rfl (by kernel_rfl) (by kernel_rfl) (by kernel_rfl) (fun _ _ _ h => h) rfl hS ?_
      (try simp only [Act.put, Z1, Z2, Z3, Z4, Z5, Z6])
      refine anyH_skip 26 _ rfl (by kernel_rfl) (by kernel_rfl) (by kernel_rfl) (fun _ _ _ h => h) rfl hS ?_
      (try simp only [Act.put, Z1, Z2, Z3, Z4, Z5, Z6])
      refine anyH_skip 27 _ rfl (by kernel_rfl) (by kernel_rfl) (by kernel_rfl) (fun _ _ _ h => h) rfl hS ?_
      (try simp only [Act.put, Z1, Z2, Z3, Z4, Z5, Z6])
      refine anyH_skip 28 _ rfl (by kernel_rfl) (by kernel_rfl) (by kernel_rfl) (fun _ _ _ h => h) rfl hS ?_
      (try simp only [Act.put, Z1, Z2, Z3, Z4, Z5, Z6])
      refine anyH_pure 29 _ ?_ rfl (by kernel_rfl) (by kernel_rfl) (by kernel_rfl) (fun _ _ _ h => h) rfl ?_ hS ?_
      rotate_left
      · (intro w'; go_simp; (try with_reducible rfl))
      (try simp only [Act.put, Z1, Z2, Z3, Z4, Z5, Z6])
      refine anyH_pure 30 _ ?_ rfl (by kernel_rfl) (by kernel_rfl) (by kernel_rfl) (fun _ _ _ h => h) rfl ?_ hS ?_
      rotate_left
      · (intro w'; go_simp; (try with_reducible rfl))
      (try simp only [Act.put, Z1, Z2, Z3, Z4, Z5, Z6])
      refine wpAnyH_done (by kernel_rfl) ?_ _
      go_wp2_with fail
      go_ret
      exact ⟨false, rfl, ⟨fun e => (by cases e), fun e => absurd e HR.out⟩, hS⟩
    | true =>
      rw [hdy] at hcy
      replace hdy := Lib.hid hdy
      refine anyH_pure 0 _ ?_ rfl (by kernel_rfl) (by kernel_rfl) (by kernel_rfl) (fun _ _ _ h => h) rfl ?_ hS ?_
      rotate_left
      · (intro w'; go_simp; (try with_reducible rfl))
      (try simp only [Act.put, Z1, Z2, Z4, Z5, Z6])
      refine anyH_pure 1 _ ?_ rfl (by kernel_rfl) (by kernel_rfl) (by kernel_rfl) (fun _ _ _ h => h) rfl ?_ hS ?_
      rotate_left
      · (intro w'; go_simp; (try with_reducible rfl))
      (try simp only [Act.put, Z1, Z2, Z3, Z4, Z5, Z6])
      refine anyH_pure 2 _ ?_ rfl (by kernel_rfl) (by kernel_rfl) (by kernel_rfl) (fun _ _ _ h => h) rfl ?_ hS ?_
      rotate_left
      · (intro w'; go_simp; (try with_reducible rfl))
      (try simp only [Act.put, Z1, Z2, Z3, Z4, Z5, Z6])
      refine anyH_pure 3 _ ?_ rfl (by kernel_rfl) (by kernel_rfl) (by kernel_rfl) (fun _ _ _ h => h) rfl ?_ hS ?_
      rotate_left
      · (intro w'; go_simp; (try with_reducible rfl))
      (try simp only [Act.put, Z1, Z2, Z3, Z4, Z5, Z6])
      refine anyH_pure 4 _ ?_ rfl (by kernel_rfl) (by kernel_rfl) (by kernel_rfl) (fun _ _ _ h => h) rfl ?_ hS ?_
      rotate_left
      · (intro w'; go_simp; (try with_reducible rfl))
      (try simp only [Act.put, Z1, Z2, Z3, Z4, Z5, Z6])
      refine anyH_pure 5 _ ?_ rfl (by kernel_rfl) (by kernel_rfl) (by kernel_rfl) (fun _ _ _ h => h) rfl ?_ hS ?_
      rotate_left
      · (intro w'; go_simp; (try with_reducible rfl))
      (try simp only [Act.put, Z1, Z2, Z3, Z4, Z5, Z6])
      refine anyH_pure 6 _ ?_ rfl (by kernel_rfl) (by kernel_rfl) (by kernel_rfl) (fun _ _ _ h => h) rfl ?_ hS ?_
      rotate_left
      · (intro w'; go_simp; (try with_reducible rfl))
      (try simp only [Act.put, Z1, Z2, Z3, Z4, Z5, Z6])
      refine anyH_pure 7 _ ?_ rfl (by kernel_rfl) (by kernel_rfl) (by kernel_rfl) (fun _ _ _ h => h) rfl ?_ hS ?_
      rotate_left
      · (intro w'; go_simp; (try with_reducible rfl))
      (try simp only [Act.put, Z1, Z2, Z3, Z4, Z5, Z6])
      refine anyH_if 8 _ ?_ rfl (by kernel_rfl) (by kernel_rfl) (by kernel_rfl) (fun _ _ _ h => h) rfl ?_ hS ?_
      rotate_left
      · (intro w' h; have c0 := hcd.out w' h; go_simp; (try with_reducible rfl))
      (try simp only [Act.put, Z1, Z2, Z3, Z4, Z5, Z6])
      refine anyH_pure 9 _ ?_ rfl (by kernel_rfl) (by kernel_rfl) (by kernel_rfl) (fun _ _ _ h => h) rfl ?_ hS ?_
      rotate_left
      · (intro w'; go_simp; (try with_reducible rfl))
      (try simp only [Act.put, Z1, Z2, Z3, Z4, Z5, Z6])
      refine anyH_pure 10 _ ?_ rfl (by kernel_rfl) (by kernel_rfl) (by kernel_rfl) (fun _ _ _ h => h) rfl ?_ hS ?_
      rotate_left
      · (intro w'; go_simp; (try with_reducible rfl))
      (try simp only [Act.put, Z1, Z2, Z3, Z4, Z5, Z6])
      refine anyH_pure 11 _ ?_ rfl (by kernel_rfl) (by kernel_rfl) (by kernel_rfl) (fun _ _ _ h => h) rfl ?_ hS ?_
      rotate_left
      · (intro w'; go_simp; (try with_reducible rfl))
      (try simp only [Act.put, Z1, Z2, Z3, Z4, Z5, Z6])
      refine anyH_pure 12 _ ?_ rfl (by kernel_rfl) (by kernel_rfl) (by kernel_rfl) (fun _ _ _ h => h) rfl ?_ hS ?_
      rotate_left
      · (intro w'; go_simp; (try with_reducible rfl))
      (try simp only [Act.put, Z1, Z2, Z3, Z4, Z5, Z6])
      refine anyH_pure 13 _ ?_ rfl (by kernel_rfl) (by kernel_rfl) (by kernel_rfl) (fun _ _ _ h => h) rfl ?_ hS ?_
      rotate_left
      · (intro w'; go_simp; (try with_reducible rfl))
      (try simp only [Act.put, Z1, Z2, Z3, Z4, Z5, Z6])
      refine anyH_pure 14 _ ?_ rfl (by kernel_rfl) (by kernel_rfl) (by kernel_rfl) (fun _ _ _ h => h) rfl ?_ hS ?_
      rotate_left
      · (intro w'; go_simp; (try with_reducible rfl))
      (try simp only [Act.put, Z1, Z2, Z3, Z4, Z5, Z6])
      refine anyH_if 15 _ ?_ rfl (by kernel_rfl) (by kernel_rfl) (by kernel_rfl) (fun _ _ _ h => h) rfl ?_ hS ?_
      rotate_left
      · (intro w' h; have c0 := hcy.out w' h; go_simp; (try with_reducible rfl))
      (try simp only [Act.put, Z1, Z2, Z3, Z4, Z5, Z6])
      refine anyH_pure 16 _ ?_ rfl (by kernel_rfl) (by kernel_rfl) (by kernel_rfl) (fun _ _ _ h => h) rfl ?_ hS ?_
      rotate_left
      · (intro w'; go_simp; (try with_reducible rfl))
      (try simp only [Act.put, Z1, Z2, Z3, Z4, Z5, Z6])
      refine anyH_pure 17 _ ?_ rfl (by kernel_rfl) (by kernel_rfl) (by kernel_rfl) (fun _ _ _ h => h) rfl ?_ hS ?_
      rotate_left
      · (intro w'; go_simp; (try with_reducible rfl))
      (try simp only [Act.put, Z1, Z2, Z3, Z4, Z5, Z6])
      refine anyH_pure 18 _ ?_ rfl (by kernel_rfl) (by kernel_rfl) (by kernel_rfl) (fun _ _ _ h => h) rfl ?_ hS ?_
      rotate_left
      · (intro w'; go_simp; (try with_reducible rfl))
      (try simp only [Act.put, Z1, Z2, Z3, Z4, Z5, Z6])
      refine anyH_pure 19 _ ?_ rfl (by kernel_rfl) (by kernel_rfl) (by kernel_rfl) (fun _ _ _ h => h) rfl ?_ hS ?_
      rotate_left
      · (intro w'; go_simp; (try with_reducible rfl))
      (try simp only [Act.put, Z1, Z2, Z3, Z4, Z5, Z6])
      refine anyH_pure 20 _ ?_ rfl (by kernel_rfl) (by kernel_rfl) (by kernel_rfl) (fun _ _ _ h => h) rfl ?_ hS ?_
      rotate_left
      · (intro w'; go_simp; (try with_reducible rfl))
      (try simp only [Act.put, Z1, Z2, Z3, Z4, Z5, Z6])
      refine anyH_if 21 _ (.agg (pcA x)) rfl (by kernel_rfl) (by kernel_rfl) (by kernel_rfl) (fun _ _ _ h => h) rfl (fun w' h => run_load_midv rfl rfl (hrx.out w' h) Try.underlying36 rfl (size36' x)) hS ?_
      (try simp only [Act.put, Z1, Z2, Z3, Z4, Z5, Z6])
      refine anyH_pure 23 _ ?_ rfl (by kernel_rfl) (by kernel_rfl) (by kernel_rfl) (fun _ _ _ h => h) rfl ?_ hS ?_
      rotate_left
      · (intro w'; go_simp; (try with_reducible rfl))
      (try simp only [Act.put, Z1, Z2, Z3, Z4, Z5, Z6])
      refine anyH_pure 24 _ ?_ rfl (by kernel_rfl) (by kernel_rfl) (by kernel_rfl) (fun _ _ _ h => h) rfl ?_ hS ?_
      rotate_left
      · (intro w'; go_simp; (try with_reducible rfl))
      (try simp only [Act.put, Z1, Z2, Z3, Z4, Z5, Z6])
      refine anyH_pure 25 _ ?_ rfl (by kernel_rfl) (by kernel_rfl) (by kernel_rfl) (fun _ _ _ h => h) rfl ?_ hS ?_
      rotate_left
      · (intro w'; go_simp; (try with_reducible rfl))
      (try simp only [Act.put, Z1, Z2, Z3, Z4, Z5, Z6])
      refine anyH_pure 26 _ ?_ rfl (by kernel_rfl) (by kernel_rfl) (by kernel_rfl) (fun _ _ _ h => h) rfl ?_ hS ?_
      rotate_left
      · (intro w'; go_simp; (try with_reducible rfl))
      (try simp only [Act.put, Z1, Z2, Z3, Z4, Z5, Z6])
      refine anyH_if 27 _ ?_ rfl (by kernel_rfl) (by kernel_rfl) (by kernel_rfl) (fun _ _ _ h => h) rfl ?_ hS ?_
      rotate_left
      · (intro w' h; have c0 := hcs.out w' h; go_simp; (try with_reducible rfl))
      (try simp only [Act.put, Z1, Z2, Z3, Z4, Z5, Z6])
      have hce := rend_any x V (hsub.out.below hS)
      refine anyH_callR 22 _ _ _ _ (by kernel_rfl) rfl rfl (by go_simp) (_) (hce) ?_
      intro w7 hb7
      replace hS := hS.trans (hb7.mono hS.size)
      refine ⟨hS, ?_⟩
      clear hce hb7
      (try simp only [Act.put, Z1, Z2, Z3, Z4, Z5, Z6])
      by_cases hle : x.1.en ≤ y.1.start
      · have hle' : decide (x.1.en ≤ y.1.start) = true := by simp [hle]
        have HR : Hid (P.sta (his R) i k) := hsta.out.2 ⟨hik.out, hdx.out, hdy.out, hle⟩
        clear hle
        refine anyH_pure 28 _ ?_ rfl (by kernel_rfl) (by kernel_rfl) (by kernel_rfl) (fun _ _ _ h => h) rfl ?_ hS ?_
        rotate_left
        · (intro w'; go_simp; (try with_reducible rfl))
        (try simp only [Act.put, Z1, Z2, Z3, Z4, Z5, Z6])
        refine anyH_pure 29 _ ?_ rfl (by kernel_rfl) (by kernel_rfl) (by kernel_rfl) (fun _ _ _ h => h) rfl ?_ hS ?_
        rotate_left
        · (intro w'; go_simp; (try with_reducible rfl))
        (try simp only [Act.put, Z1, Z2, Z3, Z4, Z5, Z6])
        refine anyH_pure 30 _ ?_ rfl (by kernel_rfl) (by kernel_rfl) (by kernel_rfl) (fun _ _ _ h => h) rfl ?_ hS ?_
        rotate_left
        · (intro w'; go_simp; (try with_reducible rfl))
        (try simp only [Act.put, Z1, Z2, Z3, Z4, Z5, Z6])
        refine wpAnyH_done (by kernel_rfl) ?_ _
        go_wp2_with fail
        go_ret
        exact ⟨true, rfl, ⟨fun _ => HR.out, fun _ => rfl⟩, hS⟩
      · have hle' : decide (x.1.en ≤ y.1.start) = false := by simp; omega
        have HR : Hid (¬ P.sta (his R) i k) := fun e => hle (hsta.out.1 e).2.2.2
        clear hle
        refine anyH_pure 28 _ ?_ rfl (by kernel_rfl) (by kernel_rfl) (by kernel_rfl) (fun _ _ _ h => h) rfl ?_ hS ?_
        rotate_left
        · (intro w'; go_simp; (try with_reducible rfl))
        (try simp only [Act.put, Z1, Z2, Z3, Z4, Z5, Z6])
        refine anyH_pure 29 _ ?_ rfl (by kernel_rfl) (by kernel_rfl) (by kernel_rfl) (fun _ _ _ h => h) rfl ?_ hS ?_
        rotate_left
        · (intro w'; go_simp; (try with_reducible rfl))
        (try simp only [Act.put, Z1, Z2, Z3, Z4, Z5, Z6])
        refine anyH_pure 30 _ ?_ rfl (by kernel_rfl) (by kernel_rfl) (by kernel_rfl) (fun _ _ _ h => h) rfl ?_ hS ?_
        rotate_left
        · (intro w'; go_simp; (try with_reducible rfl))
        (try simp only [Act.put, Z1, Z2, Z3, Z4, Z5, Z6])
        refine wpAnyH_done (by kernel_rfl) ?_ _
        go_wp2_with fail
        go_ret
        exact ⟨false, rfl, ⟨fun e => (by cases e), fun e => absurd e HR.out⟩, hS⟩
end Go.Proofs.Ytnemaolbmocncaa
