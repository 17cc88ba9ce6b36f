/- The walk of HistTurned. -/
import Derived.Test.YtnemaolbmocncaaHLaw
namespace Go.Proofs.Ytnemaolbmocncaa
open Go.RowKit
set_option linter.unusedSimpArgs false
set_option linter.unusedVariables false
attribute [local irreducible] wpList
theorem fewL_len (L : List P.Pst) : (fewL L).length ≤ 9 := by unfold fewL; rw [List.length_map, List.length_take]; omega
set_option maxRecDepth 100000 in
set_option maxHeartbeats 16000000 in
theorem turned_walk (ao : Option Addr) (cap : Nat) (R : List Rec) (n : Int) (w : World) (h : AAt w ao R) (hcap : R.length ≤ cap) (hmx : R.length ≤ maxLen) (hn : 0 ≤ n ∧ n ≤ 255) :
    Calls Try.prog 4 #[.slice ao R.length cap, .int .u8 n] w fun e w' => e = .returned (.bool true) ∧ Below w.heap.size w w' := by
  obtain ⟨nn, rfl⟩ : ∃ nn : Nat, n = nn := ⟨n.toNat, by omega⟩
  obtain ⟨ie, hie, ze, se, ye⟩ := info_parts info36
  go_enter Try.func4, Try.ntmps4
  go_upto_region 1 with (fail)
  refine no_implicit_lambda% (wp_region_lit ?_)
  refine no_implicit_lambda% (wpl_val ?_ rfl ?_ ?_)
  rotate_left
  · (go_simp; (try with_reducible rfl))
  (try simp only [Act.put, Z1, Z2, Z4, Z5, Z6])
  have hce := few_any h hcap hmx
  refine wpl_call _ _ rfl (by go_simp) _ hce ?_
  rintro e w1 ⟨v1, R1, rfl, hO1, hR1, hN1, hb1⟩
  refine ⟨_, rfl, ?_⟩
  clear hce
  (try simp only [Act.put, Z1, Z2, Z3, Z4, Z5, Z6])
  refine no_implicit_lambda% (wpl_val ?_ rfl ?_ ?_)
  rotate_left
  · (go_simp; (try with_reducible rfl))
  (try simp only [Act.put, Z1, Z2, Z3, Z4, Z5, Z6])
  refine no_implicit_lambda% (wpList_nil ?_)
  have hl9 : R1.length ≤ 9 := by
    have := congrArg List.length hR1
    rw [his_length] at this
    have := fewL_len (his R); omega
  obtain ⟨ao1, cap1, rfl, hc1, hH1⟩ := hO1.at_
  clear h hcap hmx hR1
  have hce := check_any hH1 hc1.1 (by omega)
  generalize hPc : P.chk (his R1) = pc at *
  replace hPc := Lib.hid hPc
  go_upto_region 2 with (fail)
  refine no_implicit_lambda% (wp_region_lit ?_)
  refine no_implicit_lambda% (wpl_val ?_ rfl ?_ ?_)
  rotate_left
  · (go_simp; (try with_reducible rfl))
  (try simp only [Act.put, Z1, Z2, Z4, Z5, Z6])
  refine wpl_call _ _ rfl (by go_simp) _ hce ?_
  rintro e w2 ⟨rfl, hbc⟩
  refine ⟨_, rfl, ?_⟩
  (try simp only [Act.put, Z1, Z2, Z3, Z4, Z5, Z6])
  iterate 5
    refine no_implicit_lambda% (wpl_val ?_ rfl ?_ ?_)
    rotate_left
    · (go_simp; (try with_reducible rfl))
    (try simp only [Act.put, Z1, Z2, Z3, Z4, Z5, Z6])
  refine no_implicit_lambda% (wpList_nil ?_)
  have hb2 := Lib.hid (hb1.trans (hbc.mono hb1.size))
  have hH2 := Lib.hid (hH1.below hbc)
  clear hce hbc hO1 hH1 hb1
  clear w1
  go_upto_region 4 with (fail)
  refine no_implicit_lambda% (wp_region_lit ?_)
  refine no_implicit_lambda% (wpl_val ?_ rfl ?_ ?_)
  rotate_left
  · (go_simp; (try with_reducible rfl))
  (try simp only [Act.put, Z1, Z2, Z4, Z5, Z6])
  refine no_implicit_lambda% (wpl_val ?_ rfl ?_ ?_)
  rotate_left
  · (go_simp; (try with_reducible rfl))
  (try simp only [Act.put, Z1, Z2, Z3, Z4, Z5, Z6])
  refine no_implicit_lambda% (wpl_val ?_ rfl ?_ ?_)
  rotate_left
  · (go_simp; (try with_reducible rfl))
  (try simp only [Act.put, Z1, Z2, Z3, Z4, Z5, Z6])
  refine no_implicit_lambda% (wpList_nil ?_)
  go_wp2_with fail
  go_loopw [20, 7] (fun i o wr => ∃ (k : Nat) (M : List Rec), i = .int .i64 k ∧ k ≤ R1.length ∧ OwnH w2.heap.size wr o M ∧ Below w2.heap.size w2 wr ∧ Hid (M = P.rot R1 nn k noR)) (fun i _ _ => R1.length - (intOf i).toNat)
  case atStart => exact ⟨0, [], rfl, Nat.zero_le _, OwnH.nil _ _, Below.refl _ _, rfl⟩
  case round =>
    obtain ⟨k, M, rfl, hk, hO, hS, hT⟩ := hrel
    by_cases hlt : k < R1.length
    · have hlt' : (k : Int) < (R1.length : Int) := by omega
      have hpos : 0 < R1.length := by omega
      have hjl := Nat.mod_lt (k + nn) hpos
      have hmod : ((k : Int) + (nn : Int)).tmod (R1.length : Int) = (((k + nn) % R1.length : Nat) : Int) := by
        rw [Int.tmod_eq_emod_of_nonneg (by omega)]; simp
      have hMl : M.length = k := by rw [hT.out]; unfold P.rot; simp
      have hT2 : Hid (M ++ [R1.getD ((k + nn) % R1.length) noR] = P.rot R1 nn (k + 1) noR) := by unfold Hid; rw [P.rot_succ, hT.out]
      obtain ⟨x, hx⟩ : ∃ x, R1[(k + nn) % R1.length]? = some x := ⟨_, List.getElem?_eq_getElem hjl⟩
      have hxd : R1.getD ((k + nn) % R1.length) noR = x := by rw [List.getD_eq_getElem?_getD, hx]; rfl
      rw [hxd] at hT2
      have hwr : IntKind.i64.wrap ((k : Int) + (nn : Int)) = (k : Int) + (nn : Int) := IntWalk.i64_in _ (by omega)
      have hwn : IntKind.i64.wrap (nn : Int) = (nn : Int) := IntWalk.i64_in _ (by omega)
      have hne : R1 ≠ [] := fun e => by rw [e] at hpos; cases hpos
      generalize (k + nn) % R1.length = j at *
      have hjl' : (j : Int) < (R1.length : Int) := by omega
      obtain ⟨b, o, rfl, hbl, hr⟩ := (hH2.out.below hS).row j x hx
      replace hr := Lib.hid hr
      have hsub2 := hH2.out.sub x (List.mem_of_getElem? hx)
      have hsub := hsub2.below hS
      have hap : ∀ b, vblk x.2.1 = some b ∨ vblk x.2.2 = some b → u7.ownBlock ≠ some b := fun b hb e => by
        have h1 := (hO.own.lt b e).1
        have h2 := hsub2.lt hb
        omega
      have hone := Lib.hid hsub.one
      clear hx hxd hsub2 hT
      replace hap := Lib.hid hap
      go_upto_region 6 with (fail)
      refine no_implicit_lambda% (wp_region_lit ?_)
      iterate 2
        refine no_implicit_lambda% (wpl_val ?_ rfl ?_ ?_)
        rotate_left
        · (go_simp; (try with_reducible rfl))
        (try simp only [Act.put, Z1, Z2, Z3, Z4, Z5, Z6])
      refine no_implicit_lambda% (wpList_nil ?_)
      go_upto_region 7 with (fail)
      refine no_implicit_lambda% (wp_region_lit ?_)
      iterate 7
        refine no_implicit_lambda% (wpl_val ?_ rfl ?_ ?_)
        rotate_left
        · (go_simp; (try with_reducible rfl))
        (try simp only [Act.put, Z1, Z2, Z3, Z4, Z5, Z6])
      refine no_implicit_lambda% (wpl_val ?_ rfl ?_ ?_)
      rotate_left
      · (go_simp; (try with_reducible rfl))
      (try simp only [Act.put, Z1, Z2, Z3, Z4, Z5, Z6])
      iterate 2
        refine no_implicit_lambda% (wpl_val ?_ rfl ?_ ?_)
        rotate_left
        · (go_simp; (try with_reducible rfl))
        (try simp only [Act.put, Z1, Z2, Z3, Z4, Z5, Z6])
      clear hmod hwr hwn hne
      refine wpList_load_mid rfl 36 _ rfl b (o + j * 5) rfl (pcL x) _ hr.out Try.underlying36 rfl (size36' x) ?_
      (try simp only [Act.put, Z1, Z2, Z3, Z4, Z5, Z6])
      refine wpl_law rfl (wp_buildSlice 22 36 1 _ rfl (pcA x) ie _ Try.underlying22 hie ze (by rw [se]; decide) (by rw [se]; decide) ?c1 ?_)
      case c1 => (simp only [se, List.map_toArray, List.map_cons, List.map_nil]; exact fill36 _)
      have hlit : Blk (wr.alloc (.cells (pcA x) 36)) wr.heap.size (pcL x).toArray 36 := Blk.alloc_new _ _ _
      have al := (Below.refl wr.heap.size wr).alloc (Nat.le_refl _) (.cells (pcA x) 36)
      have hsub4 := hsub.below al
      have hO4 := hO.below al
      have hS4 := hS.trans (al.mono hS.size)
      have hs4 := hS4.size
      (try simp only [Act.put, Z1, Z2, Z3, Z4, Z5, Z6])
      clear al hsub hO hS hbl hr
      generalize wr.alloc (.cells (pcA x) 36) = V at *
      generalize wr.heap.size = lb at *
      refine wpl_law rfl (wp_append_src _ _ 22 rfl w2.heap.size 36 ie _ 5 64 Try.underlying22 hie ze se ye rfl (by decide) u7 M.length _ rfl hO4.own _ 1 (pcL x) rfl (src_blk hlit) (pcL_length _) (fun u hu => by have := hone.out; rw [Array.all_eq_true_iff_forall_mem] at this; exact this u (by simpa [pcA, pcL] using hu)) ?_ ?_ ?_ ?_)
      · unfold maxLen; omega
      · omega
      · omega
      intro v7 W7 own7 gr7 _ hloc7
      have hO7 := hO4.push hsub4 hap.out own7 gr7 hloc7
      have hS7 : Below w2.heap.size w2 W7 := Fr.below hS4 (Fr.of_grown gr7) (Nat.le_refl _) fun i e => (hO4.own.lt i e).1
      clear hO4 hsub4 hap own7 gr7 hloc7 hlit hone hS4 hs4 hMl
      (try simp only [Act.put, Z1, Z2, Z3, Z4, Z5, Z6])
      refine no_implicit_lambda% (wpl_val ?_ rfl ?_ ?_)
      rotate_left
      · (go_simp; (try with_reducible rfl))
      (try simp only [Act.put, Z1, Z2, Z3, Z4, Z5, Z6])
      refine no_implicit_lambda% (wpList_nil ?_)
      go_wp2_with fail
      go_roundw
      case rel => exact ⟨k + 1, _, by go_num, by omega, hO7, hS7, hT2⟩
      case measure => simp [intOf]; omega
    · obtain rfl : k = R1.length := by omega
      have hMl : M.length = R1.length := by rw [hT.out]; unfold P.rot; simp
      have hPm : Hid (P.chk (his M) = pc) := by
        unfold Hid
        rw [← hPc.out, hT.out, ← P.chk_rot (his R1) nn noR.1]
        congr 1
        unfold P.rot
        rw [his, List.map_map, his_length]
        refine List.map_congr_left fun i _ => ?_
        show (R1.getD _ noR).1 = (R1.map (·.1)).getD _ noR.1
        rw [List.getD_eq_getElem?_getD, List.getD_eq_getElem?_getD, List.getElem?_map]
        cases R1[(i + nn) % R1.length]? <;> rfl
      clear hT hlt
      obtain ⟨ao2, cap2, rfl, hc2, hHM⟩ := hO.at_
      have hce := check_any hHM hc2.1 (by omega)
      rw [hPm.out] at hce
      go_upto_region 9 with (fail)
      refine no_implicit_lambda% (wp_region_lit ?_)
      refine no_implicit_lambda% (wpl_val ?_ rfl ?_ ?_)
      rotate_left
      · (go_simp; (try with_reducible rfl))
      (try simp only [Act.put, Z1, Z2, Z4, Z5, Z6])
      refine wpl_call _ _ rfl (by go_simp) _ hce ?_
      rintro e w3 ⟨rfl, hbc⟩
      refine ⟨_, rfl, ?_⟩
      (try simp only [Act.put, Z1, Z2, Z3, Z4, Z5, Z6])
      iterate 5
        refine no_implicit_lambda% (wpl_val ?_ rfl ?_ ?_)
        rotate_left
        · (go_simp; (try with_reducible rfl))
        (try simp only [Act.put, Z1, Z2, Z3, Z4, Z5, Z6])
      refine no_implicit_lambda% (wpList_nil ?_)
      have hb3 := Lib.hid (hb2.out.trans ((hS.trans (hbc.mono hS.size)).mono hb2.out.size))
      clear hce hbc hO hS hHM hPm
      go_upto_region 10 with (fail)
      refine no_implicit_lambda% (wp_region_lit ?_)
      iterate 9
        refine no_implicit_lambda% (wpl_val ?_ rfl ?_ ?_)
        rotate_left
        · (go_simp; (try with_reducible rfl))
        (try simp only [Act.put, Z1, Z2, Z3, Z4, Z5, Z6])
      refine wpl_call _ _ rfl (by go_simp) _ (awake_any w3) ?_
      rintro e w9 ⟨rfl, hb9⟩
      refine ⟨_, rfl, ?_⟩
      (try simp only [Act.put, Z1, Z2, Z3, Z4, Z5, Z6])
      iterate 2
        refine no_implicit_lambda% (wpl_val ?_ rfl ?_ ?_)
        rotate_left
        · (go_simp; (try with_reducible rfl))
        (try simp only [Act.put, Z1, Z2, Z3, Z4, Z5, Z6])
      refine no_implicit_lambda% (wpList_nil ?_)
      go_wp2_with fail
      go_ret
      exact ⟨rfl, hb3.out.trans (hb9.mono hb3.out.size)⟩
end Go.Proofs.Ytnemaolbmocncaa
