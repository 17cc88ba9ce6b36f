/- The walk of HistUndone. -/
import Derived.Test.YtnemaolbmocncaaTurnedW
namespace Go.Proofs.Ytnemaolbmocncaa
open Go.RowKit
set_option linter.unusedSimpArgs false
set_option linter.unusedVariables false
attribute [local irreducible] wpList
/-- A transaction as one that was not committed. -/
def undo (a : P.Pst) : P.Pst := { a with done := false }
def undoR (x : Rec) : Rec := (undo x.1, x.2.1, x.2.2)
theorem undoR_sub {w : World} {x : Rec} (h : SubAt w x) : SubAt w (undoR x) := ⟨h.rd, h.wt, h.ok.start, h.ok.commit, h.ok.reads, h.ok.writes, h.ok.rl, h.ok.wl⟩
set_option maxRecDepth 100000 in
set_option maxHeartbeats 16000000 in
theorem undone_walk (ao : Option Addr) (cap : Nat) (R : List Rec) (ao' : Option Addr) (cap' : Nat) (R' : List Rec) (w : World) (h : AAt w ao R) (hcap : R.length ≤ cap) (hmx : R.length ≤ maxLen) (h' : AAt w ao' R') (hcap' : R'.length ≤ cap') (hmx' : R'.length ≤ maxLen) :
    Calls Try.prog 7 #[.slice ao R.length cap, .slice ao' R'.length cap'] w fun e w' => e = .returned (.bool true) ∧ Below w.heap.size w w' := by
  have hz36 := zero36.1
  obtain ⟨ie, hie, ze, se, ye⟩ := info_parts info36
  go_enter Try.func7, Try.ntmps7
  go_upto_region 1 with (fail)
  refine no_implicit_lambda% (wp_region_lit ?_)
  refine no_implicit_lambda% (wpl_val ?_ rfl ?_ ?_)
  rotate_left
  · (go_simp; (try with_reducible rfl))
  (try simp only [Act.put, Z1, Z2, Z4, Z5, Z6])
  have hce := few_any h hcap hmx
  refine wpl_call _ _ rfl (by go_simp) _ hce ?_
  rintro e w1 ⟨v1, R1, rfl, hO1, hR1, hN1, hb1⟩
  refine ⟨_, rfl, ?_⟩
  clear hce
  (try simp only [Act.put, Z1, Z2, Z3, Z4, Z5, Z6])
  refine no_implicit_lambda% (wpl_val ?_ rfl ?_ ?_)
  rotate_left
  · (go_simp; (try with_reducible rfl))
  (try simp only [Act.put, Z1, Z2, Z3, Z4, Z5, Z6])
  refine no_implicit_lambda% (wpList_nil ?_)
  have hl9 : R1.length ≤ 9 := by
    have := congrArg List.length hR1
    rw [his_length] at this
    have := fewL_len (his R); omega
  obtain ⟨ao1, cap1, rfl, hc1, hH1⟩ := hO1.at_
  clear h hcap hmx hR1
  have hce := check_any hH1 hc1.1 (by omega)
  generalize hPc : P.chk (his R1) = pc at *
  replace hPc := Lib.hid hPc
  go_upto_region 2 with (fail)
  refine no_implicit_lambda% (wp_region_lit ?_)
  refine no_implicit_lambda% (wpl_val ?_ rfl ?_ ?_)
  rotate_left
  · (go_simp; (try with_reducible rfl))
  (try simp only [Act.put, Z1, Z2, Z4, Z5, Z6])
  refine wpl_call _ _ rfl (by go_simp) _ hce ?_
  rintro e w2 ⟨rfl, hbc⟩
  refine ⟨_, rfl, ?_⟩
  (try simp only [Act.put, Z1, Z2, Z3, Z4, Z5, Z6])
  iterate 5
    refine no_implicit_lambda% (wpl_val ?_ rfl ?_ ?_)
    rotate_left
    · (go_simp; (try with_reducible rfl))
    (try simp only [Act.put, Z1, Z2, Z3, Z4, Z5, Z6])
  refine no_implicit_lambda% (wpList_nil ?_)
  have hb2 := hb1.trans (hbc.mono hb1.size)
  have hH2 := hH1.below hbc
  clear hce hbc hO1 hH1 hb1
  clear w1
  go_upto_region 3 with (fail)
  refine no_implicit_lambda% (wp_region_lit ?_)
  refine wpl_run _ _ rfl (run_build0 rfl Try.underlying22 hie) ?_
  have hO0 : OwnH w2.heap.size (w2.alloc (.cells #[] 36)) (.slice (some ⟨w2.heap.size, 0, none⟩) 0 0) [] := ⟨own0 w2 w2.heap.size 36 5 (Nat.le_refl _), fun x hx => (by cases hx), fun x hx => by cases hx⟩
  have al := (Below.refl w2.heap.size w2).alloc (Nat.le_refl _) (.cells #[] 36)
  have hH3 := hH2.below al
  have hb3 := hb2.trans (al.mono hb2.size)
  have hs3 := hb2.size
  have hs4 := al.size
  (try simp only [Act.put, Z1, Z2, Z3, Z4, Z5, Z6])
  have hsl : ∀ x ∈ R1, ∀ b, vblk x.2.1 = some b ∨ vblk x.2.2 = some b → b < w2.heap.size := fun x hx b hb => (hH2.sub x hx).lt hb
  clear hH2
  replace al := Lib.hid al
  replace hsl := Lib.hid hsl
  generalize w2.alloc (.cells #[] 36) = W3 at *
  refine no_implicit_lambda% (wpl_val ?_ rfl ?_ ?_)
  rotate_left
  · (go_simp; (try with_reducible rfl))
  (try simp only [Act.put, Z1, Z2, Z3, Z4, Z5, Z6])
  have hfl : (R1.flatMap pcL).length = R1.length * 5 := flat_length pcL_length R1
  refine wpl_law rfl (wp_append_src _ _ 22 rfl w2.heap.size 36 ie _ 5 64 Try.underlying22 hie ze se ye rfl (by decide) (.slice (some ⟨w2.heap.size, 0, none⟩) 0 0) 0 [] rfl hO0.own (.slice ao1 R1.length cap1) R1.length (R1.flatMap pcL) rfl (RowAt.src pcL_length hH3.row rfl hc1.2 hc1.1 (by decide)) hfl (flat_one fun x hx u hu => by have := (hH3.sub x hx).one; rw [Array.all_eq_true_iff_forall_mem] at this; exact this u (by simpa [pcA, pcL] using hu)) ?_ ?_ ?_ ?_)
  · unfold maxLen; omega
  · omega
  · omega
  intro v4 W4 own4 gr4 _ hloc4
  have hv4 : ∀ b, v4.ownBlock = some b → w2.heap.size ≤ b := fun b hb => by
    rcases hloc4 with e | e
    · rw [hb] at e; have e9 : b = w2.heap.size := Option.some.inj e; omega
    · rw [hb] at e; have e9 := Option.some.inj e; omega
  have hF4 := Fr.of_grown gr4
  have hO4 : OwnH w2.heap.size W4 v4 R1 := by
    refine ⟨by simpa using own4, fun x hx => (hH3.sub x hx).fr hF4 fun b hb e => ?_, fun x hx b hb e => ?_⟩
    · have e9 : w2.heap.size = b := Option.some.inj e
      have := hsl.out x hx b hb; omega
    · have := hsl.out x hx b hb; have := hv4 b e; omega
  have hbel4 : Below w2.heap.size w2 W4 := Fr.below al.out hF4 (Nat.le_refl _) fun i e => by have e9 : w2.heap.size = i := Option.some.inj e; omega
  clear own4 gr4 hloc4 hF4 hO0 hH3 hfl hs3 hs4 al
  (try simp only [Act.put, Z1, Z2, Z3, Z4, Z5, Z6])
  refine no_implicit_lambda% (wpl_val ?_ rfl ?_ ?_)
  rotate_left
  · (go_simp; (try with_reducible rfl))
  (try simp only [Act.put, Z1, Z2, Z3, Z4, Z5, Z6])
  refine no_implicit_lambda% (wpList_nil ?_)
  have hb4 := hb2.trans (hbel4.mono hb2.size)
  have hv4l : ∀ b, v4.ownBlock = some b → b < W4.heap.size := fun b hb => (hO4.own.lt b hb).2
  have hv4lo := Lib.hid hv4
  clear hb3 hv4
  have h4 := h'.below hb4
  go_upto_region 4 with (fail)
  refine no_implicit_lambda% (wp_region_lit ?_)
  refine no_implicit_lambda% (wpl_val ?_ rfl ?_ ?_)
  rotate_left
  · (go_simp; (try with_reducible rfl))
  (try simp only [Act.put, Z1, Z2, Z4, Z5, Z6])
  have hce := few_any h4 hcap' hmx'
  refine wpl_call _ _ rfl (by go_simp) _ hce ?_
  rintro e W5 ⟨v5, R5, rfl, hO5, hR5, hN5, hb5⟩
  refine ⟨_, rfl, ?_⟩
  clear hce
  (try simp only [Act.put, Z1, Z2, Z3, Z4, Z5, Z6])
  have hl5 : R5.length ≤ 9 := by
    have := congrArg List.length hR5
    rw [his_length] at this
    have := fewL_len (his R'); omega
  have hO5l : ∀ b, v5.ownBlock = some b → W4.heap.size ≤ b := fun b hb => (hO5.own.lt b hb).1
  have hs5 := hb5.size
  have hO45 := hO4.below hb5
  obtain ⟨ao5, cap5, hv5e, hc5, hH5⟩ := hO5.at_
  subst hv5e
  have hF5 : ∀ wr, Fr (fun b => v4.ownBlock = some b) W5 wr → HAt wr ao5 R5 := fun wr k => hH5.fr k (fun a ea hne e => by
    have h1 := hv4l _ e
    have h2 := hO5l a.block (by rw [ea]; rfl)
    omega) fun x hx b hb e => by
    have h1 := hv4l _ e
    have h2 := hN5 x hx b hb
    omega
  have hNL : ∀ x ∈ R5, ∀ b, vblk x.2.1 = some b ∨ vblk x.2.2 = some b → W4.heap.size ≤ b ∧ b < W5.heap.size := fun x hx b hb => ⟨hN5 x hx b hb, (hH5.sub x hx).lt hb⟩
  replace hF5 := Lib.hid hF5
  replace hNL := Lib.hid hNL
  replace hv4l := Lib.hid hv4l
  have hb5w := Lib.hid (hb4.trans (hb5.mono hb4.size))
  have hw2s : w.heap.size ≤ w2.heap.size := hb2.size
  have hb25 : Below w2.heap.size w2 W5 := hbel4.trans (hb5.mono hbel4.size)
  clear h4 h' hcap' hmx' hR5 hN5 hO5l hO4 hb2 hbel4 hb4 hO5 hH5 hb5
  refine no_implicit_lambda% (wpl_val ?_ rfl ?_ ?_)
  rotate_left
  · (go_simp; (try with_reducible rfl))
  (try simp only [Act.put, Z1, Z2, Z3, Z4, Z5, Z6])
  refine no_implicit_lambda% (wpl_val ?_ rfl ?_ ?_)
  rotate_left
  · (go_simp; (try with_reducible rfl))
  (try simp only [Act.put, Z1, Z2, Z3, Z4, Z5, Z6])
  refine no_implicit_lambda% (wpList_nil ?_)
  have HO := Lib.hid hO45
  clear hO45
  go_wp2_with fail
  go_loopw [25, 7] (fun i o wr => ∃ (k : Nat), i = .int .i64 k ∧ k ≤ R5.length ∧ OwnH w2.heap.size wr o (R1 ++ (R5.take k).map undoR) ∧ Fr (fun b => v4.ownBlock = some b) W5 wr ∧ Hid (∀ b, o.ownBlock = some b → v4.ownBlock = some b ∨ W5.heap.size ≤ b)) (fun i _ _ => R5.length - (intOf i).toNat)
  case atStart => exact ⟨0, rfl, Nat.zero_le _, by simpa using HO.out, Fr.refl _ _, fun b hb => .inl hb⟩
  case round =>
    clear HO
    obtain ⟨k, rfl, hk, hO, hS, hT⟩ := hrel
    by_cases hlt : k < R5.length
    · have hlt' : (k : Int) < (R5.length : Int) := by omega
      obtain ⟨x, hx⟩ : ∃ x, R5[k]? = some x := ⟨_, List.getElem?_eq_getElem hlt⟩
      have hHr := hF5.out wr hS
      obtain ⟨b, o, rfl, hbl, hr⟩ := hHr.row k x hx
      replace hr := Lib.hid hr
      have hsub := hHr.sub x (List.mem_of_getElem? hx)
      have hone := Lib.hid hsub.one
      have hnl := hNL.out x (List.mem_of_getElem? hx)
      have hT2 : Hid (R1 ++ (R5.take k).map undoR ++ [undoR x] = R1 ++ (R5.take (k + 1)).map undoR) := by
        unfold Hid
        rw [List.take_add_one, hx, List.map_append, List.append_assoc]; rfl
      have hap : ∀ b, vblk (undoR x).2.1 = some b ∨ vblk (undoR x).2.2 = some b → u7.ownBlock ≠ some b := fun b hb e => by
        have h2 := hnl b hb
        rcases hT.out b e with h1 | h1
        · have := hv4l.out b h1; omega
        · omega
      have hMl : (R1 ++ (R5.take k).map undoR).length ≤ 18 := by simp; omega
      clear hx hHr hnl
      go_upto_region 6 with (fail)
      refine no_implicit_lambda% (wp_region_lit ?_)
      refine no_implicit_lambda% (wpl_val ?_ rfl ?_ ?_)
      rotate_left
      · (go_simp; (try with_reducible rfl))
      (try simp only [Act.put, Z1, Z2, Z4, Z5, Z6])
      refine wpList_load_mid rfl 36 _ rfl b (o + k * 5) rfl (pcL x) _ hr.out Try.underlying36 rfl (size36' x) ?_
      (try simp only [Act.put, Z1, Z2, Z3, Z4, Z5, Z6])
      refine wpl_alloc 36 (pcA noR) rfl rfl hz36 ?_
      (try simp only [Act.put, Z1, Z2, Z3, Z4, Z5, Z6])
      refine wpList_store_fr rfl 36 _ _ rfl wr.heap.size (pcA x) rfl rfl 36 _ (Blk.alloc_new _ _ _) (size36 x) rfl hone.out ?_
      intro w9 hB9 hF9
      (try simp only [Act.put, Z1, Z2, Z3, Z4, Z5, Z6])
      refine no_implicit_lambda% (wpList_nil ?_)
      have hb9 := box_below hF9
      have hO9 := hO.below hb9
      have hsub9 := hsub.below hb9
      have hS9 : Fr (fun b => v4.ownBlock = some b) W5 w9 := hS.trans (Fr.of_below hb9 fun _ => False) fun i _ e => e.elim
      have hws := hS.size
      have hbx := hB9.lt
      have hbown : ∀ b, u7.ownBlock = some b → b < wr.heap.size := fun b hb => (hO.own.lt b hb).2
      have hbsub : ∀ b, vblk x.2.1 = some b ∨ vblk x.2.2 = some b → b < wr.heap.size := fun b hb => hsub.lt hb
      have hosub : ∀ y ∈ R1 ++ (R5.take k).map undoR, ∀ b, vblk y.2.1 = some b ∨ vblk y.2.2 = some b → b < wr.heap.size := fun y hy b hb => (hO.sub y hy).lt hb
      have hlow : w2.heap.size ≤ wr.heap.size := Nat.le_trans hb25.size hws
      clear hF9 hr hbl hb9 hone hsub hO hS
      generalize wr.heap.size = bx at *
      have size4 : (Try.prog.info? 4).map (·.size) = some 1 := by kernel_rfl
      go_upto_region 7 with (fail)
      refine no_implicit_lambda% (wp_region_lit ?_)
      refine no_implicit_lambda% (wpl_val ?_ rfl ?_ ?_)
      rotate_left
      · (go_simp; (try with_reducible rfl))
      (try simp only [Act.put, Z1, Z2, Z4, Z5, Z6])
      refine wpl_law rfl (wp_store_one 4 _ _ rfl ⟨bx, 2, none⟩ (.bool x.1.done) (.bool false) rfl rfl size4 rfl (by rw [hB9.cell]; rfl) (hB9.free 2) ?_)
      (try simp only [Act.put, Z1, Z2, Z3, Z4, Z5, Z6])
      refine no_implicit_lambda% (wpList_nil ?_)
      have hBx : Blk (w9.setCell ⟨bx, 2, none⟩ (.bool false)) bx (pcA (undoR x)) 36 := box_set hB9 2 (.bool false)
      have hFb : Fr (fun i => i = bx) w9 (w9.setCell ⟨bx, 2, none⟩ (.bool false)) := (Fr.refl _ _).setCell _ _ fun _ => rfl
      have hO8 : OwnH w2.heap.size (w9.setCell ⟨bx, 2, none⟩ (.bool false)) u7 (R1 ++ (R5.take k).map undoR) := by
        refine ⟨own_fr hO9.own hFb fun b hb e => by have := hbown b hb; omega, fun y hy => ?_, hO9.apart⟩
        refine (hO9.sub y hy).fr hFb fun b hb e => ?_
        have := hosub y hy b hb; omega
      have hsub8 : SubAt (w9.setCell ⟨bx, 2, none⟩ (.bool false)) (undoR x) := undoR_sub (hsub9.fr hFb fun b hb e => by have := hbsub b hb; omega)
      have hS8 : Fr (fun b => v4.ownBlock = some b) W5 (w9.setCell ⟨bx, 2, none⟩ (.bool false)) := hS9.trans hFb fun i hi e => by omega
      clear hB9 hFb hO9 hsub9 hS9 size4
      generalize w9.setCell ⟨bx, 2, none⟩ (.bool false) = V at *
      generalize undoR x = y at *
      have hone := Lib.hid hsub8.one
      replace hap := Lib.hid hap
      replace hT2 := Lib.hid hT2
      clear hosub hbsub hbown
      have hbx8 := hBx.lt
      go_upto_region 8 with (fail)
      refine no_implicit_lambda% (wp_region_lit ?_)
      refine no_implicit_lambda% (wpl_val ?_ rfl ?_ ?_)
      rotate_left
      · (go_simp; (try with_reducible rfl))
      (try simp only [Act.put, Z1, Z2, Z4, Z5, Z6])
      refine wpl_val (.agg (pcA y)) rfl (run_load_cs rfl rfl hBx Try.underlying36 rfl (size36 y)) ?_
      (try simp only [Act.put, Z1, Z2, Z3, Z4, Z5, Z6])
      refine wpl_law rfl (wp_buildSlice 22 36 1 _ rfl (pcA y) ie _ Try.underlying22 hie ze (by rw [se]; decide) (by rw [se]; decide) ?c1 ?_)
      case c1 => (simp only [se, List.map_toArray, List.map_cons, List.map_nil]; exact fill36 _)
      have hlit : Blk (V.alloc (.cells (pcA y) 36)) V.heap.size (pcL y).toArray 36 := Blk.alloc_new _ _ _
      have al := (Below.refl V.heap.size V).alloc (Nat.le_refl _) (.cells (pcA y) 36)
      have hsub4 := hsub8.below al
      have hO4 := hO8.below al
      have hS4 : Fr (fun b => v4.ownBlock = some b) W5 (V.alloc (.cells (pcA y) 36)) := hS8.trans (Fr.of_below al fun _ => False) fun i _ e => e.elim
      have hs4 := al.size
      (try simp only [Act.put, Z1, Z2, Z3, Z4, Z5, Z6])
      clear al hsub8 hO8 hS8 hBx
      generalize V.alloc (.cells (pcA y) 36) = U at *
      generalize V.heap.size = lb at *
      clear V
      generalize hM : R1 ++ (R5.take k).map undoR = M at *
      replace hM := Lib.hid hM
      refine wpl_law rfl (wp_append_src _ _ 22 rfl w2.heap.size 36 ie _ 5 64 Try.underlying22 hie ze se ye rfl (by decide) u7 M.length _ rfl hO4.own _ 1 (pcL y) rfl (src_blk hlit) (pcL_length _) (fun u hu => by have := hone.out; rw [Array.all_eq_true_iff_forall_mem] at this; exact this u (by simpa [pcA, pcL] using hu)) ?_ ?_ ?_ ?_)
      · unfold maxLen; omega
      · omega
      · omega
      intro v7 W7 own7 gr7 _ hloc7
      have hO7 := hO4.push hsub4 hap.out own7 gr7 hloc7
      have hS7 : Fr (fun b => v4.ownBlock = some b) W5 W7 := hS4.trans (Fr.of_grown gr7) fun i hi e => (hT.out i e).elim id fun h => by omega
      have hT7 : Hid (∀ b, v7.ownBlock = some b → v4.ownBlock = some b ∨ W5.heap.size ≤ b) := fun b hb => by
        rcases hloc7 with e | e
        · exact hT.out b (e ▸ hb)
        · rw [hb] at e
          have e9 := Option.some.inj e
          have := hS4.size
          exact .inr (by omega)
      rw [hT2.out] at hO7
      clear hO4 hsub4 hap own7 gr7 hloc7 hlit hone hS4 hs4 hMl hT hT2
      (try simp only [Act.put, Z1, Z2, Z3, Z4, Z5, Z6])
      refine no_implicit_lambda% (wpl_val ?_ rfl ?_ ?_)
      rotate_left
      · (go_simp; (try with_reducible rfl))
      (try simp only [Act.put, Z1, Z2, Z3, Z4, Z5, Z6])
      refine no_implicit_lambda% (wpList_nil ?_)
      go_wp2_with fail
      go_roundw
      case rel => exact ⟨k + 1, by go_num, by omega, hO7, hS7, hT7⟩
      case measure => simp [intOf]; omega
    · obtain rfl : k = R5.length := by omega
      have hPm : Hid (P.chk (his (R1 ++ (R5.take R5.length).map undoR)) = pc) := by
        unfold Hid
        rw [← hPc.out, List.take_length, his, List.map_append]
        refine P.chk_undone fun a ha => ?_
        obtain ⟨x, hx, rfl⟩ := List.mem_map.1 ha
        obtain ⟨y, _, rfl⟩ := List.mem_map.1 hx
        rfl
      have hMl : (R1 ++ (R5.take R5.length).map undoR).length ≤ 18 := by simp; omega
      clear hT hlt
      generalize R1 ++ (R5.take R5.length).map undoR = M at *
      have hS2 : Below w2.heap.size w2 wr := Fr.below hb25 hS (Nat.le_refl _) fun i e => hv4lo.out i e
      obtain ⟨ao2, cap2, hve, hc2, hHM⟩ := hO.at_
      subst hve
      have hce := check_any hHM hc2.1 (by omega)
      rw [hPm.out] at hce
      go_upto_region 10 with (fail)
      refine no_implicit_lambda% (wp_region_lit ?_)
      refine no_implicit_lambda% (wpl_val ?_ rfl ?_ ?_)
      rotate_left
      · (go_simp; (try with_reducible rfl))
      (try simp only [Act.put, Z1, Z2, Z4, Z5, Z6])
      refine wpl_call _ _ rfl (by go_simp) _ hce ?_
      rintro e w3 ⟨rfl, hbc⟩
      refine ⟨_, rfl, ?_⟩
      (try simp only [Act.put, Z1, Z2, Z3, Z4, Z5, Z6])
      iterate 5
        refine no_implicit_lambda% (wpl_val ?_ rfl ?_ ?_)
        rotate_left
        · (go_simp; (try with_reducible rfl))
        (try simp only [Act.put, Z1, Z2, Z3, Z4, Z5, Z6])
      refine no_implicit_lambda% (wpList_nil ?_)
      have hb1w : Below w.heap.size w wr := Fr.below hb5w.out hS (Nat.le_refl _) fun i e => by have := hv4lo.out i e; omega
      have hb3 := Lib.hid (hb1w.trans (hbc.mono hb1w.size))
      clear hb1w
      clear hce hbc hO hS hHM hPm hS2
      go_upto_region 11 with (fail)
      refine no_implicit_lambda% (wp_region_lit ?_)
      iterate 9
        refine no_implicit_lambda% (wpl_val ?_ rfl ?_ ?_)
        rotate_left
        · (go_simp; (try with_reducible rfl))
        (try simp only [Act.put, Z1, Z2, Z3, Z4, Z5, Z6])
      refine wpl_call _ _ rfl (by go_simp) _ (awake_any w3) ?_
      rintro e w9 ⟨rfl, hb9⟩
      refine ⟨_, rfl, ?_⟩
      (try simp only [Act.put, Z1, Z2, Z3, Z4, Z5, Z6])
      iterate 2
        refine no_implicit_lambda% (wpl_val ?_ rfl ?_ ?_)
        rotate_left
        · (go_simp; (try with_reducible rfl))
        (try simp only [Act.put, Z1, Z2, Z3, Z4, Z5, Z6])
      refine no_implicit_lambda% (wpList_nil ?_)
      go_wp2_with fail
      go_ret
      exact ⟨rfl, hb3.out.trans (hb9.mono hb3.out.size)⟩
end Go.Proofs.Ytnemaolbmocncaa
