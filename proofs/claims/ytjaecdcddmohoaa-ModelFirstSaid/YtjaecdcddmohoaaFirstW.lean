/- The walk of ModelFirst. -/
import Derived.Test.YtjaecdcddmohoaaLoW
namespace Go.Proofs.Ytjaecdcddmohoaa.P
open Go.Proofs.Ytjaecdcddmohoaa
theorem first_chain {M2 : Md} {m2 : Nat} {n n' q : Int} {ls : Nat} {a b : ByteArray} (hsh : M2.shut = false) (ok2 : Ok M2 m2) (hp : q < M2.pages) (hr : ls + 1 < M2.max) (hl : M2.last = ls)
    (hn : get M2.live n = some ⟨ls, []⟩) (hn' : get M2.live n' = some ⟨ls, []⟩) (hne : n ≠ n') (hc : n ≤ M2.count) (hc' : n' ≤ M2.count) (ha : a.size ≤ 64) (hb : b.size ≤ 64) :
    ∃ M3 M4 M5 M6 b2, step M2 ⟨2, n, q, 0, a⟩ = (M3, ok 0 zb) ∧ step M3 ⟨2, n', q, 0, b⟩ = (M4, ok 0 zb) ∧ step M4 ⟨1, n', q, 0, es⟩ = (M4, ok ls b2) ∧ step M4 ⟨3, n', 0, 0, es⟩ = (M5, ok (ls + 1) zb) ∧ step M5 ⟨3, n, 0, 0, es⟩ = (M6, err 7) ∧ at' M6 q M6.last = ⟨ls + 1, b2⟩ := by
  obtain ⟨M3, h3, w3, l3⟩ := wr_first (s := a) hsh hp (by omega) (hl ▸ hn) ha
  have ok3 : Ok M3 (m2 + 1) := by have := ok_step ok2 ⟨2, n, q, 0, a⟩; rwa [h3] at this
  have k3 : Kept M2 M3 := by have := kept_step M2 ⟨2, n, q, 0, a⟩; rwa [h3] at this
  have g3 : get M3.live n' = some ⟨ls, []⟩ := by have := live_step ok2 (c := ⟨2, n, q, 0, a⟩) hc' hne; rw [h3] at this; exact this.trans hn'
  obtain ⟨M4, h4, w4, l4⟩ := wr_first (n := n') (s := b) w3.shut w3.pg w3.room (by rw [g3, l3, hl]) hb
  have ok4 : Ok M4 (m2 + 1 + 1) := by have := ok_step ok3 ⟨2, n', q, 0, b⟩; rwa [h4] at this
  have k4 : Kept M3 M4 := by have := kept_step M3 ⟨2, n', q, 0, b⟩; rwa [h4] at this
  have g4 : get M4.live n = some ⟨M3.last, [(q, cpy (at' M2 q M2.last).b 0 a)]⟩ := by
    have := live_step ok3 (c := ⟨2, n', q, 0, b⟩) (n := n) (by have := k3.cnt; omega) (fun e => hne e.symm)
    rw [h4] at this
    exact this.trans w3.live
  obtain ⟨M5, h5, s5, g5, l5, a5⟩ := w4.commit ok4
  have k5 : Kept M4 M5 := by have := kept_step M4 ⟨3, n', 0, 0, es⟩; rwa [h5] at this
  have g6 : get M5.live n = some ⟨M3.last, [(q, cpy (at' M2 q M2.last).b 0 a)]⟩ := by
    have := live_step ok4 (c := ⟨3, n', 0, 0, es⟩) (n := n) (by have := k3.cnt; have := k4.cnt; omega) (fun e => hne e.symm)
    rw [h5] at this
    exact this.trans g4
  have e4 : M4.last = ls := by rw [l4, l3, hl]
  have e3 : M3.last = ls := by rw [l3, hl]
  refine ⟨M3, M4, M5, { M5 with live := del M5.live n }, cpy (at' M3 q M3.last).b 0 b, h3, h4, ?_, ?_, ?_, ?_⟩
  · have := w4.read; rwa [e4] at this
  · rw [h5, e4]
  · rw [commit_to s5 g6 0 0]
    refine com_conf1 (M := { M5 with live := del M5.live n }) ?_ rfl ?_
    · show M3.last < (at' M5 q M5.last).ts
      rw [a5, e4, e3]; exact Nat.lt_succ_self _
    · show M5.last ≠ M5.max
      rw [l5, e4, k5.max, k4.max, k3.max]; omega
  · show at' M5 q M5.last = _
    rw [a5, e4]
end Go.Proofs.Ytjaecdcddmohoaa.P
namespace Go.Proofs.Ytjaecdcddmohoaa
open Go.RowKit
set_option linter.unusedSimpArgs false
set_option linter.unusedVariables false
set_option maxRecDepth 100000 in
set_option maxHeartbeats 8000000 in
theorem first_walk (ao0 : Option Addr) (n0 cap0 : Nat) (C0 : Nat → P.Cl) (p : Int) (sa sb : ByteArray) (w : World) (hops0 : OpsAt w ao0 n0 C0) (hm : n0 ≤ maxLen) (hcap : n0 ≤ cap0) (hp : 0 ≤ p ∧ p ≤ 65535) (hsa : sa.size ≤ maxLen) (hsb : sb.size ≤ maxLen) :
    Calls Try.prog 5 #[.slice ao0 n0 cap0, .int .u16 p, .string sa, .string sb] w fun e w' => e = .returned (.bool true) ∧ Below w.heap.size w w' := by
  have hz40 := zero40.1
  have hz35 := zero35.1
  have hz44 := zero44.1
  have hao := hops0.some
  go_enter Try.func5, Try.ntmps5
  go_upto_region 1 with (fail)
  refine wp_region_lit ?_
  refine wpl_call _ _ rfl (by go_simp) _ (new_in _ 8 1073741824 (by omega)) ?_
  rintro e w1 ⟨m, rfl, hms, hb⟩
  refine ⟨_, rfl, ?_⟩
  have hS := SS.start hms hb (by omega) (by omega)
  have hI := P.Iv.new
  have hL0 : LpR w m.c (min n0 40) (.int .i64 0) w1 := ⟨0, _, 0, rfl, Nat.zero_le _, hS, hI, Nat.le_refl _⟩
  have hbel1 := hb
  clear hS hI hms hb
  generalize m.c = c at *
  (try simp only [Act.put, List.getElem_toArray, List.getElem_cons_zero, List.getElem_cons_succ, List.setIfInBounds_toArray, List.set_cons_zero, List.set_cons_succ])
  refine wpl_val ?_ rfl ?_ ?_
  rotate_left
  · (go_simp; (try with_reducible rfl))
  (try simp only [Act.put, List.getElem_toArray, List.getElem_cons_zero, List.getElem_cons_succ, List.setIfInBounds_toArray, List.set_cons_zero, List.set_cons_succ])
  refine wpList_nil ?_
  have hN : min n0 40 ≤ n0 ∧ min n0 40 ≤ 40 := by omega
  have hops := Lib.hid (hops0.mono (Below.refl _ _) hN.1)
  replace hL0 := Lib.hid hL0
  clear hops0
  go_upto_region 4 with (fail)
  refine wp_region_lit ?_
  refine wpl_val ?_ rfl ?_ ?_
  rotate_left
  · (go_simp; (try with_reducible rfl))
  (try simp only [Act.put, List.getElem_toArray, List.getElem_cons_zero, List.setIfInBounds_toArray, List.set_cons_zero, List.set_cons_succ])
  refine wpl_call _ _ rfl (by go_simp) _ (small_any ao0 n0 cap0 _ hcap hao) ?_
  rintro e w' ⟨rfl, rfl⟩
  refine ⟨_, rfl, ?_⟩
  (try simp only [Act.put, List.getElem_toArray, List.getElem_cons_zero, List.getElem_cons_succ, List.setIfInBounds_toArray, List.set_cons_zero, List.set_cons_succ])
  refine wpl_val ?_ rfl ?_ ?_
  rotate_left
  · (go_simp; (try with_reducible rfl))
  (try simp only [Act.put, List.getElem_toArray, List.getElem_cons_zero, List.getElem_cons_succ, List.setIfInBounds_toArray, List.set_cons_zero, List.set_cons_succ])
  refine wpl_val ?_ rfl ?_ ?_
  rotate_left
  · (go_simp; (try with_reducible rfl))
  (try simp only [Act.put, List.getElem_toArray, List.getElem_cons_zero, List.getElem_cons_succ, List.setIfInBounds_toArray, List.set_cons_zero, List.set_cons_succ])
  refine wpList_nil ?_
  generalize min n0 40 = N at *
  have hN40 := hN.2
  clear hN hao
  go_wp2_with fail
  go_loopw [24] (fun i wr => LpR w c N i wr) (fun i _ => N - (intOf i).toNat)
  case atStart => exact hL0.out
  case round =>
    obtain ⟨k, M, j, rfl, hk, hS, hI, hj⟩ := hrel
    replace hI := Lib.hid hI
    by_cases hlt : k < N
    · have hlt' : (k : Int) < (N : Int) := by omega
      obtain ⟨sb, so, rfl, hr⟩ := hops.out.load hS.below hlt
      replace hr := Lib.hid hr
      go_upto_region 6 with (fail)
      refine wp_region_lit ?_
      refine wpl_val ?_ rfl ?_ ?_
      rotate_left
      · (go_simp; (try with_reducible rfl))
      (try simp only [Act.put, List.getElem_toArray, List.getElem_cons_zero, List.setIfInBounds_toArray, List.set_cons_zero, List.set_cons_succ])
      refine wpList_load_mid rfl 35 _ rfl sb (so + k * 5) rfl (clL (C0 k)) _ hr.out Try.underlying35 rfl (size35 (C0 k)) ?_
      (try simp only [Act.put, List.getElem_toArray, List.getElem_cons_zero, List.getElem_cons_succ, List.setIfInBounds_toArray, List.set_cons_zero, List.set_cons_succ])
      refine wpl_alloc 35 (clA ⟨0, 0, 0, 0, P.es⟩) rfl rfl hz35 ?_
      (try simp only [Act.put, List.getElem_toArray, List.getElem_cons_zero, List.getElem_cons_succ, List.setIfInBounds_toArray, List.set_cons_zero, List.set_cons_succ])
      refine wpl_law rfl (wp_store_row 35 _ _ rfl wr.heap.size (clA (C0 k)) rfl rfl 35 _ (Blk.alloc_new _ _ _) (size35 _) rfl (clA_one _) ?_)
      (try simp only [Act.put, List.getElem_toArray, List.getElem_cons_zero, List.getElem_cons_succ, List.setIfInBounds_toArray, List.set_cons_zero, List.set_cons_succ])
      refine wpList_nil ?_
      obtain ⟨hS2, hB, hb⟩ := hS.box (clA ⟨0, 0, 0, 0, P.es⟩) (clA (C0 k)) 35
      generalize (wr.alloc (.cells (clA ⟨0, 0, 0, 0, P.es⟩) 35)).setRow wr.heap.size (clA (C0 k)) = V at *
      generalize wr.heap.size = bx at *
      have hok := Lib.hid (hops.out.ok k hlt)
      clear hS hr
      go_upto_region 7 with (fail)
      refine wp_region_lit ?_
      refine wpl_val ?_ rfl ?_ ?_
      rotate_left
      · (go_simp; (try with_reducible rfl))
      (try simp only [Act.put, List.getElem_toArray, List.getElem_cons_zero, List.setIfInBounds_toArray, List.set_cons_zero, List.set_cons_succ])
      refine wpl_val ?_ rfl ?_ ?_
      rotate_left
      · (have c0 := (show V.cell? ⟨bx, 0, none⟩ = some (.int .u8 (C0 k).kind) by rw [hB.cell]; rfl); go_simp; (try with_reducible rfl))
      (try simp only [Act.put, List.getElem_toArray, List.getElem_cons_zero, List.getElem_cons_succ, List.setIfInBounds_toArray, List.set_cons_zero, List.set_cons_succ])
      refine wpl_val ?_ rfl ?_ ?_
      rotate_left
      · (go_simp; (try with_reducible rfl))
      (try simp only [Act.put, List.getElem_toArray, List.getElem_cons_zero, List.getElem_cons_succ, List.setIfInBounds_toArray, List.set_cons_zero, List.set_cons_succ])
      refine wpList_nil ?_
      by_cases h7 : (C0 k).kind < 7
      · go_upto_region 8 with (fail)
        refine wp_region_lit ?_
        refine wpl_val ?_ rfl ?_ ?_
        rotate_left
        · (go_simp; (try with_reducible rfl))
        (try simp only [Act.put, List.getElem_toArray, List.getElem_cons_zero, List.setIfInBounds_toArray, List.set_cons_zero, List.set_cons_succ])
        refine wpl_val (.agg (clA (C0 k))) rfl (cl_load hB rfl rfl) ?_
        (try simp only [Act.put, List.getElem_toArray, List.getElem_cons_zero, List.getElem_cons_succ, List.setIfInBounds_toArray, List.set_cons_zero, List.set_cons_succ])
        refine wpl_call _ _ rfl (by go_simp) _ (hS2.do_ (cl := C0 k) (by omega) hok.out.1) ?_
        rintro e w5 ⟨rfl, hS5, hf⟩
        refine ⟨_, rfl, ?_⟩
        have hI5 := Lib.hid (hI.out.step h7)
        clear hS2 hf hb hB
        (try simp only [Act.put, List.getElem_toArray, List.getElem_cons_zero, List.getElem_cons_succ, List.setIfInBounds_toArray, List.set_cons_zero, List.set_cons_succ])
        refine wpList_nil ?_
        go_wp2_with fail
        go_roundw
        case rel => exact ⟨k + 1, _, j + 1, by go_num, by omega, hS5.more (fun b e => e.elim), hI5.out, by omega⟩
        case measure => simp [intOf]; omega
      · have h7' : 7 ≤ (C0 k).kind := by omega
        go_wp2_with fail
        go_roundw
        case rel => exact ⟨k + 1, M, j, by go_num, by omega, hS2.more (fun b e => e.elim), hI.out, by omega⟩
        case measure => simp [intOf]; omega
    · obtain rfl : k = N := by omega
      replace hI := hI.out
      clear hlt hops hL0
      have hj' : j ≤ 100 := by omega
      clear hj
      have hp0 : 0 ≤ p := hp.1
      have hp1 : p ≤ 65535 := hp.2
      go_upto_region 10 with (fail)
      refine wp_region_lit ?_
      refine wpl_val ?_ rfl ?_ ?_
      rotate_left
      · (go_simp; (try with_reducible rfl))
      (try simp only [Act.put, List.getElem_toArray, List.getElem_cons_zero, List.setIfInBounds_toArray, List.set_cons_zero, List.set_cons_succ])
      refine wpl_val ?_ rfl ?_ ?_
      rotate_left
      · (go_simp; (try with_reducible rfl))
      (try simp only [Act.put, List.getElem_toArray, List.getElem_cons_zero, List.getElem_cons_succ, List.setIfInBounds_toArray, List.set_cons_zero, List.set_cons_succ])
      refine wpl_val ?_ rfl ?_ ?_
      rotate_left
      · (go_simp; (try with_reducible rfl))
      (try simp only [Act.put, List.getElem_toArray, List.getElem_cons_zero, List.getElem_cons_succ, List.setIfInBounds_toArray, List.set_cons_zero, List.set_cons_succ])
      refine wpList_nil ?_
      have hq : 0 ≤ p.tmod 8 ∧ p.tmod 8 < 8 := by rw [Int.tmod_eq_emod_of_nonneg hp0]; omega
      generalize p.tmod 8 = q at *
      clear hp hp0 hp1 hcap
      have hsh := Lib.hid hI.shut
      have hpg : Hid (q < M.pages) := by unfold Hid; rw [hI.pages]; exact hq.2
      have hrm : Hid (M.last + 1 < M.max) := by unfold Hid; rw [hI.max]; have := hI.last; omega
      have hll : M.last ≤ 100 := Nat.le_trans hI.last hj'
      have hcb0 : ClOk ⟨0, 0, 0, 0, P.es⟩ := clok0 (by omega) (by omega)
      have hcnt := hS.ok.cnt
      have hkeys := Lib.hid (fun x hx => hS.ok.key x hx)
      clear hI
      go_upto_region 11 with (fail)
      refine wp_region_lit ?_
      refine wpl_val ?_ rfl ?_ ?_
      rotate_left
      · (go_simp; (try with_reducible rfl))
      (try simp only [Act.put, List.getElem_toArray, List.getElem_cons_zero, List.setIfInBounds_toArray, List.set_cons_zero, List.set_cons_succ])
      refine wpl_val (.agg (clA ⟨0, 0, 0, 0, P.es⟩)) rfl (run_buildE rfl (by go_simp; exact b35_0 0)) ?_
      (try simp only [Act.put, List.getElem_toArray, List.getElem_cons_zero, List.getElem_cons_succ, List.setIfInBounds_toArray, List.set_cons_zero, List.set_cons_succ])
      by_cases h8 : M.live.length = 8
      · have hst := P.begin_many hsh.out h8 0 0 0 P.es
        refine wpl_call _ _ rfl (by go_simp) _ (hS.do_ (cl := ⟨0, 0, 0, 0, P.es⟩) (by omega) hcb0) ?_
        rintro e w2 ⟨rfl, hS2, hf⟩
        refine ⟨_, rfl, ?_⟩
        clear hS
        (try simp only [Act.put, List.getElem_toArray, List.getElem_cons_zero, List.getElem_cons_succ, List.setIfInBounds_toArray, List.set_cons_zero, List.set_cons_succ])
        refine wpl_alloc 40 (rpA ⟨0, 0, 0, P.zb⟩) rfl rfl hz40 ?_
        (try simp only [Act.put, List.getElem_toArray, List.getElem_cons_zero, List.getElem_cons_succ, List.setIfInBounds_toArray, List.set_cons_zero, List.set_cons_succ])
        refine wpl_law rfl (wp_store_row 40 _ _ rfl w2.heap.size (rpA (P.step M ⟨0, 0, 0, 0, P.es⟩).2) rfl rfl 40 _ (Blk.alloc_new _ _ _) (size40 _) (by simp only [rpA_size]) (rpA_one _) ?_)
        (try simp only [Act.put, List.getElem_toArray, List.getElem_cons_zero, List.getElem_cons_succ, List.setIfInBounds_toArray, List.set_cons_zero, List.set_cons_succ])
        refine wpList_nil ?_
        obtain ⟨hS, hB, hb⟩ := hS2.box (rpA ⟨0, 0, 0, P.zb⟩) (rpA (P.step M ⟨0, 0, 0, 0, P.es⟩).2) 40
        have hx := hb.size
        have hx2 := hB.lt
        clear hS2
        generalize (w2.alloc (.cells (rpA ⟨0, 0, 0, P.zb⟩) 40)).setRow w2.heap.size (rpA (P.step M ⟨0, 0, 0, 0, P.es⟩).2) = V at *
        rw [hst] at hS hB
        dsimp only at hS hB
        have hX := hB
        clear hf hb hB
        generalize w2.heap.size = xx at *
        obtain ⟨V0, rfl⟩ : ∃ V0, V0 = V := ⟨_, rfl⟩
        go_upto_region 12 with (fail)
        refine wp_region_lit ?_
        refine wpl_val ?_ rfl ?_ ?_
        rotate_left
        · (go_simp; (try with_reducible rfl))
        (try simp only [Act.put, List.getElem_toArray, List.getElem_cons_zero, List.setIfInBounds_toArray, List.set_cons_zero, List.set_cons_succ])
        refine wpl_val (.agg (clA ⟨0, 0, 0, 0, P.es⟩)) rfl (run_buildE rfl (by go_simp; exact b35_0 0)) ?_
        (try simp only [Act.put, List.getElem_toArray, List.getElem_cons_zero, List.getElem_cons_succ, List.setIfInBounds_toArray, List.set_cons_zero, List.set_cons_succ])
        refine wpl_call _ _ rfl (by go_simp) _ (hS.do_ (cl := ⟨0, 0, 0, 0, P.es⟩) (by omega) hcb0) ?_
        rintro e w2 ⟨rfl, hS2, hf⟩
        refine ⟨_, rfl, ?_⟩
        clear hS
        (try simp only [Act.put, List.getElem_toArray, List.getElem_cons_zero, List.getElem_cons_succ, List.setIfInBounds_toArray, List.set_cons_zero, List.set_cons_succ])
        refine wpl_alloc 40 (rpA ⟨0, 0, 0, P.zb⟩) rfl rfl hz40 ?_
        (try simp only [Act.put, List.getElem_toArray, List.getElem_cons_zero, List.getElem_cons_succ, List.setIfInBounds_toArray, List.set_cons_zero, List.set_cons_succ])
        refine wpl_law rfl (wp_store_row 40 _ _ rfl w2.heap.size (rpA (P.step M ⟨0, 0, 0, 0, P.es⟩).2) rfl rfl 40 _ (Blk.alloc_new _ _ _) (size40 _) (by simp only [rpA_size]) (rpA_one _) ?_)
        (try simp only [Act.put, List.getElem_toArray, List.getElem_cons_zero, List.getElem_cons_succ, List.setIfInBounds_toArray, List.set_cons_zero, List.set_cons_succ])
        refine wpList_nil ?_
        obtain ⟨hS, hB, hb⟩ := hS2.box (rpA ⟨0, 0, 0, P.zb⟩) (rpA (P.step M ⟨0, 0, 0, 0, P.es⟩).2) 40
        have hx := hb.size
        have hx2 := hB.lt
        clear hS2
        generalize (w2.alloc (.cells (rpA ⟨0, 0, 0, P.zb⟩) 40)).setRow w2.heap.size (rpA (P.step M ⟨0, 0, 0, 0, P.es⟩).2) = V at *
        rw [hst] at hS hB
        dsimp only at hS hB
        replace hX := (hX.fr hf (fun e => e (by simp))).below hb
        clear hst hf hb hB
        generalize w2.heap.size = xy at *
        go_upto_region 13 with (fail)
        refine wp_region_lit ?_
        refine wpl_val ?_ rfl ?_ ?_
        rotate_left
        · (go_simp; (try with_reducible rfl))
        (try simp only [Act.put, List.getElem_toArray, List.getElem_cons_zero, List.setIfInBounds_toArray, List.set_cons_zero, List.set_cons_succ])
        refine wpl_val ?_ rfl ?_ ?_
        rotate_left
        · (have c0 := (show V.cell? ⟨xx, 0, none⟩ = some (.int .i64 10) by rw [hX.cell]; rfl); go_simp; (try with_reducible rfl))
        (try simp only [Act.put, List.getElem_toArray, List.getElem_cons_zero, List.getElem_cons_succ, List.setIfInBounds_toArray, List.set_cons_zero, List.set_cons_succ])
        refine wpl_val ?_ rfl ?_ ?_
        rotate_left
        · (go_simp; (try with_reducible rfl))
        (try simp only [Act.put, List.getElem_toArray, List.getElem_cons_zero, List.getElem_cons_succ, List.setIfInBounds_toArray, List.set_cons_zero, List.set_cons_succ])
        refine wpl_val ?_ rfl ?_ ?_
        rotate_left
        · (go_simp; (try with_reducible rfl))
        (try simp only [Act.put, List.getElem_toArray, List.getElem_cons_zero, List.getElem_cons_succ, List.setIfInBounds_toArray, List.set_cons_zero, List.set_cons_succ])
        refine wpl_skip rfl ?_
        (try simp only [Act.put, List.getElem_toArray, List.getElem_cons_zero, List.getElem_cons_succ, List.setIfInBounds_toArray, List.set_cons_zero, List.set_cons_succ])
        refine wpl_skip rfl ?_
        (try simp only [Act.put, List.getElem_toArray, List.getElem_cons_zero, List.getElem_cons_succ, List.setIfInBounds_toArray, List.set_cons_zero, List.set_cons_succ])
        refine wpl_skip rfl ?_
        (try simp only [Act.put, List.getElem_toArray, List.getElem_cons_zero, List.getElem_cons_succ, List.setIfInBounds_toArray, List.set_cons_zero, List.set_cons_succ])
        refine wpl_val ?_ rfl ?_ ?_
        rotate_left
        · (go_simp; (try with_reducible rfl))
        (try simp only [Act.put, List.getElem_toArray, List.getElem_cons_zero, List.getElem_cons_succ, List.setIfInBounds_toArray, List.set_cons_zero, List.set_cons_succ])
        refine wpl_val ?_ rfl ?_ ?_
        rotate_left
        · (go_simp; (try with_reducible rfl))
        (try simp only [Act.put, List.getElem_toArray, List.getElem_cons_zero, List.getElem_cons_succ, List.setIfInBounds_toArray, List.set_cons_zero, List.set_cons_succ])
        refine wpl_skip rfl ?_
        (try simp only [Act.put, List.getElem_toArray, List.getElem_cons_zero, List.getElem_cons_succ, List.setIfInBounds_toArray, List.set_cons_zero, List.set_cons_succ])
        refine wpl_skip rfl ?_
        (try simp only [Act.put, List.getElem_toArray, List.getElem_cons_zero, List.getElem_cons_succ, List.setIfInBounds_toArray, List.set_cons_zero, List.set_cons_succ])
        refine wpl_skip rfl ?_
        (try simp only [Act.put, List.getElem_toArray, List.getElem_cons_zero, List.getElem_cons_succ, List.setIfInBounds_toArray, List.set_cons_zero, List.set_cons_succ])
        refine wpl_val ?_ rfl ?_ ?_
        rotate_left
        · (go_simp; (try with_reducible rfl))
        (try simp only [Act.put, List.getElem_toArray, List.getElem_cons_zero, List.getElem_cons_succ, List.setIfInBounds_toArray, List.set_cons_zero, List.set_cons_succ])
        refine wpl_val ?_ rfl ?_ ?_
        rotate_left
        · (go_simp; (try with_reducible rfl))
        (try simp only [Act.put, List.getElem_toArray, List.getElem_cons_zero, List.getElem_cons_succ, List.setIfInBounds_toArray, List.set_cons_zero, List.set_cons_succ])
        refine wpl_skip rfl ?_
        (try simp only [Act.put, List.getElem_toArray, List.getElem_cons_zero, List.getElem_cons_succ, List.setIfInBounds_toArray, List.set_cons_zero, List.set_cons_succ])
        refine wpl_skip rfl ?_
        (try simp only [Act.put, List.getElem_toArray, List.getElem_cons_zero, List.getElem_cons_succ, List.setIfInBounds_toArray, List.set_cons_zero, List.set_cons_succ])
        refine wpl_skip rfl ?_
        (try simp only [Act.put, List.getElem_toArray, List.getElem_cons_zero, List.getElem_cons_succ, List.setIfInBounds_toArray, List.set_cons_zero, List.set_cons_succ])
        refine wpl_val ?_ rfl ?_ ?_
        rotate_left
        · (go_simp; (try with_reducible rfl))
        (try simp only [Act.put, List.getElem_toArray, List.getElem_cons_zero, List.getElem_cons_succ, List.setIfInBounds_toArray, List.set_cons_zero, List.set_cons_succ])
        refine wpList_nil ?_
        go_upto_region 14 with (fail)
        refine wp_region_lit ?_
        refine wpl_call _ _ rfl (by go_simp) _ (awake_any _) ?_
        rintro e w9 ⟨rfl, hb9⟩
        refine ⟨_, rfl, ?_⟩
        (try simp only [Act.put, List.getElem_toArray, List.getElem_cons_zero, List.getElem_cons_succ, List.setIfInBounds_toArray, List.set_cons_zero, List.set_cons_succ])
        refine wpl_val ?_ rfl ?_ ?_
        rotate_left
        · (go_simp; (try with_reducible rfl))
        (try simp only [Act.put, List.getElem_toArray, List.getElem_cons_zero, List.getElem_cons_succ, List.setIfInBounds_toArray, List.set_cons_zero, List.set_cons_succ])
        refine wpList_nil ?_
        go_wp2_with fail
        go_ret
        exact ⟨rfl, (hS.go hb9).below⟩
      · have hst := P.begin_ok hsh.out h8 0 0 0 P.es
        refine wpl_call _ _ rfl (by go_simp) _ (hS.do_ (cl := ⟨0, 0, 0, 0, P.es⟩) (by omega) hcb0) ?_
        rintro e w2 ⟨rfl, hS2, hf⟩
        refine ⟨_, rfl, ?_⟩
        clear hS
        (try simp only [Act.put, List.getElem_toArray, List.getElem_cons_zero, List.getElem_cons_succ, List.setIfInBounds_toArray, List.set_cons_zero, List.set_cons_succ])
        refine wpl_alloc 40 (rpA ⟨0, 0, 0, P.zb⟩) rfl rfl hz40 ?_
        (try simp only [Act.put, List.getElem_toArray, List.getElem_cons_zero, List.getElem_cons_succ, List.setIfInBounds_toArray, List.set_cons_zero, List.set_cons_succ])
        refine wpl_law rfl (wp_store_row 40 _ _ rfl w2.heap.size (rpA (P.step M ⟨0, 0, 0, 0, P.es⟩).2) rfl rfl 40 _ (Blk.alloc_new _ _ _) (size40 _) (by simp only [rpA_size]) (rpA_one _) ?_)
        (try simp only [Act.put, List.getElem_toArray, List.getElem_cons_zero, List.getElem_cons_succ, List.setIfInBounds_toArray, List.set_cons_zero, List.set_cons_succ])
        refine wpList_nil ?_
        obtain ⟨hS, hB, hb⟩ := hS2.box (rpA ⟨0, 0, 0, P.zb⟩) (rpA (P.step M ⟨0, 0, 0, 0, P.es⟩).2) 40
        have hx := hb.size
        have hx2 := hB.lt
        clear hS2
        generalize (w2.alloc (.cells (rpA ⟨0, 0, 0, P.zb⟩) 40)).setRow w2.heap.size (rpA (P.step M ⟨0, 0, 0, 0, P.es⟩).2) = V at *
        rw [hst] at hS hB
        dsimp only at hS hB
        have h1 : 1 ≤ (M.count : Int) + 1 := by omega
        have h2 : (M.count : Int) + 1 ≤ 1000 := by omega
        have hn0 : Hid (get M.live ((M.count : Int) + 1) = none) := get_none fun x hx => by have := (hkeys.out x hx).2; omega
        obtain ⟨M1, hM1⟩ : ∃ M1, { M with count := M.count + 1, live := put M.live ((M.count : Int) + 1) ⟨M.last, []⟩ } = M1 := ⟨_, rfl⟩
        rw [hM1] at hS
        have hsh1 : Hid (M1.shut = false) := by rw [← hM1]; exact hsh
        have hpg1 : Hid (q < M1.pages) := by rw [← hM1]; exact hpg
        have hrm1 : Hid (M1.last + 1 < M1.max) := by rw [← hM1]; exact hrm
        have hl1 : Hid (M1.last = M.last) := by rw [← hM1]; exact rfl
        have hg1 : Hid (get M1.live ((M.count : Int) + 1) = some ⟨M.last, []⟩) := by rw [← hM1]; exact (get_put _ _ _ _).trans (if_pos rfl)
        have hc1 : (M.count : Int) + 1 ≤ (M1.count : Int) := by rw [← hM1]; exact Int.le_refl _
        have hll1 : M1.last ≤ 100 := by rw [hl1.out]; exact hll
        generalize (M.count : Int) + 1 = n at *
        generalize w2.heap.size = xx at *
        have hX := hB
        clear hst hf hb hB hM1 hn0 hkeys
        obtain ⟨V0, rfl⟩ : ∃ V0, V0 = V := ⟨_, rfl⟩
        rw [← hl1.out] at hg1 hX
        generalize M.last = ls at *
        clear hl1 hsh hpg hrm hcnt h8 hll
        obtain ⟨M, rfl⟩ : ∃ M, M = M1 := ⟨_, rfl⟩
        have hcnt := hS.ok.cnt
        have hkeys := Lib.hid (fun x hx => hS.ok.key x hx)
        have hok1 := Lib.hid hS.ok
        go_upto_region 12 with (fail)
        refine wp_region_lit ?_
        refine wpl_val ?_ rfl ?_ ?_
        rotate_left
        · (go_simp; (try with_reducible rfl))
        (try simp only [Act.put, List.getElem_toArray, List.getElem_cons_zero, List.setIfInBounds_toArray, List.set_cons_zero, List.set_cons_succ])
        refine wpl_val (.agg (clA ⟨0, 0, 0, 0, P.es⟩)) rfl (run_buildE rfl (by go_simp; exact b35_0 0)) ?_
        (try simp only [Act.put, List.getElem_toArray, List.getElem_cons_zero, List.getElem_cons_succ, List.setIfInBounds_toArray, List.set_cons_zero, List.set_cons_succ])
        by_cases h8 : M.live.length = 8
        · have hst := P.begin_many hsh1.out h8 0 0 0 P.es
          refine wpl_call _ _ rfl (by go_simp) _ (hS.do_ (cl := ⟨0, 0, 0, 0, P.es⟩) (by omega) hcb0) ?_
          rintro e w2 ⟨rfl, hS2, hf⟩
          refine ⟨_, rfl, ?_⟩
          clear hS
          (try simp only [Act.put, List.getElem_toArray, List.getElem_cons_zero, List.getElem_cons_succ, List.setIfInBounds_toArray, List.set_cons_zero, List.set_cons_succ])
          refine wpl_alloc 40 (rpA ⟨0, 0, 0, P.zb⟩) rfl rfl hz40 ?_
          (try simp only [Act.put, List.getElem_toArray, List.getElem_cons_zero, List.getElem_cons_succ, List.setIfInBounds_toArray, List.set_cons_zero, List.set_cons_succ])
          refine wpl_law rfl (wp_store_row 40 _ _ rfl w2.heap.size (rpA (P.step M ⟨0, 0, 0, 0, P.es⟩).2) rfl rfl 40 _ (Blk.alloc_new _ _ _) (size40 _) (by simp only [rpA_size]) (rpA_one _) ?_)
          (try simp only [Act.put, List.getElem_toArray, List.getElem_cons_zero, List.getElem_cons_succ, List.setIfInBounds_toArray, List.set_cons_zero, List.set_cons_succ])
          refine wpList_nil ?_
          obtain ⟨hS, hB, hb⟩ := hS2.box (rpA ⟨0, 0, 0, P.zb⟩) (rpA (P.step M ⟨0, 0, 0, 0, P.es⟩).2) 40
          have hx := hb.size
          have hx2 := hB.lt
          clear hS2
          generalize (w2.alloc (.cells (rpA ⟨0, 0, 0, P.zb⟩) 40)).setRow w2.heap.size (rpA (P.step M ⟨0, 0, 0, 0, P.es⟩).2) = V at *
          rw [hst] at hS hB
          dsimp only at hS hB
          replace hX := (hX.fr hf (fun e => e (by simp))).below hb
          clear hst hf hb
          generalize w2.heap.size = xy at *
          go_upto_region 13 with (fail)
          refine wp_region_lit ?_
          refine wpl_val ?_ rfl ?_ ?_
          rotate_left
          · (go_simp; (try with_reducible rfl))
          (try simp only [Act.put, List.getElem_toArray, List.getElem_cons_zero, List.setIfInBounds_toArray, List.set_cons_zero, List.set_cons_succ])
          refine wpl_val ?_ rfl ?_ ?_
          rotate_left
          · (have c0 := (show V.cell? ⟨xx, 0, none⟩ = some (.int .i64 0) by rw [hX.cell]; rfl); go_simp; (try with_reducible rfl))
          (try simp only [Act.put, List.getElem_toArray, List.getElem_cons_zero, List.getElem_cons_succ, List.setIfInBounds_toArray, List.set_cons_zero, List.set_cons_succ])
          refine wpl_val ?_ rfl ?_ ?_
          rotate_left
          · (go_simp; (try with_reducible rfl))
          (try simp only [Act.put, List.getElem_toArray, List.getElem_cons_zero, List.getElem_cons_succ, List.setIfInBounds_toArray, List.set_cons_zero, List.set_cons_succ])
          refine wpl_val ?_ rfl ?_ ?_
          rotate_left
          · (go_simp; (try with_reducible rfl))
          (try simp only [Act.put, List.getElem_toArray, List.getElem_cons_zero, List.getElem_cons_succ, List.setIfInBounds_toArray, List.set_cons_zero, List.set_cons_succ])
          refine wpl_val ?_ rfl ?_ ?_
          rotate_left
          · (go_simp; (try with_reducible rfl))
          (try simp only [Act.put, List.getElem_toArray, List.getElem_cons_zero, List.getElem_cons_succ, List.setIfInBounds_toArray, List.set_cons_zero, List.set_cons_succ])
          refine wpl_val ?_ rfl ?_ ?_
          rotate_left
          · (have c0 := (show V.cell? ⟨xy, 0, none⟩ = some (.int .i64 10) by rw [hB.cell]; rfl); go_simp; (try with_reducible rfl))
          (try simp only [Act.put, List.getElem_toArray, List.getElem_cons_zero, List.getElem_cons_succ, List.setIfInBounds_toArray, List.set_cons_zero, List.set_cons_succ])
          refine wpl_val ?_ rfl ?_ ?_
          rotate_left
          · (go_simp; (try with_reducible rfl))
          (try simp only [Act.put, List.getElem_toArray, List.getElem_cons_zero, List.getElem_cons_succ, List.setIfInBounds_toArray, List.set_cons_zero, List.set_cons_succ])
          refine wpl_val ?_ rfl ?_ ?_
          rotate_left
          · (go_simp; (try with_reducible rfl))
          (try simp only [Act.put, List.getElem_toArray, List.getElem_cons_zero, List.getElem_cons_succ, List.setIfInBounds_toArray, List.set_cons_zero, List.set_cons_succ])
          refine wpl_val ?_ rfl ?_ ?_
          rotate_left
          · (go_simp; (try with_reducible rfl))
          (try simp only [Act.put, List.getElem_toArray, List.getElem_cons_zero, List.getElem_cons_succ, List.setIfInBounds_toArray, List.set_cons_zero, List.set_cons_succ])
          refine wpl_skip rfl ?_
          (try simp only [Act.put, List.getElem_toArray, List.getElem_cons_zero, List.getElem_cons_succ, List.setIfInBounds_toArray, List.set_cons_zero, List.set_cons_succ])
          refine wpl_skip rfl ?_
          (try simp only [Act.put, List.getElem_toArray, List.getElem_cons_zero, List.getElem_cons_succ, List.setIfInBounds_toArray, List.set_cons_zero, List.set_cons_succ])
          refine wpl_skip rfl ?_
          (try simp only [Act.put, List.getElem_toArray, List.getElem_cons_zero, List.getElem_cons_succ, List.setIfInBounds_toArray, List.set_cons_zero, List.set_cons_succ])
          refine wpl_val ?_ rfl ?_ ?_
          rotate_left
          · (go_simp; (try with_reducible rfl))
          (try simp only [Act.put, List.getElem_toArray, List.getElem_cons_zero, List.getElem_cons_succ, List.setIfInBounds_toArray, List.set_cons_zero, List.set_cons_succ])
          refine wpl_val ?_ rfl ?_ ?_
          rotate_left
          · (go_simp; (try with_reducible rfl))
          (try simp only [Act.put, List.getElem_toArray, List.getElem_cons_zero, List.getElem_cons_succ, List.setIfInBounds_toArray, List.set_cons_zero, List.set_cons_succ])
          refine wpl_skip rfl ?_
          (try simp only [Act.put, List.getElem_toArray, List.getElem_cons_zero, List.getElem_cons_succ, List.setIfInBounds_toArray, List.set_cons_zero, List.set_cons_succ])
          refine wpl_skip rfl ?_
          (try simp only [Act.put, List.getElem_toArray, List.getElem_cons_zero, List.getElem_cons_succ, List.setIfInBounds_toArray, List.set_cons_zero, List.set_cons_succ])
          refine wpl_skip rfl ?_
          (try simp only [Act.put, List.getElem_toArray, List.getElem_cons_zero, List.getElem_cons_succ, List.setIfInBounds_toArray, List.set_cons_zero, List.set_cons_succ])
          refine wpl_val ?_ rfl ?_ ?_
          rotate_left
          · (go_simp; (try with_reducible rfl))
          (try simp only [Act.put, List.getElem_toArray, List.getElem_cons_zero, List.getElem_cons_succ, List.setIfInBounds_toArray, List.set_cons_zero, List.set_cons_succ])
          refine wpList_nil ?_
          go_upto_region 14 with (fail)
          refine wp_region_lit ?_
          refine wpl_call _ _ rfl (by go_simp) _ (awake_any _) ?_
          rintro e w9 ⟨rfl, hb9⟩
          refine ⟨_, rfl, ?_⟩
          (try simp only [Act.put, List.getElem_toArray, List.getElem_cons_zero, List.getElem_cons_succ, List.setIfInBounds_toArray, List.set_cons_zero, List.set_cons_succ])
          refine wpl_val ?_ rfl ?_ ?_
          rotate_left
          · (go_simp; (try with_reducible rfl))
          (try simp only [Act.put, List.getElem_toArray, List.getElem_cons_zero, List.getElem_cons_succ, List.setIfInBounds_toArray, List.set_cons_zero, List.set_cons_succ])
          refine wpList_nil ?_
          go_wp2_with fail
          go_ret
          exact ⟨rfl, (hS.go hb9).below⟩
        · have hst := P.begin_ok hsh1.out h8 0 0 0 P.es
          refine wpl_call _ _ rfl (by go_simp) _ (hS.do_ (cl := ⟨0, 0, 0, 0, P.es⟩) (by omega) hcb0) ?_
          rintro e w2 ⟨rfl, hS2, hf⟩
          refine ⟨_, rfl, ?_⟩
          clear hS
          (try simp only [Act.put, List.getElem_toArray, List.getElem_cons_zero, List.getElem_cons_succ, List.setIfInBounds_toArray, List.set_cons_zero, List.set_cons_succ])
          refine wpl_alloc 40 (rpA ⟨0, 0, 0, P.zb⟩) rfl rfl hz40 ?_
          (try simp only [Act.put, List.getElem_toArray, List.getElem_cons_zero, List.getElem_cons_succ, List.setIfInBounds_toArray, List.set_cons_zero, List.set_cons_succ])
          refine wpl_law rfl (wp_store_row 40 _ _ rfl w2.heap.size (rpA (P.step M ⟨0, 0, 0, 0, P.es⟩).2) rfl rfl 40 _ (Blk.alloc_new _ _ _) (size40 _) (by simp only [rpA_size]) (rpA_one _) ?_)
          (try simp only [Act.put, List.getElem_toArray, List.getElem_cons_zero, List.getElem_cons_succ, List.setIfInBounds_toArray, List.set_cons_zero, List.set_cons_succ])
          refine wpList_nil ?_
          obtain ⟨hS, hB, hb⟩ := hS2.box (rpA ⟨0, 0, 0, P.zb⟩) (rpA (P.step M ⟨0, 0, 0, 0, P.es⟩).2) 40
          have hx := hb.size
          have hx2 := hB.lt
          clear hS2
          generalize (w2.alloc (.cells (rpA ⟨0, 0, 0, P.zb⟩) 40)).setRow w2.heap.size (rpA (P.step M ⟨0, 0, 0, 0, P.es⟩).2) = V at *
          rw [hst] at hS hB
          dsimp only at hS hB
          replace hX := (hX.fr hf (fun e => e (by simp))).below hb
          have h3 : n ≠ (M.count : Int) + 1 := by omega
          replace h3 := Lib.hid h3
          have h4 : (M.count : Int) + 1 ≤ 1000 := by omega
          have h5 : 1 ≤ (M.count : Int) + 1 := by omega
          obtain ⟨M1, hM1⟩ : ∃ M1, { M with count := M.count + 1, live := put M.live ((M.count : Int) + 1) ⟨M.last, []⟩ } = M1 := ⟨_, rfl⟩
          rw [hM1] at hS
          have hsh2 : Hid (M1.shut = false) := by rw [← hM1]; exact hsh1
          have hpg2 : Hid (q < M1.pages) := by rw [← hM1]; exact hpg1
          have hrm2 : Hid (M.last + 1 < M1.max) := by rw [← hM1]; exact hrm1
          have hl2 : Hid (M1.last = M.last) := by rw [← hM1]; exact rfl
          have hg2 : Hid (get M1.live n = some ⟨M.last, []⟩) := by rw [← hM1]; exact (get_put _ _ _ _).trans ((if_neg h3.out).trans hg1.out)
          have hg3 : Hid (get M1.live ((M.count : Int) + 1) = some ⟨M.last, []⟩) := by rw [← hM1]; exact (get_put _ _ _ _).trans (if_pos rfl)
          have hc2 : n ≤ (M1.count : Int) := by rw [← hM1]; show n ≤ ((M.count + 1 : Nat) : Int); omega
          have hc3 : (M.count : Int) + 1 ≤ (M1.count : Int) := by rw [← hM1]; exact Int.le_refl _
          have hY := hB
          clear hst hf hb hB hM1 hkeys hsh1 hpg1 hrm1 hg1 hok1 h8
          generalize (M.count : Int) + 1 = n' at *
          generalize w2.heap.size = xy at *
          obtain ⟨V1, rfl⟩ : ∃ V1, V1 = V := ⟨_, rfl⟩
          generalize M.last = ls at *
          clear hc1 hcnt
          obtain ⟨M2, rfl⟩ : ∃ M2, M2 = M1 := ⟨_, rfl⟩
          by_cases ha : 64 < sa.size
          · have ha' : (64 : Int) < (sa.size : Int) := by omega
            have ha2 : decide ((64 : Int) < (sa.size : Int)) = true := by simp; omega
            clear ha
            go_upto_region 13 with (fail)
            refine wp_region_lit ?_
            refine wpl_val ?_ rfl ?_ ?_
            rotate_left
            · (go_simp; (try with_reducible rfl))
            (try simp only [Act.put, List.getElem_toArray, List.getElem_cons_zero, List.setIfInBounds_toArray, List.set_cons_zero, List.set_cons_succ])
            refine wpl_val ?_ rfl ?_ ?_
            rotate_left
            · (have c0 := (show V1.cell? ⟨xx, 0, none⟩ = some (.int .i64 0) by rw [hX.cell]; rfl); go_simp; (try with_reducible rfl))
            (try simp only [Act.put, List.getElem_toArray, List.getElem_cons_zero, List.getElem_cons_succ, List.setIfInBounds_toArray, List.set_cons_zero, List.set_cons_succ])
            refine wpl_val ?_ rfl ?_ ?_
            rotate_left
            · (go_simp; (try with_reducible rfl))
            (try simp only [Act.put, List.getElem_toArray, List.getElem_cons_zero, List.getElem_cons_succ, List.setIfInBounds_toArray, List.set_cons_zero, List.set_cons_succ])
            refine wpl_val ?_ rfl ?_ ?_
            rotate_left
            · (go_simp; (try with_reducible rfl))
            (try simp only [Act.put, List.getElem_toArray, List.getElem_cons_zero, List.getElem_cons_succ, List.setIfInBounds_toArray, List.set_cons_zero, List.set_cons_succ])
            refine wpl_val ?_ rfl ?_ ?_
            rotate_left
            · (go_simp; (try with_reducible rfl))
            (try simp only [Act.put, List.getElem_toArray, List.getElem_cons_zero, List.getElem_cons_succ, List.setIfInBounds_toArray, List.set_cons_zero, List.set_cons_succ])
            refine wpl_val ?_ rfl ?_ ?_
            rotate_left
            · (have c0 := (show V1.cell? ⟨xy, 0, none⟩ = some (.int .i64 0) by rw [hY.cell]; rfl); go_simp; (try with_reducible rfl))
            (try simp only [Act.put, List.getElem_toArray, List.getElem_cons_zero, List.getElem_cons_succ, List.setIfInBounds_toArray, List.set_cons_zero, List.set_cons_succ])
            refine wpl_val ?_ rfl ?_ ?_
            rotate_left
            · (go_simp; (try with_reducible rfl))
            (try simp only [Act.put, List.getElem_toArray, List.getElem_cons_zero, List.getElem_cons_succ, List.setIfInBounds_toArray, List.set_cons_zero, List.set_cons_succ])
            refine wpl_val ?_ rfl ?_ ?_
            rotate_left
            · (go_simp; (try with_reducible rfl))
            (try simp only [Act.put, List.getElem_toArray, List.getElem_cons_zero, List.getElem_cons_succ, List.setIfInBounds_toArray, List.set_cons_zero, List.set_cons_succ])
            refine wpl_val ?_ rfl ?_ ?_
            rotate_left
            · (go_simp; (try with_reducible rfl))
            (try simp only [Act.put, List.getElem_toArray, List.getElem_cons_zero, List.getElem_cons_succ, List.setIfInBounds_toArray, List.set_cons_zero, List.set_cons_succ])
            refine wpl_val ?_ rfl ?_ ?_
            rotate_left
            · (go_simp; (try with_reducible rfl))
            (try simp only [Act.put, List.getElem_toArray, List.getElem_cons_zero, List.getElem_cons_succ, List.setIfInBounds_toArray, List.set_cons_zero, List.set_cons_succ])
            refine wpl_val ?_ rfl ?_ ?_
            rotate_left
            · (go_simp; (try with_reducible rfl))
            (try simp only [Act.put, List.getElem_toArray, List.getElem_cons_zero, List.getElem_cons_succ, List.setIfInBounds_toArray, List.set_cons_zero, List.set_cons_succ])
            refine wpl_val ?_ rfl ?_ ?_
            rotate_left
            · (go_simp; (try with_reducible rfl))
            (try simp only [Act.put, List.getElem_toArray, List.getElem_cons_zero, List.getElem_cons_succ, List.setIfInBounds_toArray, List.set_cons_zero, List.set_cons_succ])
            refine wpl_val ?_ rfl ?_ ?_
            rotate_left
            · (go_simp; (try with_reducible rfl))
            (try simp only [Act.put, List.getElem_toArray, List.getElem_cons_zero, List.getElem_cons_succ, List.setIfInBounds_toArray, List.set_cons_zero, List.set_cons_succ])
            refine wpl_val ?_ rfl ?_ ?_
            rotate_left
            · (go_simp; (try with_reducible rfl))
            (try simp only [Act.put, List.getElem_toArray, List.getElem_cons_zero, List.getElem_cons_succ, List.setIfInBounds_toArray, List.set_cons_zero, List.set_cons_succ])
            refine wpl_skip rfl ?_
            (try simp only [Act.put, List.getElem_toArray, List.getElem_cons_zero, List.getElem_cons_succ, List.setIfInBounds_toArray, List.set_cons_zero, List.set_cons_succ])
            refine wpl_skip rfl ?_
            (try simp only [Act.put, List.getElem_toArray, List.getElem_cons_zero, List.getElem_cons_succ, List.setIfInBounds_toArray, List.set_cons_zero, List.set_cons_succ])
            refine wpl_skip rfl ?_
            (try simp only [Act.put, List.getElem_toArray, List.getElem_cons_zero, List.getElem_cons_succ, List.setIfInBounds_toArray, List.set_cons_zero, List.set_cons_succ])
            refine wpl_val ?_ rfl ?_ ?_
            rotate_left
            · (go_simp; (try with_reducible rfl))
            (try simp only [Act.put, List.getElem_toArray, List.getElem_cons_zero, List.getElem_cons_succ, List.setIfInBounds_toArray, List.set_cons_zero, List.set_cons_succ])
            refine wpList_nil ?_
            go_upto_region 14 with (fail)
            refine wp_region_lit ?_
            refine wpl_call _ _ rfl (by go_simp) _ (awake_any _) ?_
            rintro e w9 ⟨rfl, hb9⟩
            refine ⟨_, rfl, ?_⟩
            (try simp only [Act.put, List.getElem_toArray, List.getElem_cons_zero, List.getElem_cons_succ, List.setIfInBounds_toArray, List.set_cons_zero, List.set_cons_succ])
            refine wpl_val ?_ rfl ?_ ?_
            rotate_left
            · (go_simp; (try with_reducible rfl))
            (try simp only [Act.put, List.getElem_toArray, List.getElem_cons_zero, List.getElem_cons_succ, List.setIfInBounds_toArray, List.set_cons_zero, List.set_cons_succ])
            refine wpList_nil ?_
            go_wp2_with fail
            go_ret
            exact ⟨rfl, (hS.go hb9).below⟩
          · have ha' : (sa.size : Int) ≤ (64 : Int) := by omega
            have ha2 : decide ((64 : Int) < (sa.size : Int)) = false := by simp; omega
            by_cases hb : 64 < sb.size
            · have hb' : (64 : Int) < (sb.size : Int) := by omega
              have hb2 : decide ((64 : Int) < (sb.size : Int)) = true := by simp; omega
              clear ha hb
              go_upto_region 13 with (fail)
              refine wp_region_lit ?_
              refine wpl_val ?_ rfl ?_ ?_
              rotate_left
              · (go_simp; (try with_reducible rfl))
              (try simp only [Act.put, List.getElem_toArray, List.getElem_cons_zero, List.setIfInBounds_toArray, List.set_cons_zero, List.set_cons_succ])
              refine wpl_val ?_ rfl ?_ ?_
              rotate_left
              · (have c0 := (show V1.cell? ⟨xx, 0, none⟩ = some (.int .i64 0) by rw [hX.cell]; rfl); go_simp; (try with_reducible rfl))
              (try simp only [Act.put, List.getElem_toArray, List.getElem_cons_zero, List.getElem_cons_succ, List.setIfInBounds_toArray, List.set_cons_zero, List.set_cons_succ])
              refine wpl_val ?_ rfl ?_ ?_
              rotate_left
              · (go_simp; (try with_reducible rfl))
              (try simp only [Act.put, List.getElem_toArray, List.getElem_cons_zero, List.getElem_cons_succ, List.setIfInBounds_toArray, List.set_cons_zero, List.set_cons_succ])
              refine wpl_val ?_ rfl ?_ ?_
              rotate_left
              · (go_simp; (try with_reducible rfl))
              (try simp only [Act.put, List.getElem_toArray, List.getElem_cons_zero, List.getElem_cons_succ, List.setIfInBounds_toArray, List.set_cons_zero, List.set_cons_succ])
              refine wpl_val ?_ rfl ?_ ?_
              rotate_left
              · (go_simp; (try with_reducible rfl))
              (try simp only [Act.put, List.getElem_toArray, List.getElem_cons_zero, List.getElem_cons_succ, List.setIfInBounds_toArray, List.set_cons_zero, List.set_cons_succ])
              refine wpl_val ?_ rfl ?_ ?_
              rotate_left
              · (have c0 := (show V1.cell? ⟨xy, 0, none⟩ = some (.int .i64 0) by rw [hY.cell]; rfl); go_simp; (try with_reducible rfl))
              (try simp only [Act.put, List.getElem_toArray, List.getElem_cons_zero, List.getElem_cons_succ, List.setIfInBounds_toArray, List.set_cons_zero, List.set_cons_succ])
              refine wpl_val ?_ rfl ?_ ?_
              rotate_left
              · (go_simp; (try with_reducible rfl))
              (try simp only [Act.put, List.getElem_toArray, List.getElem_cons_zero, List.getElem_cons_succ, List.setIfInBounds_toArray, List.set_cons_zero, List.set_cons_succ])
              refine wpl_val ?_ rfl ?_ ?_
              rotate_left
              · (go_simp; (try with_reducible rfl))
              (try simp only [Act.put, List.getElem_toArray, List.getElem_cons_zero, List.getElem_cons_succ, List.setIfInBounds_toArray, List.set_cons_zero, List.set_cons_succ])
              refine wpl_val ?_ rfl ?_ ?_
              rotate_left
              · (go_simp; (try with_reducible rfl))
              (try simp only [Act.put, List.getElem_toArray, List.getElem_cons_zero, List.getElem_cons_succ, List.setIfInBounds_toArray, List.set_cons_zero, List.set_cons_succ])
              refine wpl_val ?_ rfl ?_ ?_
              rotate_left
              · (go_simp; (try with_reducible rfl))
              (try simp only [Act.put, List.getElem_toArray, List.getElem_cons_zero, List.getElem_cons_succ, List.setIfInBounds_toArray, List.set_cons_zero, List.set_cons_succ])
              refine wpl_val ?_ rfl ?_ ?_
              rotate_left
              · (go_simp; (try with_reducible rfl))
              (try simp only [Act.put, List.getElem_toArray, List.getElem_cons_zero, List.getElem_cons_succ, List.setIfInBounds_toArray, List.set_cons_zero, List.set_cons_succ])
              refine wpl_val ?_ rfl ?_ ?_
              rotate_left
              · (go_simp; (try with_reducible rfl))
              (try simp only [Act.put, List.getElem_toArray, List.getElem_cons_zero, List.getElem_cons_succ, List.setIfInBounds_toArray, List.set_cons_zero, List.set_cons_succ])
              refine wpl_val ?_ rfl ?_ ?_
              rotate_left
              · (go_simp; (try with_reducible rfl))
              (try simp only [Act.put, List.getElem_toArray, List.getElem_cons_zero, List.getElem_cons_succ, List.setIfInBounds_toArray, List.set_cons_zero, List.set_cons_succ])
              refine wpl_val ?_ rfl ?_ ?_
              rotate_left
              · (go_simp; (try with_reducible rfl))
              (try simp only [Act.put, List.getElem_toArray, List.getElem_cons_zero, List.getElem_cons_succ, List.setIfInBounds_toArray, List.set_cons_zero, List.set_cons_succ])
              refine wpl_val ?_ rfl ?_ ?_
              rotate_left
              · (go_simp; (try with_reducible rfl))
              (try simp only [Act.put, List.getElem_toArray, List.getElem_cons_zero, List.getElem_cons_succ, List.setIfInBounds_toArray, List.set_cons_zero, List.set_cons_succ])
              refine wpl_val ?_ rfl ?_ ?_
              rotate_left
              · (go_simp; (try with_reducible rfl))
              (try simp only [Act.put, List.getElem_toArray, List.getElem_cons_zero, List.getElem_cons_succ, List.setIfInBounds_toArray, List.set_cons_zero, List.set_cons_succ])
              refine wpl_val ?_ rfl ?_ ?_
              rotate_left
              · (go_simp; (try with_reducible rfl))
              (try simp only [Act.put, List.getElem_toArray, List.getElem_cons_zero, List.getElem_cons_succ, List.setIfInBounds_toArray, List.set_cons_zero, List.set_cons_succ])
              refine wpl_val ?_ rfl ?_ ?_
              rotate_left
              · (go_simp; (try with_reducible rfl))
              (try simp only [Act.put, List.getElem_toArray, List.getElem_cons_zero, List.getElem_cons_succ, List.setIfInBounds_toArray, List.set_cons_zero, List.set_cons_succ])
              refine wpList_nil ?_
              go_upto_region 14 with (fail)
              refine wp_region_lit ?_
              refine wpl_call _ _ rfl (by go_simp) _ (awake_any _) ?_
              rintro e w9 ⟨rfl, hb9⟩
              refine ⟨_, rfl, ?_⟩
              (try simp only [Act.put, List.getElem_toArray, List.getElem_cons_zero, List.getElem_cons_succ, List.setIfInBounds_toArray, List.set_cons_zero, List.set_cons_succ])
              refine wpl_val ?_ rfl ?_ ?_
              rotate_left
              · (go_simp; (try with_reducible rfl))
              (try simp only [Act.put, List.getElem_toArray, List.getElem_cons_zero, List.getElem_cons_succ, List.setIfInBounds_toArray, List.set_cons_zero, List.set_cons_succ])
              refine wpList_nil ?_
              go_wp2_with fail
              go_ret
              exact ⟨rfl, (hS.go hb9).below⟩
            · have hb' : (sb.size : Int) ≤ (64 : Int) := by omega
              have hb2 : decide ((64 : Int) < (sb.size : Int)) = false := by simp; omega
              obtain ⟨M3, M4, M5, M6, b2, st3, st4, st5, st6, st7, hat⟩ := P.first_chain (a := sa) (b := sb) hsh2.out hS.ok hpg2.out hrm2.out hl2.out hg2.out hg3.out h3.out hc2 hc3 (by omega) (by omega)
              have hls : ls + 1 ≤ 200 := by omega
              clear ha hb hsh2 hpg2 hrm2 hl2 hg2 hg3 hc2 hc3 h3 hll1
              replace st3 := Lib.hid st3
              replace st4 := Lib.hid st4
              replace st5 := Lib.hid st5
              replace st6 := Lib.hid st6
              replace st7 := Lib.hid st7
              replace hat := Lib.hid hat
              go_upto_region 13 with (fail)
              refine wp_region_lit ?_
              refine wpl_val ?_ rfl ?_ ?_
              rotate_left
              · (go_simp; (try with_reducible rfl))
              (try simp only [Act.put, List.getElem_toArray, List.getElem_cons_zero, List.setIfInBounds_toArray, List.set_cons_zero, List.set_cons_succ])
              refine wpl_val ?_ rfl ?_ ?_
              rotate_left
              · (have c0 := (show V1.cell? ⟨xx, 0, none⟩ = some (.int .i64 0) by rw [hX.cell]; rfl); go_simp; (try with_reducible rfl))
              (try simp only [Act.put, List.getElem_toArray, List.getElem_cons_zero, List.getElem_cons_succ, List.setIfInBounds_toArray, List.set_cons_zero, List.set_cons_succ])
              refine wpl_val ?_ rfl ?_ ?_
              rotate_left
              · (go_simp; (try with_reducible rfl))
              (try simp only [Act.put, List.getElem_toArray, List.getElem_cons_zero, List.getElem_cons_succ, List.setIfInBounds_toArray, List.set_cons_zero, List.set_cons_succ])
              refine wpl_val ?_ rfl ?_ ?_
              rotate_left
              · (go_simp; (try with_reducible rfl))
              (try simp only [Act.put, List.getElem_toArray, List.getElem_cons_zero, List.getElem_cons_succ, List.setIfInBounds_toArray, List.set_cons_zero, List.set_cons_succ])
              refine wpl_val ?_ rfl ?_ ?_
              rotate_left
              · (go_simp; (try with_reducible rfl))
              (try simp only [Act.put, List.getElem_toArray, List.getElem_cons_zero, List.getElem_cons_succ, List.setIfInBounds_toArray, List.set_cons_zero, List.set_cons_succ])
              refine wpl_val ?_ rfl ?_ ?_
              rotate_left
              · (have c0 := (show V1.cell? ⟨xy, 0, none⟩ = some (.int .i64 0) by rw [hY.cell]; rfl); go_simp; (try with_reducible rfl))
              (try simp only [Act.put, List.getElem_toArray, List.getElem_cons_zero, List.getElem_cons_succ, List.setIfInBounds_toArray, List.set_cons_zero, List.set_cons_succ])
              refine wpl_val ?_ rfl ?_ ?_
              rotate_left
              · (go_simp; (try with_reducible rfl))
              (try simp only [Act.put, List.getElem_toArray, List.getElem_cons_zero, List.getElem_cons_succ, List.setIfInBounds_toArray, List.set_cons_zero, List.set_cons_succ])
              refine wpl_val ?_ rfl ?_ ?_
              rotate_left
              · (go_simp; (try with_reducible rfl))
              (try simp only [Act.put, List.getElem_toArray, List.getElem_cons_zero, List.getElem_cons_succ, List.setIfInBounds_toArray, List.set_cons_zero, List.set_cons_succ])
              refine wpl_val ?_ rfl ?_ ?_
              rotate_left
              · (go_simp; (try with_reducible rfl))
              (try simp only [Act.put, List.getElem_toArray, List.getElem_cons_zero, List.getElem_cons_succ, List.setIfInBounds_toArray, List.set_cons_zero, List.set_cons_succ])
              refine wpl_val ?_ rfl ?_ ?_
              rotate_left
              · (go_simp; (try with_reducible rfl))
              (try simp only [Act.put, List.getElem_toArray, List.getElem_cons_zero, List.getElem_cons_succ, List.setIfInBounds_toArray, List.set_cons_zero, List.set_cons_succ])
              refine wpl_val ?_ rfl ?_ ?_
              rotate_left
              · (go_simp; (try with_reducible rfl))
              (try simp only [Act.put, List.getElem_toArray, List.getElem_cons_zero, List.getElem_cons_succ, List.setIfInBounds_toArray, List.set_cons_zero, List.set_cons_succ])
              refine wpl_val ?_ rfl ?_ ?_
              rotate_left
              · (go_simp; (try with_reducible rfl))
              (try simp only [Act.put, List.getElem_toArray, List.getElem_cons_zero, List.getElem_cons_succ, List.setIfInBounds_toArray, List.set_cons_zero, List.set_cons_succ])
              refine wpl_val ?_ rfl ?_ ?_
              rotate_left
              · (go_simp; (try with_reducible rfl))
              (try simp only [Act.put, List.getElem_toArray, List.getElem_cons_zero, List.getElem_cons_succ, List.setIfInBounds_toArray, List.set_cons_zero, List.set_cons_succ])
              refine wpl_val ?_ rfl ?_ ?_
              rotate_left
              · (go_simp; (try with_reducible rfl))
              (try simp only [Act.put, List.getElem_toArray, List.getElem_cons_zero, List.getElem_cons_succ, List.setIfInBounds_toArray, List.set_cons_zero, List.set_cons_succ])
              refine wpl_val ?_ rfl ?_ ?_
              rotate_left
              · (go_simp; (try with_reducible rfl))
              (try simp only [Act.put, List.getElem_toArray, List.getElem_cons_zero, List.getElem_cons_succ, List.setIfInBounds_toArray, List.set_cons_zero, List.set_cons_succ])
              refine wpl_val ?_ rfl ?_ ?_
              rotate_left
              · (go_simp; (try with_reducible rfl))
              (try simp only [Act.put, List.getElem_toArray, List.getElem_cons_zero, List.getElem_cons_succ, List.setIfInBounds_toArray, List.set_cons_zero, List.set_cons_succ])
              refine wpl_val ?_ rfl ?_ ?_
              rotate_left
              · (go_simp; (try with_reducible rfl))
              (try simp only [Act.put, List.getElem_toArray, List.getElem_cons_zero, List.getElem_cons_succ, List.setIfInBounds_toArray, List.set_cons_zero, List.set_cons_succ])
              refine wpl_val ?_ rfl ?_ ?_
              rotate_left
              · (go_simp; (try with_reducible rfl))
              (try simp only [Act.put, List.getElem_toArray, List.getElem_cons_zero, List.getElem_cons_succ, List.setIfInBounds_toArray, List.set_cons_zero, List.set_cons_succ])
              refine wpList_nil ?_
              go_upto_region 15 with (fail)
              refine wp_region_lit ?_
              refine wpl_val ?_ rfl ?_ ?_
              rotate_left
              · (go_simp; (try with_reducible rfl))
              (try simp only [Act.put, List.getElem_toArray, List.getElem_cons_zero, List.setIfInBounds_toArray, List.set_cons_zero, List.set_cons_succ])
              refine wpl_val ?_ rfl ?_ ?_
              rotate_left
              · (go_simp; (try with_reducible rfl))
              (try simp only [Act.put, List.getElem_toArray, List.getElem_cons_zero, List.getElem_cons_succ, List.setIfInBounds_toArray, List.set_cons_zero, List.set_cons_succ])
              refine wpl_val ?_ rfl ?_ ?_
              rotate_left
              · (have c0 := (show V1.cell? ⟨xx, 1, none⟩ = some (.int .u64 n) by rw [hX.cell]; rfl); go_simp; (try with_reducible rfl))
              (try simp only [Act.put, List.getElem_toArray, List.getElem_cons_zero, List.getElem_cons_succ, List.setIfInBounds_toArray, List.set_cons_zero, List.set_cons_succ])
              refine wpl_val ?_ rfl ?_ ?_
              rotate_left
              · (go_simp; (try with_reducible rfl))
              (try simp only [Act.put, List.getElem_toArray, List.getElem_cons_zero, List.getElem_cons_succ, List.setIfInBounds_toArray, List.set_cons_zero, List.set_cons_succ])
              refine wpl_val ?_ rfl ?_ ?_
              rotate_left
              · (go_simp; (try with_reducible rfl))
              (try simp only [Act.put, List.getElem_toArray, List.getElem_cons_zero, List.getElem_cons_succ, List.setIfInBounds_toArray, List.set_cons_zero, List.set_cons_succ])
              refine wpl_val (.agg (clA ⟨2, n, q, 0, sa⟩)) rfl (run_buildE rfl (by go_simp; exact b35_s 2 n q sa)) ?_
              (try simp only [Act.put, List.getElem_toArray, List.getElem_cons_zero, List.getElem_cons_succ, List.setIfInBounds_toArray, List.set_cons_zero, List.set_cons_succ])
              refine wpl_call _ _ rfl (by go_simp) _ (hS.do_ (cl := ⟨2, n, q, 0, sa⟩) (by omega) (clok (by omega) (by omega) (by omega) (by omega) hsa)) ?_
              rintro e w2 ⟨rfl, hS2, hf⟩
              refine ⟨_, rfl, ?_⟩
              clear hS
              rw [st3.out] at hS2
              have hS : SS w w2 c M3 _ _ := hS2
              replace hX := hX.fr hf (fun e => e (by simp))
              replace hY := hY.fr hf (fun e => e (by simp))
              clear hS2 hf st3
              (try simp only [Act.put, List.getElem_toArray, List.getElem_cons_zero, List.getElem_cons_succ, List.setIfInBounds_toArray, List.set_cons_zero, List.set_cons_succ])
              refine wpList_nil ?_
              go_upto_region 16 with (fail)
              refine wp_region_lit ?_
              refine wpl_val ?_ rfl ?_ ?_
              rotate_left
              · (go_simp; (try with_reducible rfl))
              (try simp only [Act.put, List.getElem_toArray, List.getElem_cons_zero, List.setIfInBounds_toArray, List.set_cons_zero, List.set_cons_succ])
              refine wpl_val ?_ rfl ?_ ?_
              rotate_left
              · (go_simp; (try with_reducible rfl))
              (try simp only [Act.put, List.getElem_toArray, List.getElem_cons_zero, List.getElem_cons_succ, List.setIfInBounds_toArray, List.set_cons_zero, List.set_cons_succ])
              refine wpl_val ?_ rfl ?_ ?_
              rotate_left
              · (have c0 := (show w2.cell? ⟨xy, 1, none⟩ = some (.int .u64 n') by rw [hY.cell]; rfl); go_simp; (try with_reducible rfl))
              (try simp only [Act.put, List.getElem_toArray, List.getElem_cons_zero, List.getElem_cons_succ, List.setIfInBounds_toArray, List.set_cons_zero, List.set_cons_succ])
              refine wpl_val ?_ rfl ?_ ?_
              rotate_left
              · (go_simp; (try with_reducible rfl))
              (try simp only [Act.put, List.getElem_toArray, List.getElem_cons_zero, List.getElem_cons_succ, List.setIfInBounds_toArray, List.set_cons_zero, List.set_cons_succ])
              refine wpl_val ?_ rfl ?_ ?_
              rotate_left
              · (go_simp; (try with_reducible rfl))
              (try simp only [Act.put, List.getElem_toArray, List.getElem_cons_zero, List.getElem_cons_succ, List.setIfInBounds_toArray, List.set_cons_zero, List.set_cons_succ])
              refine wpl_val (.agg (clA ⟨2, n', q, 0, sb⟩)) rfl (run_buildE rfl (by go_simp; exact b35_s 2 n' q sb)) ?_
              (try simp only [Act.put, List.getElem_toArray, List.getElem_cons_zero, List.getElem_cons_succ, List.setIfInBounds_toArray, List.set_cons_zero, List.set_cons_succ])
              refine wpl_call _ _ rfl (by go_simp) _ (hS.do_ (cl := ⟨2, n', q, 0, sb⟩) (by omega) (clok (by omega) (by omega) (by omega) (by omega) hsb)) ?_
              rintro e w3 ⟨rfl, hS2, hf⟩
              refine ⟨_, rfl, ?_⟩
              clear hS
              rw [st4.out] at hS2
              have hS : SS w w3 c M4 _ _ := hS2
              replace hX := hX.fr hf (fun e => e (by simp))
              replace hY := hY.fr hf (fun e => e (by simp))
              clear hS2 hf st4
              (try simp only [Act.put, List.getElem_toArray, List.getElem_cons_zero, List.getElem_cons_succ, List.setIfInBounds_toArray, List.set_cons_zero, List.set_cons_succ])
              refine wpList_nil ?_
              go_upto_region 17 with (fail)
              refine wp_region_lit ?_
              refine wpl_val ?_ rfl ?_ ?_
              rotate_left
              · (go_simp; (try with_reducible rfl))
              (try simp only [Act.put, List.getElem_toArray, List.getElem_cons_zero, List.setIfInBounds_toArray, List.set_cons_zero, List.set_cons_succ])
              refine wpl_val ?_ rfl ?_ ?_
              rotate_left
              · (go_simp; (try with_reducible rfl))
              (try simp only [Act.put, List.getElem_toArray, List.getElem_cons_zero, List.getElem_cons_succ, List.setIfInBounds_toArray, List.set_cons_zero, List.set_cons_succ])
              refine wpl_val ?_ rfl ?_ ?_
              rotate_left
              · (have c0 := (show w3.cell? ⟨xy, 1, none⟩ = some (.int .u64 n') by rw [hY.cell]; rfl); go_simp; (try with_reducible rfl))
              (try simp only [Act.put, List.getElem_toArray, List.getElem_cons_zero, List.getElem_cons_succ, List.setIfInBounds_toArray, List.set_cons_zero, List.set_cons_succ])
              refine wpl_val ?_ rfl ?_ ?_
              rotate_left
              · (go_simp; (try with_reducible rfl))
              (try simp only [Act.put, List.getElem_toArray, List.getElem_cons_zero, List.getElem_cons_succ, List.setIfInBounds_toArray, List.set_cons_zero, List.set_cons_succ])
              refine wpl_val (.agg (clA ⟨1, n', q, 0, P.es⟩)) rfl (run_buildE rfl (by go_simp; exact b35_3 1 n' q)) ?_
              (try simp only [Act.put, List.getElem_toArray, List.getElem_cons_zero, List.getElem_cons_succ, List.setIfInBounds_toArray, List.set_cons_zero, List.set_cons_succ])
              refine wpl_call _ _ rfl (by go_simp) _ (hS.do_ (cl := ⟨1, n', q, 0, P.es⟩) (by omega) (clok (by omega) (by omega) (by omega) (by omega) es_ok)) ?_
              rintro e w2 ⟨rfl, hS2, hf⟩
              refine ⟨_, rfl, ?_⟩
              clear hS
              (try simp only [Act.put, List.getElem_toArray, List.getElem_cons_zero, List.getElem_cons_succ, List.setIfInBounds_toArray, List.set_cons_zero, List.set_cons_succ])
              refine wpl_alloc 40 (rpA ⟨0, 0, 0, P.zb⟩) rfl rfl hz40 ?_
              (try simp only [Act.put, List.getElem_toArray, List.getElem_cons_zero, List.getElem_cons_succ, List.setIfInBounds_toArray, List.set_cons_zero, List.set_cons_succ])
              refine wpl_law rfl (wp_store_row 40 _ _ rfl w2.heap.size (rpA (P.step M4 ⟨1, n', q, 0, P.es⟩).2) rfl rfl 40 _ (Blk.alloc_new _ _ _) (size40 _) (by simp only [rpA_size]) (rpA_one _) ?_)
              (try simp only [Act.put, List.getElem_toArray, List.getElem_cons_zero, List.getElem_cons_succ, List.setIfInBounds_toArray, List.set_cons_zero, List.set_cons_succ])
              refine wpList_nil ?_
              obtain ⟨hS, hB, hb⟩ := hS2.box (rpA ⟨0, 0, 0, P.zb⟩) (rpA (P.step M4 ⟨1, n', q, 0, P.es⟩).2) 40
              have hx := hb.size
              have hx2 := hB.lt
              clear hS2
              generalize (w2.alloc (.cells (rpA ⟨0, 0, 0, P.zb⟩) 40)).setRow w2.heap.size (rpA (P.step M4 ⟨1, n', q, 0, P.es⟩).2) = V at *
              rw [st5.out] at hS hB
              dsimp only at hS hB
              replace hX := (hX.fr hf (fun e => e (by simp))).below hb
              replace hY := (hY.fr hf (fun e => e (by simp))).below hb
              have hR := hB
              clear hf hb hB st5
              generalize w2.heap.size = xr at *
              obtain ⟨V2, rfl⟩ : ∃ V2, V2 = V := ⟨_, rfl⟩
              go_upto_region 18 with (fail)
              refine wp_region_lit ?_
              refine wpl_val ?_ rfl ?_ ?_
              rotate_left
              · (go_simp; (try with_reducible rfl))
              (try simp only [Act.put, List.getElem_toArray, List.getElem_cons_zero, List.setIfInBounds_toArray, List.set_cons_zero, List.set_cons_succ])
              refine wpl_val ?_ rfl ?_ ?_
              rotate_left
              · (go_simp; (try with_reducible rfl))
              (try simp only [Act.put, List.getElem_toArray, List.getElem_cons_zero, List.getElem_cons_succ, List.setIfInBounds_toArray, List.set_cons_zero, List.set_cons_succ])
              refine wpl_val ?_ rfl ?_ ?_
              rotate_left
              · (have c0 := (show V2.cell? ⟨xy, 1, none⟩ = some (.int .u64 n') by rw [hY.cell]; rfl); go_simp; (try with_reducible rfl))
              (try simp only [Act.put, List.getElem_toArray, List.getElem_cons_zero, List.getElem_cons_succ, List.setIfInBounds_toArray, List.set_cons_zero, List.set_cons_succ])
              refine wpl_val (.agg (clA ⟨3, n', 0, 0, P.es⟩)) rfl (run_buildE rfl (by go_simp; exact b35_01 3 n')) ?_
              (try simp only [Act.put, List.getElem_toArray, List.getElem_cons_zero, List.getElem_cons_succ, List.setIfInBounds_toArray, List.set_cons_zero, List.set_cons_succ])
              refine wpl_call _ _ rfl (by go_simp) _ (hS.do_ (cl := ⟨3, n', 0, 0, P.es⟩) (by omega) (clok0 (by omega) (by omega))) ?_
              rintro e w2 ⟨rfl, hS2, hf⟩
              refine ⟨_, rfl, ?_⟩
              clear hS
              (try simp only [Act.put, List.getElem_toArray, List.getElem_cons_zero, List.getElem_cons_succ, List.setIfInBounds_toArray, List.set_cons_zero, List.set_cons_succ])
              refine wpl_alloc 40 (rpA ⟨0, 0, 0, P.zb⟩) rfl rfl hz40 ?_
              (try simp only [Act.put, List.getElem_toArray, List.getElem_cons_zero, List.getElem_cons_succ, List.setIfInBounds_toArray, List.set_cons_zero, List.set_cons_succ])
              refine wpl_law rfl (wp_store_row 40 _ _ rfl w2.heap.size (rpA (P.step M4 ⟨3, n', 0, 0, P.es⟩).2) rfl rfl 40 _ (Blk.alloc_new _ _ _) (size40 _) (by simp only [rpA_size]) (rpA_one _) ?_)
              (try simp only [Act.put, List.getElem_toArray, List.getElem_cons_zero, List.getElem_cons_succ, List.setIfInBounds_toArray, List.set_cons_zero, List.set_cons_succ])
              refine wpList_nil ?_
              obtain ⟨hS, hB, hb⟩ := hS2.box (rpA ⟨0, 0, 0, P.zb⟩) (rpA (P.step M4 ⟨3, n', 0, 0, P.es⟩).2) 40
              have hx := hb.size
              have hx2 := hB.lt
              clear hS2
              generalize (w2.alloc (.cells (rpA ⟨0, 0, 0, P.zb⟩) 40)).setRow w2.heap.size (rpA (P.step M4 ⟨3, n', 0, 0, P.es⟩).2) = V at *
              rw [st6.out] at hS hB
              dsimp only at hS hB
              replace hX := (hX.fr hf (fun e => e (by simp))).below hb
              replace hY := (hY.fr hf (fun e => e (by simp))).below hb
              replace hR := (hR.fr hf (fun e => e (by simp))).below hb
              have hE := hB
              clear hf hb hB st6
              generalize w2.heap.size = xe at *
              obtain ⟨V3, rfl⟩ : ∃ V3, V3 = V := ⟨_, rfl⟩
              go_upto_region 19 with (fail)
              refine wp_region_lit ?_
              refine wpl_val ?_ rfl ?_ ?_
              rotate_left
              · (go_simp; (try with_reducible rfl))
              (try simp only [Act.put, List.getElem_toArray, List.getElem_cons_zero, List.setIfInBounds_toArray, List.set_cons_zero, List.set_cons_succ])
              refine wpl_val ?_ rfl ?_ ?_
              rotate_left
              · (go_simp; (try with_reducible rfl))
              (try simp only [Act.put, List.getElem_toArray, List.getElem_cons_zero, List.getElem_cons_succ, List.setIfInBounds_toArray, List.set_cons_zero, List.set_cons_succ])
              refine wpl_val ?_ rfl ?_ ?_
              rotate_left
              · (have c0 := (show V3.cell? ⟨xx, 1, none⟩ = some (.int .u64 n) by rw [hX.cell]; rfl); go_simp; (try with_reducible rfl))
              (try simp only [Act.put, List.getElem_toArray, List.getElem_cons_zero, List.getElem_cons_succ, List.setIfInBounds_toArray, List.set_cons_zero, List.set_cons_succ])
              refine wpl_val (.agg (clA ⟨3, n, 0, 0, P.es⟩)) rfl (run_buildE rfl (by go_simp; exact b35_01 3 n)) ?_
              (try simp only [Act.put, List.getElem_toArray, List.getElem_cons_zero, List.getElem_cons_succ, List.setIfInBounds_toArray, List.set_cons_zero, List.set_cons_succ])
              refine wpl_call _ _ rfl (by go_simp) _ (hS.do_ (cl := ⟨3, n, 0, 0, P.es⟩) (by omega) (clok0 (by omega) (by omega))) ?_
              rintro e w2 ⟨rfl, hS2, hf⟩
              refine ⟨_, rfl, ?_⟩
              clear hS
              (try simp only [Act.put, List.getElem_toArray, List.getElem_cons_zero, List.getElem_cons_succ, List.setIfInBounds_toArray, List.set_cons_zero, List.set_cons_succ])
              refine wpl_alloc 40 (rpA ⟨0, 0, 0, P.zb⟩) rfl rfl hz40 ?_
              (try simp only [Act.put, List.getElem_toArray, List.getElem_cons_zero, List.getElem_cons_succ, List.setIfInBounds_toArray, List.set_cons_zero, List.set_cons_succ])
              refine wpl_law rfl (wp_store_row 40 _ _ rfl w2.heap.size (rpA (P.step M5 ⟨3, n, 0, 0, P.es⟩).2) rfl rfl 40 _ (Blk.alloc_new _ _ _) (size40 _) (by simp only [rpA_size]) (rpA_one _) ?_)
              (try simp only [Act.put, List.getElem_toArray, List.getElem_cons_zero, List.getElem_cons_succ, List.setIfInBounds_toArray, List.set_cons_zero, List.set_cons_succ])
              refine wpList_nil ?_
              obtain ⟨hS, hB, hb⟩ := hS2.box (rpA ⟨0, 0, 0, P.zb⟩) (rpA (P.step M5 ⟨3, n, 0, 0, P.es⟩).2) 40
              have hx := hb.size
              have hx2 := hB.lt
              clear hS2
              generalize (w2.alloc (.cells (rpA ⟨0, 0, 0, P.zb⟩) 40)).setRow w2.heap.size (rpA (P.step M5 ⟨3, n, 0, 0, P.es⟩).2) = V at *
              rw [st7.out] at hS hB
              dsimp only at hS hB
              replace hY := (hY.fr hf (fun e => e (by simp))).below hb
              replace hR := (hR.fr hf (fun e => e (by simp))).below hb
              replace hE := (hE.fr hf (fun e => e (by simp))).below hb
              have hG := hB
              clear hf hb hB st7 hX
              generalize w2.heap.size = xg at *
              obtain ⟨V4, rfl⟩ : ∃ V4, V4 = V := ⟨_, rfl⟩
              go_upto_region 20 with (fail)
              refine wp_region_lit ?_
              refine wpl_val ?_ rfl ?_ ?_
              rotate_left
              · (go_simp; (try with_reducible rfl))
              (try simp only [Act.put, List.getElem_toArray, List.getElem_cons_zero, List.setIfInBounds_toArray, List.set_cons_zero, List.set_cons_succ])
              refine wpl_val ?_ rfl ?_ ?_
              rotate_left
              · (go_simp; (try with_reducible rfl))
              (try simp only [Act.put, List.getElem_toArray, List.getElem_cons_zero, List.getElem_cons_succ, List.setIfInBounds_toArray, List.set_cons_zero, List.set_cons_succ])
              refine wpl_val ?_ rfl ?_ ?_
              rotate_left
              · (go_simp; (try with_reducible rfl))
              (try simp only [Act.put, List.getElem_toArray, List.getElem_cons_zero, List.getElem_cons_succ, List.setIfInBounds_toArray, List.set_cons_zero, List.set_cons_succ])
              refine wpl_call _ _ rfl (by go_simp) _ hS.last ?_
              rintro e w2 ⟨rfl, rfl⟩
              refine ⟨_, rfl, ?_⟩
              (try simp only [Act.put, List.getElem_toArray, List.getElem_cons_zero, List.getElem_cons_succ, List.setIfInBounds_toArray, List.set_cons_zero, List.set_cons_succ])
              refine wpl_call _ _ rfl (by go_simp) _ (hS.at_ q M6.last) ?_
              rintro e w2 ⟨rfl, hS2, hb2⟩
              refine ⟨_, rfl, ?_⟩
              clear hS
              (try simp only [Act.put, List.getElem_toArray, List.getElem_cons_zero, List.getElem_cons_succ, List.setIfInBounds_toArray, List.set_cons_zero, List.set_cons_succ])
              refine wpl_alloc 44 (verA ⟨0, P.zb⟩) rfl rfl hz44 ?_
              (try simp only [Act.put, List.getElem_toArray, List.getElem_cons_zero, List.getElem_cons_succ, List.setIfInBounds_toArray, List.set_cons_zero, List.set_cons_succ])
              refine wpl_law rfl (wp_store_row 44 _ _ rfl w2.heap.size (verA (P.at' M6 q M6.last)) rfl rfl 44 _ (Blk.alloc_new _ _ _) (size44 _) (by simp only [verA_size]) (verA_one _) ?_)
              (try simp only [Act.put, List.getElem_toArray, List.getElem_cons_zero, List.getElem_cons_succ, List.setIfInBounds_toArray, List.set_cons_zero, List.set_cons_succ])
              refine wpList_nil ?_
              obtain ⟨hS, hB, hb⟩ := hS2.box (verA ⟨0, P.zb⟩) (verA (P.at' M6 q M6.last)) 44
              replace hb := hb2.trans (hb.mono hb2.size)
              have hx := hb.size
              have hx2 := hB.lt
              clear hS2 hb2
              generalize (w2.alloc (.cells (verA ⟨0, P.zb⟩) 44)).setRow w2.heap.size (verA (P.at' M6 q M6.last)) = V at *
              rw [hat.out] at hB
              replace hY := hY.below hb
              replace hR := hR.below hb
              replace hE := hE.below hb
              replace hG := hG.below hb
              clear hb hat
              generalize w2.heap.size = xn at *
              have hwr : IntKind.u32.wrap ((ls : Int) + 1) = ((ls + 1 : Nat) : Int) := by rw [IntWalk.u32_in _ (by omega)]; rfl
              go_upto_region 21 with (fail)
              refine wp_region_lit ?_
              refine wpl_val ?_ rfl ?_ ?_
              rotate_left
              · (go_simp; (try with_reducible rfl))
              (try simp only [Act.put, List.getElem_toArray, List.getElem_cons_zero, List.setIfInBounds_toArray, List.set_cons_zero, List.set_cons_succ])
              refine wpl_val ?_ rfl ?_ ?_
              rotate_left
              · (have c0 := (show V.cell? ⟨xe, 0, none⟩ = some (.int .i64 0) by rw [hE.cell]; rfl); go_simp; (try with_reducible rfl))
              (try simp only [Act.put, List.getElem_toArray, List.getElem_cons_zero, List.getElem_cons_succ, List.setIfInBounds_toArray, List.set_cons_zero, List.set_cons_succ])
              refine wpl_val ?_ rfl ?_ ?_
              rotate_left
              · (go_simp; (try with_reducible rfl))
              (try simp only [Act.put, List.getElem_toArray, List.getElem_cons_zero, List.getElem_cons_succ, List.setIfInBounds_toArray, List.set_cons_zero, List.set_cons_succ])
              refine wpl_val ?_ rfl ?_ ?_
              rotate_left
              · (go_simp; (try with_reducible rfl))
              (try simp only [Act.put, List.getElem_toArray, List.getElem_cons_zero, List.getElem_cons_succ, List.setIfInBounds_toArray, List.set_cons_zero, List.set_cons_succ])
              refine wpl_val ?_ rfl ?_ ?_
              rotate_left
              · (go_simp; (try with_reducible rfl))
              (try simp only [Act.put, List.getElem_toArray, List.getElem_cons_zero, List.getElem_cons_succ, List.setIfInBounds_toArray, List.set_cons_zero, List.set_cons_succ])
              refine wpl_val ?_ rfl ?_ ?_
              rotate_left
              · (have c0 := (show V.cell? ⟨xe, 2, none⟩ = some (.int .u32 ((ls + 1 : Nat) : Int)) by rw [hE.cell]; rfl); go_simp; (try with_reducible rfl))
              (try simp only [Act.put, List.getElem_toArray, List.getElem_cons_zero, List.getElem_cons_succ, List.setIfInBounds_toArray, List.set_cons_zero, List.set_cons_succ])
              refine wpl_val ?_ rfl ?_ ?_
              rotate_left
              · (go_simp; (try with_reducible rfl))
              (try simp only [Act.put, List.getElem_toArray, List.getElem_cons_zero, List.getElem_cons_succ, List.setIfInBounds_toArray, List.set_cons_zero, List.set_cons_succ])
              refine wpl_val ?_ rfl ?_ ?_
              rotate_left
              · (have c0 := (show V.cell? ⟨xy, 2, none⟩ = some (.int .u32 ls) by rw [hY.cell]; rfl); go_simp; (try with_reducible rfl))
              (try simp only [Act.put, List.getElem_toArray, List.getElem_cons_zero, List.getElem_cons_succ, List.setIfInBounds_toArray, List.set_cons_zero, List.set_cons_succ])
              refine wpl_val ?_ rfl ?_ ?_
              rotate_left
              · (go_simp; (try with_reducible rfl))
              (try simp only [Act.put, List.getElem_toArray, List.getElem_cons_zero, List.getElem_cons_succ, List.setIfInBounds_toArray, List.set_cons_zero, List.set_cons_succ])
              refine wpl_val ?_ rfl ?_ ?_
              rotate_left
              · (go_simp; (try with_reducible rfl))
              (try simp only [Act.put, List.getElem_toArray, List.getElem_cons_zero, List.getElem_cons_succ, List.setIfInBounds_toArray, List.set_cons_zero, List.set_cons_succ])
              refine wpl_val ?_ rfl ?_ ?_
              rotate_left
              · (go_simp; (try with_reducible rfl))
              (try simp only [Act.put, List.getElem_toArray, List.getElem_cons_zero, List.getElem_cons_succ, List.setIfInBounds_toArray, List.set_cons_zero, List.set_cons_succ])
              refine wpl_val ?_ rfl ?_ ?_
              rotate_left
              · (go_simp; (try with_reducible rfl))
              (try simp only [Act.put, List.getElem_toArray, List.getElem_cons_zero, List.getElem_cons_succ, List.setIfInBounds_toArray, List.set_cons_zero, List.set_cons_succ])
              refine wpl_val (.agg (rpA (P.err 7))) rfl (run_load_cs rfl rfl hG Try.underlying40 rfl (size40 _)) ?_
              (try simp only [Act.put, List.getElem_toArray, List.getElem_cons_zero, List.getElem_cons_succ, List.setIfInBounds_toArray, List.set_cons_zero, List.set_cons_succ])
              refine wpl_val (.agg (rpA (P.err 7))) rfl (run_buildE rfl (by go_simp; exact b40_0 7)) ?_
              (try simp only [Act.put, List.getElem_toArray, List.getElem_cons_zero, List.getElem_cons_succ, List.setIfInBounds_toArray, List.set_cons_zero, List.set_cons_succ])
              refine wpl_val (.bool true) rfl (run_opEq 40 40 _ _ _ _ true rfl rfl rfl eqt40 (eql40_yes (RpOk.err (by omega)) (RpOk.err (by omega)) rfl _)) ?_
              (try simp only [Act.put, List.getElem_toArray, List.getElem_cons_zero, List.getElem_cons_succ, List.setIfInBounds_toArray, List.set_cons_zero, List.set_cons_succ])
              refine wpl_val ?_ rfl ?_ ?_
              rotate_left
              · (go_simp; (try with_reducible rfl))
              (try simp only [Act.put, List.getElem_toArray, List.getElem_cons_zero, List.getElem_cons_succ, List.setIfInBounds_toArray, List.set_cons_zero, List.set_cons_succ])
              refine wpl_val ?_ rfl ?_ ?_
              rotate_left
              · (go_simp; (try with_reducible rfl))
              (try simp only [Act.put, List.getElem_toArray, List.getElem_cons_zero, List.getElem_cons_succ, List.setIfInBounds_toArray, List.set_cons_zero, List.set_cons_succ])
              refine wpl_val ?_ rfl ?_ ?_
              rotate_left
              · (go_simp; (try with_reducible rfl))
              (try simp only [Act.put, List.getElem_toArray, List.getElem_cons_zero, List.getElem_cons_succ, List.setIfInBounds_toArray, List.set_cons_zero, List.set_cons_succ])
              refine wpl_val ?_ rfl ?_ ?_
              rotate_left
              · (have c0 := (show V.cell? ⟨xn, 0, none⟩ = some (.int .u32 ((ls + 1 : Nat) : Int)) by rw [hB.cell]; rfl); go_simp; (try with_reducible rfl))
              (try simp only [Act.put, List.getElem_toArray, List.getElem_cons_zero, List.getElem_cons_succ, List.setIfInBounds_toArray, List.set_cons_zero, List.set_cons_succ])
              refine wpl_val ?_ rfl ?_ ?_
              rotate_left
              · (go_simp; (try with_reducible rfl))
              (try simp only [Act.put, List.getElem_toArray, List.getElem_cons_zero, List.getElem_cons_succ, List.setIfInBounds_toArray, List.set_cons_zero, List.set_cons_succ])
              refine wpl_val ?_ rfl ?_ ?_
              rotate_left
              · (have c0 := (show V.cell? ⟨xe, 2, none⟩ = some (.int .u32 ((ls + 1 : Nat) : Int)) by rw [hE.cell]; rfl); go_simp; (try with_reducible rfl))
              (try simp only [Act.put, List.getElem_toArray, List.getElem_cons_zero, List.getElem_cons_succ, List.setIfInBounds_toArray, List.set_cons_zero, List.set_cons_succ])
              refine wpl_val ?_ rfl ?_ ?_
              rotate_left
              · (go_simp; (try with_reducible rfl))
              (try simp only [Act.put, List.getElem_toArray, List.getElem_cons_zero, List.getElem_cons_succ, List.setIfInBounds_toArray, List.set_cons_zero, List.set_cons_succ])
              refine wpl_val ?_ rfl ?_ ?_
              rotate_left
              · (go_simp; (try with_reducible rfl))
              (try simp only [Act.put, List.getElem_toArray, List.getElem_cons_zero, List.getElem_cons_succ, List.setIfInBounds_toArray, List.set_cons_zero, List.set_cons_succ])
              refine wpl_val ?_ rfl ?_ ?_
              rotate_left
              · (go_simp; (try with_reducible rfl))
              (try simp only [Act.put, List.getElem_toArray, List.getElem_cons_zero, List.getElem_cons_succ, List.setIfInBounds_toArray, List.set_cons_zero, List.set_cons_succ])
              refine wpl_val ?_ rfl ?_ ?_
              rotate_left
              · (go_simp; (try with_reducible rfl))
              (try simp only [Act.put, List.getElem_toArray, List.getElem_cons_zero, List.getElem_cons_succ, List.setIfInBounds_toArray, List.set_cons_zero, List.set_cons_succ])
              refine wpl_val (.agg (row 64 b2)) rfl (run_load_midv rfl rfl (vr_body _ _ _ hB) Try.underlying38 rfl (by rw [rowL_length]; exact zero38.2)) ?_
              (try simp only [Act.put, List.getElem_toArray, List.getElem_cons_zero, List.getElem_cons_succ, List.setIfInBounds_toArray, List.set_cons_zero, List.set_cons_succ])
              refine wpl_val ?_ rfl ?_ ?_
              rotate_left
              · (go_simp; (try with_reducible rfl))
              (try simp only [Act.put, List.getElem_toArray, List.getElem_cons_zero, List.getElem_cons_succ, List.setIfInBounds_toArray, List.set_cons_zero, List.set_cons_succ])
              refine wpl_val (.agg (row 64 b2)) rfl (run_load_midv rfl rfl (rp_body _ _ _ hR) Try.underlying38 rfl (by rw [rowL_length]; exact zero38.2)) ?_
              (try simp only [Act.put, List.getElem_toArray, List.getElem_cons_zero, List.getElem_cons_succ, List.setIfInBounds_toArray, List.set_cons_zero, List.set_cons_succ])
              refine wpl_val (.bool true) rfl (run_opEq 38 38 _ _ _ _ true rfl rfl rfl eqt38 (run_eql_yes Try.underlying38 Try.underlying5 (by kernel_rfl) (by kernel_rfl) (by kernel_rfl) (fun j _ => rfl) _)) ?_
              (try simp only [Act.put, List.getElem_toArray, List.getElem_cons_zero, List.getElem_cons_succ, List.setIfInBounds_toArray, List.set_cons_zero, List.set_cons_succ])
              refine wpl_val ?_ rfl ?_ ?_
              rotate_left
              · (go_simp; (try with_reducible rfl))
              (try simp only [Act.put, List.getElem_toArray, List.getElem_cons_zero, List.getElem_cons_succ, List.setIfInBounds_toArray, List.set_cons_zero, List.set_cons_succ])
              refine wpl_val ?_ rfl ?_ ?_
              rotate_left
              · (go_simp; (try with_reducible rfl))
              (try simp only [Act.put, List.getElem_toArray, List.getElem_cons_zero, List.getElem_cons_succ, List.setIfInBounds_toArray, List.set_cons_zero, List.set_cons_succ])
              refine wpl_call _ _ rfl (by go_simp) _ (awake_any _) ?_
              rintro e w9 ⟨rfl, hb9⟩
              refine ⟨_, rfl, ?_⟩
              (try simp only [Act.put, List.getElem_toArray, List.getElem_cons_zero, List.getElem_cons_succ, List.setIfInBounds_toArray, List.set_cons_zero, List.set_cons_succ])
              refine wpl_val ?_ rfl ?_ ?_
              rotate_left
              · (go_simp; (try with_reducible rfl))
              (try simp only [Act.put, List.getElem_toArray, List.getElem_cons_zero, List.getElem_cons_succ, List.setIfInBounds_toArray, List.set_cons_zero, List.set_cons_succ])
              refine wpl_val ?_ rfl ?_ ?_
              rotate_left
              · (go_simp; (try with_reducible rfl))
              (try simp only [Act.put, List.getElem_toArray, List.getElem_cons_zero, List.getElem_cons_succ, List.setIfInBounds_toArray, List.set_cons_zero, List.set_cons_succ])
              refine wpList_nil ?_
              go_wp2_with fail
              go_ret
              exact ⟨rfl, (hS.go hb9).below⟩
end Go.Proofs.Ytjaecdcddmohoaa
