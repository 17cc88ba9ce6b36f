/- The walk of ModelSnapshots. -/
import Derived.Test.YtjaecdcddmohoaaLoW
namespace Go.Proofs.Ytjaecdcddmohoaa.P
open Go.Proofs.Ytjaecdcddmohoaa
/-- A transaction n that has written nothing; what it reads of page q. -/
structure Sn (M : Md) (n q : Int) (ls : Nat) (v : Vr) : Prop where
  shut : M.shut = false
  pg : q < M.pages
  live : get M.live n = some ⟨ls, []⟩
  at_ : at' M q ls = v
  le : ls ≤ M.last
  cnt : n ≤ M.count
theorem Sn.step {M : Md} {m : Nat} {n q : Int} {ls : Nat} {v : Vr} (h : Sn M n q ls v) (ok : Ok M m) {c : Cl} (hk : c.kind < 7) (hc : c.txn ≠ n) : Sn (step M c).1 n q ls v := by
  have k := kept_step M c
  exact ⟨shut_step h.shut hk, by rw [k.pages]; exact h.pg, (live_step ok h.cnt hc).trans h.live, (k.at_ q ls h.le).trans h.at_, Nat.le_trans h.le k.last.1, Int.le_trans h.cnt (by have := k.cnt; omega)⟩
theorem Sn.read {M : Md} {n q : Int} {ls : Nat} {v : Vr} (h : Sn M n q ls v) : P.step M ⟨1, n, q, 0, es⟩ = (M, ok v.ts v.b) := by
  have := read_none (s := es) h.shut h.pg h.live rfl 0
  rw [this, h.at_]
theorem Sn.commit {M : Md} {n q : Int} {ls : Nat} {v : Vr} (h : Sn M n q ls v) : ∃ M', P.step M ⟨3, n, 0, 0, es⟩ = (M', ok ls zb) :=
  ⟨_, (commit_to h.shut h.live 0 0).trans (com_empty rfl)⟩
theorem at_le' (M : Md) (q : Int) (ls : Nat) : (at' M q ls).ts ≤ ls := by
  unfold at'
  rcases pick_mem (M.old q) ls ⟨0, zb⟩ with e | ⟨_, e⟩
  · rw [e]; exact Nat.zero_le _
  · exact e
end Go.Proofs.Ytjaecdcddmohoaa.P
namespace Go.Proofs.Ytjaecdcddmohoaa
open Go.RowKit
set_option linter.unusedSimpArgs false
set_option linter.unusedVariables false
structure SnR (w0 wr : World) (c : Nat) (M : P.Md) (j : Nat) (n q : Int) (ls : Nat) (v : P.Vr) (xb xw : Nat) : Prop where
  ss : SS w0 wr c M j (fun b => (False ∨ b = xb) ∨ b = xw)
  sn : P.Sn M n q ls v
  b : Blk wr xb (rpA ⟨0, n, ls, P.zb⟩) 40
  a : Blk wr xw (rpA (P.ok v.ts v.b)) 40
def SnL (w0 : World) (c N j0 : Nat) (n q : Int) (ls : Nat) (v : P.Vr) (xb xw : Nat) (i : Value) (wr : World) : Prop :=
  ∃ (k : Nat) (M : P.Md) (j : Nat), i = .int .i64 k ∧ k ≤ N ∧ SnR w0 wr c M j n q ls v xb xw ∧ j ≤ j0 + k
set_option maxRecDepth 100000 in
set_option maxHeartbeats 8000000 in
theorem snap_walk (ao0 : Option Addr) (n0 cap0 : Nat) (C0 : Nat → P.Cl) (ao1 : Option Addr) (n1 cap1 : Nat) (C1 : Nat → P.Cl) (p : Int) (w : World) (hops0 : OpsAt w ao0 n0 C0) (hm : n0 ≤ maxLen) (hcap : n0 ≤ cap0)
    (hops1 : OpsAt w ao1 n1 C1) (hm1 : n1 ≤ maxLen) (hcap1 : n1 ≤ cap1) (hp : 0 ≤ p ∧ p ≤ 65535) :
    Calls Try.prog 4 #[.slice ao0 n0 cap0, .slice ao1 n1 cap1, .int .u16 p] w fun e w' => e = .returned (.bool true) ∧ Below w.heap.size w w' := by
  have hz40 := zero40.1
  have hz35 := zero35.1
  have hao := hops0.some
  have hao1 := Lib.hid hops1.some
  replace hcap1 := Lib.hid hcap1
  go_enter Try.func4, Try.ntmps4
  go_upto_region 1 with (fail)
  refine wp_region_lit ?_
  refine wpl_call _ _ rfl (by go_simp) _ (new_in _ 8 1073741824 (by omega)) ?_
  rintro e w1 ⟨m, rfl, hms, hb⟩
  refine ⟨_, rfl, ?_⟩
  have hS := SS.start hms hb (by omega) (by omega)
  have hI := P.Iv.new
  have hL0 : LpR w m.c (min n0 40) (.int .i64 0) w1 := ⟨0, _, 0, rfl, Nat.zero_le _, hS, hI, Nat.le_refl _⟩
  have hbel1 := hb
  clear hS hI hms hb
  generalize m.c = c at *
  (try simp only [Act.put, List.getElem_toArray, List.getElem_cons_zero, List.getElem_cons_succ, List.setIfInBounds_toArray, List.set_cons_zero, List.set_cons_succ])
  refine wpl_val ?_ rfl ?_ ?_
  rotate_left
  · (go_simp; (try with_reducible rfl))
  (try simp only [Act.put, List.getElem_toArray, List.getElem_cons_zero, List.getElem_cons_succ, List.setIfInBounds_toArray, List.set_cons_zero, List.set_cons_succ])
  refine wpList_nil ?_
  have hN : min n0 40 ≤ n0 ∧ min n0 40 ≤ 40 := by omega
  have hN1 : min n1 40 ≤ n1 ∧ min n1 40 ≤ 40 := by omega
  have hops := Lib.hid (hops0.mono (Below.refl _ _) hN.1)
  have hopt := Lib.hid (hops1.mono (Below.refl _ _) hN1.1)
  replace hL0 := Lib.hid hL0
  clear hops0 hops1
  go_upto_region 4 with (fail)
  refine wp_region_lit ?_
  refine wpl_val ?_ rfl ?_ ?_
  rotate_left
  · (go_simp; (try with_reducible rfl))
  (try simp only [Act.put, List.getElem_toArray, List.getElem_cons_zero, List.setIfInBounds_toArray, List.set_cons_zero, List.set_cons_succ])
  refine wpl_call _ _ rfl (by go_simp) _ (small_any ao0 n0 cap0 _ hcap hao) ?_
  rintro e w' ⟨rfl, rfl⟩
  refine ⟨_, rfl, ?_⟩
  (try simp only [Act.put, List.getElem_toArray, List.getElem_cons_zero, List.getElem_cons_succ, List.setIfInBounds_toArray, List.set_cons_zero, List.set_cons_succ])
  refine wpl_val ?_ rfl ?_ ?_
  rotate_left
  · (go_simp; (try with_reducible rfl))
  (try simp only [Act.put, List.getElem_toArray, List.getElem_cons_zero, List.getElem_cons_succ, List.setIfInBounds_toArray, List.set_cons_zero, List.set_cons_succ])
  refine wpl_val ?_ rfl ?_ ?_
  rotate_left
  · (go_simp; (try with_reducible rfl))
  (try simp only [Act.put, List.getElem_toArray, List.getElem_cons_zero, List.getElem_cons_succ, List.setIfInBounds_toArray, List.set_cons_zero, List.set_cons_succ])
  refine wpList_nil ?_
  generalize min n0 40 = N at *
  have hN40 := hN.2
  have hN41 := hN1.2
  clear hN hao hN1
  go_wp2_with fail
  go_loopw [22] (fun i wr => LpR w c N i wr) (fun i _ => N - (intOf i).toNat)
  case atStart => exact hL0.out
  case round =>
    obtain ⟨k, M, j, rfl, hk, hS, hI, hj⟩ := hrel
    replace hI := Lib.hid hI
    by_cases hlt : k < N
    · have hlt' : (k : Int) < (N : Int) := by omega
      obtain ⟨sb, so, rfl, hr⟩ := hops.out.load hS.below hlt
      replace hr := Lib.hid hr
      go_upto_region 6 with (fail)
      refine wp_region_lit ?_
      refine wpl_val ?_ rfl ?_ ?_
      rotate_left
      · (go_simp; (try with_reducible rfl))
      (try simp only [Act.put, List.getElem_toArray, List.getElem_cons_zero, List.setIfInBounds_toArray, List.set_cons_zero, List.set_cons_succ])
      refine wpList_load_mid rfl 35 _ rfl sb (so + k * 5) rfl (clL (C0 k)) _ hr.out Try.underlying35 rfl (size35 (C0 k)) ?_
      (try simp only [Act.put, List.getElem_toArray, List.getElem_cons_zero, List.getElem_cons_succ, List.setIfInBounds_toArray, List.set_cons_zero, List.set_cons_succ])
      refine wpl_alloc 35 (clA ⟨0, 0, 0, 0, P.es⟩) rfl rfl hz35 ?_
      (try simp only [Act.put, List.getElem_toArray, List.getElem_cons_zero, List.getElem_cons_succ, List.setIfInBounds_toArray, List.set_cons_zero, List.set_cons_succ])
      refine wpl_law rfl (wp_store_row 35 _ _ rfl wr.heap.size (clA (C0 k)) rfl rfl 35 _ (Blk.alloc_new _ _ _) (size35 _) rfl (clA_one _) ?_)
      (try simp only [Act.put, List.getElem_toArray, List.getElem_cons_zero, List.getElem_cons_succ, List.setIfInBounds_toArray, List.set_cons_zero, List.set_cons_succ])
      refine wpList_nil ?_
      obtain ⟨hS2, hB, hb⟩ := hS.box (clA ⟨0, 0, 0, 0, P.es⟩) (clA (C0 k)) 35
      generalize (wr.alloc (.cells (clA ⟨0, 0, 0, 0, P.es⟩) 35)).setRow wr.heap.size (clA (C0 k)) = V at *
      generalize wr.heap.size = bx at *
      have hok := Lib.hid (hops.out.ok k hlt)
      clear hS hr
      go_upto_region 7 with (fail)
      refine wp_region_lit ?_
      refine wpl_val ?_ rfl ?_ ?_
      rotate_left
      · (go_simp; (try with_reducible rfl))
      (try simp only [Act.put, List.getElem_toArray, List.getElem_cons_zero, List.setIfInBounds_toArray, List.set_cons_zero, List.set_cons_succ])
      refine wpl_val ?_ rfl ?_ ?_
      rotate_left
      · (have c0 := (show V.cell? ⟨bx, 0, none⟩ = some (.int .u8 (C0 k).kind) by rw [hB.cell]; rfl); go_simp; (try with_reducible rfl))
      (try simp only [Act.put, List.getElem_toArray, List.getElem_cons_zero, List.getElem_cons_succ, List.setIfInBounds_toArray, List.set_cons_zero, List.set_cons_succ])
      refine wpl_val ?_ rfl ?_ ?_
      rotate_left
      · (go_simp; (try with_reducible rfl))
      (try simp only [Act.put, List.getElem_toArray, List.getElem_cons_zero, List.getElem_cons_succ, List.setIfInBounds_toArray, List.set_cons_zero, List.set_cons_succ])
      refine wpList_nil ?_
      by_cases h7 : (C0 k).kind < 7
      · go_upto_region 8 with (fail)
        refine wp_region_lit ?_
        refine wpl_val ?_ rfl ?_ ?_
        rotate_left
        · (go_simp; (try with_reducible rfl))
        (try simp only [Act.put, List.getElem_toArray, List.getElem_cons_zero, List.setIfInBounds_toArray, List.set_cons_zero, List.set_cons_succ])
        refine wpl_val (.agg (clA (C0 k))) rfl (cl_load hB rfl rfl) ?_
        (try simp only [Act.put, List.getElem_toArray, List.getElem_cons_zero, List.getElem_cons_succ, List.setIfInBounds_toArray, List.set_cons_zero, List.set_cons_succ])
        refine wpl_call _ _ rfl (by go_simp) _ (hS2.do_ (cl := C0 k) (by omega) hok.out.1) ?_
        rintro e w5 ⟨rfl, hS5, hf⟩
        refine ⟨_, rfl, ?_⟩
        have hI5 := Lib.hid (hI.out.step h7)
        clear hS2 hf hb hB
        (try simp only [Act.put, List.getElem_toArray, List.getElem_cons_zero, List.getElem_cons_succ, List.setIfInBounds_toArray, List.set_cons_zero, List.set_cons_succ])
        refine wpList_nil ?_
        go_wp2_with fail
        go_roundw
        case rel => exact ⟨k + 1, _, j + 1, by go_num, by omega, hS5.more (fun b e => e.elim), hI5.out, by omega⟩
        case measure => simp [intOf]; omega
      · have h7' : 7 ≤ (C0 k).kind := by omega
        go_wp2_with fail
        go_roundw
        case rel => exact ⟨k + 1, M, j, by go_num, by omega, hS2.more (fun b e => e.elim), hI.out, by omega⟩
        case measure => simp [intOf]; omega
    · obtain rfl : k = N := by omega
      replace hI := hI.out
      clear hlt hops hL0
      have hj' : j ≤ 100 := by omega
      clear hj
      have hp0 : 0 ≤ p := hp.1
      have hp1 : p ≤ 65535 := hp.2
      go_upto_region 10 with (fail)
      refine wp_region_lit ?_
      refine wpl_val ?_ rfl ?_ ?_
      rotate_left
      · (go_simp; (try with_reducible rfl))
      (try simp only [Act.put, List.getElem_toArray, List.getElem_cons_zero, List.setIfInBounds_toArray, List.set_cons_zero, List.set_cons_succ])
      refine wpl_val ?_ rfl ?_ ?_
      rotate_left
      · (go_simp; (try with_reducible rfl))
      (try simp only [Act.put, List.getElem_toArray, List.getElem_cons_zero, List.getElem_cons_succ, List.setIfInBounds_toArray, List.set_cons_zero, List.set_cons_succ])
      refine wpl_val ?_ rfl ?_ ?_
      rotate_left
      · (go_simp; (try with_reducible rfl))
      (try simp only [Act.put, List.getElem_toArray, List.getElem_cons_zero, List.getElem_cons_succ, List.setIfInBounds_toArray, List.set_cons_zero, List.set_cons_succ])
      refine wpList_nil ?_
      have hq : 0 ≤ p.tmod 8 ∧ p.tmod 8 < 8 := by rw [Int.tmod_eq_emod_of_nonneg hp0]; omega
      generalize p.tmod 8 = q at *
      clear hp hp0 hp1 hcap
      have hsh := Lib.hid hI.shut
      have hpg : Hid (q < M.pages) := by unfold Hid; rw [hI.pages]; exact hq.2
      have hll : M.last ≤ 100 := Nat.le_trans hI.last hj'
      have hcb0 : ClOk ⟨0, 0, 0, 0, P.es⟩ := clok0 (by omega) (by omega)
      have hcnt := hS.ok.cnt
      clear hI
      go_upto_region 11 with (fail)
      refine wp_region_lit ?_
      refine wpl_val ?_ rfl ?_ ?_
      rotate_left
      · (go_simp; (try with_reducible rfl))
      (try simp only [Act.put, List.getElem_toArray, List.getElem_cons_zero, List.setIfInBounds_toArray, List.set_cons_zero, List.set_cons_succ])
      refine wpl_val (.agg (clA ⟨0, 0, 0, 0, P.es⟩)) rfl (run_buildE rfl (by go_simp; exact b35_0 0)) ?_
      (try simp only [Act.put, List.getElem_toArray, List.getElem_cons_zero, List.getElem_cons_succ, List.setIfInBounds_toArray, List.set_cons_zero, List.set_cons_succ])
      by_cases h8 : M.live.length = 8
      · have hst := P.begin_many hsh.out h8 0 0 0 P.es
        refine wpl_call _ _ rfl (by go_simp) _ (hS.do_ (cl := ⟨0, 0, 0, 0, P.es⟩) (by omega) hcb0) ?_
        rintro e w2 ⟨rfl, hS2, hf⟩
        refine ⟨_, rfl, ?_⟩
        clear hS
        (try simp only [Act.put, List.getElem_toArray, List.getElem_cons_zero, List.getElem_cons_succ, List.setIfInBounds_toArray, List.set_cons_zero, List.set_cons_succ])
        refine wpl_alloc 40 (rpA ⟨0, 0, 0, P.zb⟩) rfl rfl hz40 ?_
        (try simp only [Act.put, List.getElem_toArray, List.getElem_cons_zero, List.getElem_cons_succ, List.setIfInBounds_toArray, List.set_cons_zero, List.set_cons_succ])
        refine wpl_law rfl (wp_store_row 40 _ _ rfl w2.heap.size (rpA (P.step M ⟨0, 0, 0, 0, P.es⟩).2) rfl rfl 40 _ (Blk.alloc_new _ _ _) (size40 _) (by simp only [rpA_size]) (rpA_one _) ?_)
        (try simp only [Act.put, List.getElem_toArray, List.getElem_cons_zero, List.getElem_cons_succ, List.setIfInBounds_toArray, List.set_cons_zero, List.set_cons_succ])
        refine wpList_nil ?_
        obtain ⟨hS, hB, hb⟩ := hS2.box (rpA ⟨0, 0, 0, P.zb⟩) (rpA (P.step M ⟨0, 0, 0, 0, P.es⟩).2) 40
        have hx := hb.size
        have hx2 := hB.lt
        clear hS2
        generalize (w2.alloc (.cells (rpA ⟨0, 0, 0, P.zb⟩) 40)).setRow w2.heap.size (rpA (P.step M ⟨0, 0, 0, 0, P.es⟩).2) = V at *
        rw [hst] at hS hB
        dsimp only at hS hB
        clear hst hf hb
        generalize w2.heap.size = xb at *
        go_upto_region 12 with (fail)
        refine wp_region_lit ?_
        refine wpl_val ?_ rfl ?_ ?_
        rotate_left
        · (go_simp; (try with_reducible rfl))
        (try simp only [Act.put, List.getElem_toArray, List.getElem_cons_zero, List.setIfInBounds_toArray, List.set_cons_zero, List.set_cons_succ])
        refine wpl_val ?_ rfl ?_ ?_
        rotate_left
        · (have c0 := (show V.cell? ⟨xb, 0, none⟩ = some (.int .i64 10) by rw [hB.cell]; rfl); go_simp; (try with_reducible rfl))
        (try simp only [Act.put, List.getElem_toArray, List.getElem_cons_zero, List.getElem_cons_succ, List.setIfInBounds_toArray, List.set_cons_zero, List.set_cons_succ])
        refine wpl_val ?_ rfl ?_ ?_
        rotate_left
        · (go_simp; (try with_reducible rfl))
        (try simp only [Act.put, List.getElem_toArray, List.getElem_cons_zero, List.getElem_cons_succ, List.setIfInBounds_toArray, List.set_cons_zero, List.set_cons_succ])
        refine wpList_nil ?_
        go_upto_region 13 with (fail)
        refine wp_region_lit ?_
        refine wpl_val ?_ rfl ?_ ?_
        rotate_left
        · (go_simp; (try with_reducible rfl))
        (try simp only [Act.put, List.getElem_toArray, List.getElem_cons_zero, List.setIfInBounds_toArray, List.set_cons_zero, List.set_cons_succ])
        refine wpl_val ?_ rfl ?_ ?_
        rotate_left
        · (have c0 := (show V.cell? ⟨xb, 0, none⟩ = some (.int .i64 10) by rw [hB.cell]; rfl); go_simp; (try with_reducible rfl))
        (try simp only [Act.put, List.getElem_toArray, List.getElem_cons_zero, List.getElem_cons_succ, List.setIfInBounds_toArray, List.set_cons_zero, List.set_cons_succ])
        refine wpl_val ?_ rfl ?_ ?_
        rotate_left
        · (go_simp; (try with_reducible rfl))
        (try simp only [Act.put, List.getElem_toArray, List.getElem_cons_zero, List.getElem_cons_succ, List.setIfInBounds_toArray, List.set_cons_zero, List.set_cons_succ])
        refine wpl_val ?_ rfl ?_ ?_
        rotate_left
        · (go_simp; (try with_reducible rfl))
        (try simp only [Act.put, List.getElem_toArray, List.getElem_cons_zero, List.getElem_cons_succ, List.setIfInBounds_toArray, List.set_cons_zero, List.set_cons_succ])
        refine wpl_call _ _ rfl (by go_simp) _ (awake_any _) ?_
        rintro e w9 ⟨rfl, hb9⟩
        refine ⟨_, rfl, ?_⟩
        (try simp only [Act.put, List.getElem_toArray, List.getElem_cons_zero, List.getElem_cons_succ, List.setIfInBounds_toArray, List.set_cons_zero, List.set_cons_succ])
        refine wpl_val ?_ rfl ?_ ?_
        rotate_left
        · (go_simp; (try with_reducible rfl))
        (try simp only [Act.put, List.getElem_toArray, List.getElem_cons_zero, List.getElem_cons_succ, List.setIfInBounds_toArray, List.set_cons_zero, List.set_cons_succ])
        refine wpl_val ?_ rfl ?_ ?_
        rotate_left
        · (go_simp; (try with_reducible rfl))
        (try simp only [Act.put, List.getElem_toArray, List.getElem_cons_zero, List.getElem_cons_succ, List.setIfInBounds_toArray, List.set_cons_zero, List.set_cons_succ])
        refine wpList_nil ?_
        go_wp2_with fail
        go_ret
        exact ⟨rfl, (hS.go hb9).below⟩
      · have hst := P.begin_ok hsh.out h8 0 0 0 P.es
        refine wpl_call _ _ rfl (by go_simp) _ (hS.do_ (cl := ⟨0, 0, 0, 0, P.es⟩) (by omega) hcb0) ?_
        rintro e w2 ⟨rfl, hS2, hf⟩
        refine ⟨_, rfl, ?_⟩
        clear hS
        (try simp only [Act.put, List.getElem_toArray, List.getElem_cons_zero, List.getElem_cons_succ, List.setIfInBounds_toArray, List.set_cons_zero, List.set_cons_succ])
        refine wpl_alloc 40 (rpA ⟨0, 0, 0, P.zb⟩) rfl rfl hz40 ?_
        (try simp only [Act.put, List.getElem_toArray, List.getElem_cons_zero, List.getElem_cons_succ, List.setIfInBounds_toArray, List.set_cons_zero, List.set_cons_succ])
        refine wpl_law rfl (wp_store_row 40 _ _ rfl w2.heap.size (rpA (P.step M ⟨0, 0, 0, 0, P.es⟩).2) rfl rfl 40 _ (Blk.alloc_new _ _ _) (size40 _) (by simp only [rpA_size]) (rpA_one _) ?_)
        (try simp only [Act.put, List.getElem_toArray, List.getElem_cons_zero, List.getElem_cons_succ, List.setIfInBounds_toArray, List.set_cons_zero, List.set_cons_succ])
        refine wpList_nil ?_
        obtain ⟨hS, hB, hb⟩ := hS2.box (rpA ⟨0, 0, 0, P.zb⟩) (rpA (P.step M ⟨0, 0, 0, 0, P.es⟩).2) 40
        have hx := hb.size
        have hx2 := hB.lt
        clear hS2
        generalize (w2.alloc (.cells (rpA ⟨0, 0, 0, P.zb⟩) 40)).setRow w2.heap.size (rpA (P.step M ⟨0, 0, 0, 0, P.es⟩).2) = V at *
        rw [hst] at hS hB
        dsimp only at hS hB
        have h1 : 1 ≤ (M.count : Int) + 1 := by omega
        have h2 : (M.count : Int) + 1 ≤ 1000 := by omega
        have hsn : P.Sn { M with count := M.count + 1, live := put M.live ((M.count : Int) + 1) ⟨M.last, []⟩ } ((M.count : Int) + 1) q M.last (P.at' M q M.last) :=
          ⟨hsh.out, hpg.out, (get_put _ _ _ _).trans (if_pos rfl), rfl, Nat.le_refl _, Int.le_refl _⟩
        have hvle := P.at_le' M q M.last
        generalize { M with count := M.count + 1, live := put M.live ((M.count : Int) + 1) ⟨M.last, []⟩ } = M1 at *
        generalize (M.count : Int) + 1 = n at *
        generalize P.at' M q M.last = v at *
        generalize M.last = ls at *
        generalize w2.heap.size = xb at *
        have hX := hB
        clear hst hf hb hB hsh hpg h8 hcnt
        obtain ⟨V0, rfl⟩ : ∃ V0, V0 = V := ⟨_, rfl⟩
        obtain ⟨M, rfl⟩ : ∃ M, M = M1 := ⟨_, rfl⟩
        replace hsn := Lib.hid hsn
        go_upto_region 12 with (fail)
        refine wp_region_lit ?_
        refine wpl_val ?_ rfl ?_ ?_
        rotate_left
        · (go_simp; (try with_reducible rfl))
        (try simp only [Act.put, List.getElem_toArray, List.getElem_cons_zero, List.setIfInBounds_toArray, List.set_cons_zero, List.set_cons_succ])
        refine wpl_val ?_ rfl ?_ ?_
        rotate_left
        · (have c0 := (show V0.cell? ⟨xb, 0, none⟩ = some (.int .i64 0) by rw [hX.cell]; rfl); go_simp; (try with_reducible rfl))
        (try simp only [Act.put, List.getElem_toArray, List.getElem_cons_zero, List.getElem_cons_succ, List.setIfInBounds_toArray, List.set_cons_zero, List.set_cons_succ])
        refine wpl_val ?_ rfl ?_ ?_
        rotate_left
        · (go_simp; (try with_reducible rfl))
        (try simp only [Act.put, List.getElem_toArray, List.getElem_cons_zero, List.getElem_cons_succ, List.setIfInBounds_toArray, List.set_cons_zero, List.set_cons_succ])
        refine wpList_nil ?_
        go_upto_region 14 with (fail)
        refine wp_region_lit ?_
        refine wpl_val ?_ rfl ?_ ?_
        rotate_left
        · (go_simp; (try with_reducible rfl))
        (try simp only [Act.put, List.getElem_toArray, List.getElem_cons_zero, List.setIfInBounds_toArray, List.set_cons_zero, List.set_cons_succ])
        refine wpl_val ?_ rfl ?_ ?_
        rotate_left
        · (go_simp; (try with_reducible rfl))
        (try simp only [Act.put, List.getElem_toArray, List.getElem_cons_zero, List.getElem_cons_succ, List.setIfInBounds_toArray, List.set_cons_zero, List.set_cons_succ])
        refine wpl_val ?_ rfl ?_ ?_
        rotate_left
        · (have c0 := (show V0.cell? ⟨xb, 1, none⟩ = some (.int .u64 n) by rw [hX.cell]; rfl); go_simp; (try with_reducible rfl))
        (try simp only [Act.put, List.getElem_toArray, List.getElem_cons_zero, List.getElem_cons_succ, List.setIfInBounds_toArray, List.set_cons_zero, List.set_cons_succ])
        refine wpl_val ?_ rfl ?_ ?_
        rotate_left
        · (go_simp; (try with_reducible rfl))
        (try simp only [Act.put, List.getElem_toArray, List.getElem_cons_zero, List.getElem_cons_succ, List.setIfInBounds_toArray, List.set_cons_zero, List.set_cons_succ])
        refine wpl_val (.agg (clA ⟨1, n, q, 0, P.es⟩)) rfl (run_buildE rfl (by go_simp; exact b35_3 1 n q)) ?_
        (try simp only [Act.put, List.getElem_toArray, List.getElem_cons_zero, List.getElem_cons_succ, List.setIfInBounds_toArray, List.set_cons_zero, List.set_cons_succ])
        refine wpl_call _ _ rfl (by go_simp) _ (hS.do_ (cl := ⟨1, n, q, 0, P.es⟩) (by omega) (clok (by omega) (by omega) (by omega) (by omega) es_ok)) ?_
        rintro e w2 ⟨rfl, hS2, hf⟩
        refine ⟨_, rfl, ?_⟩
        clear hS
        (try simp only [Act.put, List.getElem_toArray, List.getElem_cons_zero, List.getElem_cons_succ, List.setIfInBounds_toArray, List.set_cons_zero, List.set_cons_succ])
        refine wpl_alloc 40 (rpA ⟨0, 0, 0, P.zb⟩) rfl rfl hz40 ?_
        (try simp only [Act.put, List.getElem_toArray, List.getElem_cons_zero, List.getElem_cons_succ, List.setIfInBounds_toArray, List.set_cons_zero, List.set_cons_succ])
        refine wpl_law rfl (wp_store_row 40 _ _ rfl w2.heap.size (rpA (P.step M ⟨1, n, q, 0, P.es⟩).2) rfl rfl 40 _ (Blk.alloc_new _ _ _) (size40 _) (by simp only [rpA_size]) (rpA_one _) ?_)
        (try simp only [Act.put, List.getElem_toArray, List.getElem_cons_zero, List.getElem_cons_succ, List.setIfInBounds_toArray, List.set_cons_zero, List.set_cons_succ])
        refine wpList_nil ?_
        obtain ⟨hS, hB, hb⟩ := hS2.box (rpA ⟨0, 0, 0, P.zb⟩) (rpA (P.step M ⟨1, n, q, 0, P.es⟩).2) 40
        have hx := hb.size
        have hx2 := hB.lt
        clear hS2
        generalize (w2.alloc (.cells (rpA ⟨0, 0, 0, P.zb⟩) 40)).setRow w2.heap.size (rpA (P.step M ⟨1, n, q, 0, P.es⟩).2) = V at *
        rw [hsn.out.read] at hS hB
        dsimp only at hS hB
        replace hX := (hX.fr hf (fun e => e (by simp))).below hb
        generalize w2.heap.size = xw at *
        have hR : SnL w c (min n1 40) (j + 1 + 1) n q ls v xb xw (.int .i64 0) V := ⟨0, M, _, rfl, Nat.zero_le _, ⟨hS, hsn.out, hX, hB⟩, Nat.le_refl _⟩
        clear hS hsn hX hB hf hb hx2
        replace hR := Lib.hid hR
        go_upto_region 15 with (fail)
        refine wp_region_lit ?_
        refine wpl_val ?_ rfl ?_ ?_
        rotate_left
        · (go_simp; (try with_reducible rfl))
        (try simp only [Act.put, List.getElem_toArray, List.getElem_cons_zero, List.setIfInBounds_toArray, List.set_cons_zero, List.set_cons_succ])
        refine wpl_call _ _ rfl (by go_simp) _ (small_any ao1 n1 cap1 _ hcap1.out hao1.out) ?_
        rintro e w' ⟨rfl, rfl⟩
        refine ⟨_, rfl, ?_⟩
        (try simp only [Act.put, List.getElem_toArray, List.getElem_cons_zero, List.getElem_cons_succ, List.setIfInBounds_toArray, List.set_cons_zero, List.set_cons_succ])
        refine wpl_val ?_ rfl ?_ ?_
        rotate_left
        · (go_simp; (try with_reducible rfl))
        (try simp only [Act.put, List.getElem_toArray, List.getElem_cons_zero, List.getElem_cons_succ, List.setIfInBounds_toArray, List.set_cons_zero, List.set_cons_succ])
        refine wpl_val ?_ rfl ?_ ?_
        rotate_left
        · (go_simp; (try with_reducible rfl))
        (try simp only [Act.put, List.getElem_toArray, List.getElem_cons_zero, List.getElem_cons_succ, List.setIfInBounds_toArray, List.set_cons_zero, List.set_cons_succ])
        refine wpList_nil ?_
        generalize min n1 40 = N2 at *
        clear hcap1 hao1
        obtain ⟨j0, hj0⟩ : ∃ j0, j + 1 + 1 = j0 := ⟨_, rfl⟩
        rw [hj0] at hR
        have hj1 : j0 ≤ 200 := by omega
        clear hj0 hj'
        go_wp2_with fail
        go_loopw [56] (fun i wr => SnL w c N2 j0 n q ls v xb xw i wr) (fun i _ => N2 - (intOf i).toNat)
        case atStart => exact hR.out
        case round =>
          obtain ⟨k2, M, j2, rfl, hk2, hS, hj2⟩ := hrel
          by_cases hlt : k2 < N2
          · have hlt' : (k2 : Int) < (N2 : Int) := by omega
            obtain ⟨sb, so, rfl, hr⟩ := hopt.out.load hS.ss.below hlt
            replace hr := Lib.hid hr
            have hok := Lib.hid (hopt.out.ok k2 hlt)
            go_upto_region 17 with (fail)
            refine wp_region_lit ?_
            refine wpl_val ?_ rfl ?_ ?_
            rotate_left
            · (go_simp; (try with_reducible rfl))
            (try simp only [Act.put, List.getElem_toArray, List.getElem_cons_zero, List.setIfInBounds_toArray, List.set_cons_zero, List.set_cons_succ])
            refine wpList_load_mid rfl 35 _ rfl sb (so + k2 * 5) rfl (clL (C1 k2)) _ hr.out Try.underlying35 rfl (size35 (C1 k2)) ?_
            (try simp only [Act.put, List.getElem_toArray, List.getElem_cons_zero, List.getElem_cons_succ, List.setIfInBounds_toArray, List.set_cons_zero, List.set_cons_succ])
            refine wpl_alloc 35 (clA ⟨0, 0, 0, 0, P.es⟩) rfl rfl hz35 ?_
            (try simp only [Act.put, List.getElem_toArray, List.getElem_cons_zero, List.getElem_cons_succ, List.setIfInBounds_toArray, List.set_cons_zero, List.set_cons_succ])
            refine wpl_law rfl (wp_store_row 35 _ _ rfl wr.heap.size (clA (C1 k2)) rfl rfl 35 _ (Blk.alloc_new _ _ _) (size35 _) rfl (clA_one _) ?_)
            (try simp only [Act.put, List.getElem_toArray, List.getElem_cons_zero, List.getElem_cons_succ, List.setIfInBounds_toArray, List.set_cons_zero, List.set_cons_succ])
            refine wpList_nil ?_
            obtain ⟨hS2, hB, hb⟩ := hS.ss.box (clA ⟨0, 0, 0, 0, P.es⟩) (clA (C1 k2)) 35
            have hX := hS.b.below hb
            have hA := hS.a.below hb
            have hsn := Lib.hid hS.sn
            generalize (wr.alloc (.cells (clA ⟨0, 0, 0, 0, P.es⟩) 35)).setRow wr.heap.size (clA (C1 k2)) = V at *
            generalize wr.heap.size = bx at *
            clear hS hr
            by_cases h7 : (C1 k2).kind < 7
            · have h7' : decide ((C1 k2).kind < 7) = true := by simp [h7]
              by_cases hn : (C1 k2).txn = n
              · have hn' : ((C1 k2).txn != n) = false := by simp [hn]
                go_upto_region 18 with (fail)
                refine wp_region_lit ?_
                refine wpl_val ?_ rfl ?_ ?_
                rotate_left
                · (go_simp; (try with_reducible rfl))
                (try simp only [Act.put, List.getElem_toArray, List.getElem_cons_zero, List.setIfInBounds_toArray, List.set_cons_zero, List.set_cons_succ])
                refine wpl_val ?_ rfl ?_ ?_
                rotate_left
                · (have c0 := (show V.cell? ⟨bx, 0, none⟩ = some (.int .u8 (C1 k2).kind) by rw [hB.cell]; rfl); go_simp; (try with_reducible rfl))
                (try simp only [Act.put, List.getElem_toArray, List.getElem_cons_zero, List.getElem_cons_succ, List.setIfInBounds_toArray, List.set_cons_zero, List.set_cons_succ])
                refine wpl_val ?_ rfl ?_ ?_
                rotate_left
                · (go_simp; (try with_reducible rfl))
                (try simp only [Act.put, List.getElem_toArray, List.getElem_cons_zero, List.getElem_cons_succ, List.setIfInBounds_toArray, List.set_cons_zero, List.set_cons_succ])
                refine wpl_val ?_ rfl ?_ ?_
                rotate_left
                · (go_simp; (try with_reducible rfl))
                (try simp only [Act.put, List.getElem_toArray, List.getElem_cons_zero, List.getElem_cons_succ, List.setIfInBounds_toArray, List.set_cons_zero, List.set_cons_succ])
                refine wpl_val ?_ rfl ?_ ?_
                rotate_left
                · (go_simp; (try with_reducible rfl))
                (try simp only [Act.put, List.getElem_toArray, List.getElem_cons_zero, List.getElem_cons_succ, List.setIfInBounds_toArray, List.set_cons_zero, List.set_cons_succ])
                refine wpl_val ?_ rfl ?_ ?_
                rotate_left
                · (have c0 := (show V.cell? ⟨bx, 1, none⟩ = some (.int .u64 (C1 k2).txn) by rw [hB.cell]; rfl); go_simp; (try with_reducible rfl))
                (try simp only [Act.put, List.getElem_toArray, List.getElem_cons_zero, List.getElem_cons_succ, List.setIfInBounds_toArray, List.set_cons_zero, List.set_cons_succ])
                refine wpl_val ?_ rfl ?_ ?_
                rotate_left
                · (go_simp; (try with_reducible rfl))
                (try simp only [Act.put, List.getElem_toArray, List.getElem_cons_zero, List.getElem_cons_succ, List.setIfInBounds_toArray, List.set_cons_zero, List.set_cons_succ])
                refine wpl_val ?_ rfl ?_ ?_
                rotate_left
                · (have c0 := (show V.cell? ⟨xb, 1, none⟩ = some (.int .u64 n) by rw [hX.cell]; rfl); go_simp; (try with_reducible rfl))
                (try simp only [Act.put, List.getElem_toArray, List.getElem_cons_zero, List.getElem_cons_succ, List.setIfInBounds_toArray, List.set_cons_zero, List.set_cons_succ])
                clear hn
                refine wpl_val ?_ rfl ?_ ?_
                rotate_left
                · (go_simp; (try with_reducible rfl))
                (try simp only [Act.put, List.getElem_toArray, List.getElem_cons_zero, List.getElem_cons_succ, List.setIfInBounds_toArray, List.set_cons_zero, List.set_cons_succ])
                refine wpl_val ?_ rfl ?_ ?_
                rotate_left
                · (go_simp; (try with_reducible rfl))
                (try simp only [Act.put, List.getElem_toArray, List.getElem_cons_zero, List.getElem_cons_succ, List.setIfInBounds_toArray, List.set_cons_zero, List.set_cons_succ])
                refine wpList_nil ?_
                go_wp2_with fail
                go_roundw
                case rel => exact ⟨k2 + 1, M, j2, by go_num, by omega, ⟨hS2.more (fun b e => .inl e), hsn.out, hX, hA⟩, by omega⟩
                case measure => simp [intOf]; omega
              · have hn' : ((C1 k2).txn != n) = true := by simp [hn]
                go_upto_region 18 with (fail)
                refine wp_region_lit ?_
                refine wpl_val ?_ rfl ?_ ?_
                rotate_left
                · (go_simp; (try with_reducible rfl))
                (try simp only [Act.put, List.getElem_toArray, List.getElem_cons_zero, List.setIfInBounds_toArray, List.set_cons_zero, List.set_cons_succ])
                refine wpl_val ?_ rfl ?_ ?_
                rotate_left
                · (have c0 := (show V.cell? ⟨bx, 0, none⟩ = some (.int .u8 (C1 k2).kind) by rw [hB.cell]; rfl); go_simp; (try with_reducible rfl))
                (try simp only [Act.put, List.getElem_toArray, List.getElem_cons_zero, List.getElem_cons_succ, List.setIfInBounds_toArray, List.set_cons_zero, List.set_cons_succ])
                refine wpl_val ?_ rfl ?_ ?_
                rotate_left
                · (go_simp; (try with_reducible rfl))
                (try simp only [Act.put, List.getElem_toArray, List.getElem_cons_zero, List.getElem_cons_succ, List.setIfInBounds_toArray, List.set_cons_zero, List.set_cons_succ])
                refine wpl_val ?_ rfl ?_ ?_
                rotate_left
                · (go_simp; (try with_reducible rfl))
                (try simp only [Act.put, List.getElem_toArray, List.getElem_cons_zero, List.getElem_cons_succ, List.setIfInBounds_toArray, List.set_cons_zero, List.set_cons_succ])
                refine wpl_val ?_ rfl ?_ ?_
                rotate_left
                · (go_simp; (try with_reducible rfl))
                (try simp only [Act.put, List.getElem_toArray, List.getElem_cons_zero, List.getElem_cons_succ, List.setIfInBounds_toArray, List.set_cons_zero, List.set_cons_succ])
                refine wpl_val ?_ rfl ?_ ?_
                rotate_left
                · (have c0 := (show V.cell? ⟨bx, 1, none⟩ = some (.int .u64 (C1 k2).txn) by rw [hB.cell]; rfl); go_simp; (try with_reducible rfl))
                (try simp only [Act.put, List.getElem_toArray, List.getElem_cons_zero, List.getElem_cons_succ, List.setIfInBounds_toArray, List.set_cons_zero, List.set_cons_succ])
                refine wpl_val ?_ rfl ?_ ?_
                rotate_left
                · (go_simp; (try with_reducible rfl))
                (try simp only [Act.put, List.getElem_toArray, List.getElem_cons_zero, List.getElem_cons_succ, List.setIfInBounds_toArray, List.set_cons_zero, List.set_cons_succ])
                refine wpl_val ?_ rfl ?_ ?_
                rotate_left
                · (have c0 := (show V.cell? ⟨xb, 1, none⟩ = some (.int .u64 n) by rw [hX.cell]; rfl); go_simp; (try with_reducible rfl))
                (try simp only [Act.put, List.getElem_toArray, List.getElem_cons_zero, List.getElem_cons_succ, List.setIfInBounds_toArray, List.set_cons_zero, List.set_cons_succ])
                refine wpl_val ?_ rfl ?_ ?_
                rotate_left
                · (go_simp; (try with_reducible rfl))
                (try simp only [Act.put, List.getElem_toArray, List.getElem_cons_zero, List.getElem_cons_succ, List.setIfInBounds_toArray, List.set_cons_zero, List.set_cons_succ])
                refine wpl_val ?_ rfl ?_ ?_
                rotate_left
                · (go_simp; (try with_reducible rfl))
                (try simp only [Act.put, List.getElem_toArray, List.getElem_cons_zero, List.getElem_cons_succ, List.setIfInBounds_toArray, List.set_cons_zero, List.set_cons_succ])
                refine wpList_nil ?_
                go_upto_region 19 with (fail)
                refine wp_region_lit ?_
                refine wpl_val ?_ rfl ?_ ?_
                rotate_left
                · (go_simp; (try with_reducible rfl))
                (try simp only [Act.put, List.getElem_toArray, List.getElem_cons_zero, List.setIfInBounds_toArray, List.set_cons_zero, List.set_cons_succ])
                refine wpl_val (.agg (clA (C1 k2))) rfl (cl_load hB rfl rfl) ?_
                (try simp only [Act.put, List.getElem_toArray, List.getElem_cons_zero, List.getElem_cons_succ, List.setIfInBounds_toArray, List.set_cons_zero, List.set_cons_succ])
                refine wpl_call _ _ rfl (by go_simp) _ (hS2.do_ (cl := C1 k2) (by omega) hok.out.1) ?_
                rintro e w5 ⟨rfl, hS5, hf⟩
                refine ⟨_, rfl, ?_⟩
                have hsn5 := Lib.hid (hsn.out.step hS2.ok h7 hn)
                replace hX := hX.fr hf (fun e => e (by simp))
                replace hA := hA.fr hf (fun e => e (by simp))
                clear hS2 hf hb hB hsn hn
                (try simp only [Act.put, List.getElem_toArray, List.getElem_cons_zero, List.getElem_cons_succ, List.setIfInBounds_toArray, List.set_cons_zero, List.set_cons_succ])
                refine wpList_nil ?_
                go_wp2_with fail
                go_roundw
                case rel => exact ⟨k2 + 1, _, j2 + 1, by go_num, by omega, ⟨hS5.more (fun b e => .inl e), hsn5.out, hX, hA⟩, by omega⟩
                case measure => simp [intOf]; omega
            · have h7' : decide ((C1 k2).kind < 7) = false := by simp [h7]
              go_upto_region 18 with (fail)
              refine wp_region_lit ?_
              refine wpl_val ?_ rfl ?_ ?_
              rotate_left
              · (go_simp; (try with_reducible rfl))
              (try simp only [Act.put, List.getElem_toArray, List.getElem_cons_zero, List.setIfInBounds_toArray, List.set_cons_zero, List.set_cons_succ])
              refine wpl_val ?_ rfl ?_ ?_
              rotate_left
              · (have c0 := (show V.cell? ⟨bx, 0, none⟩ = some (.int .u8 (C1 k2).kind) by rw [hB.cell]; rfl); go_simp; (try with_reducible rfl))
              (try simp only [Act.put, List.getElem_toArray, List.getElem_cons_zero, List.getElem_cons_succ, List.setIfInBounds_toArray, List.set_cons_zero, List.set_cons_succ])
              refine wpl_val ?_ rfl ?_ ?_
              rotate_left
              · (go_simp; (try with_reducible rfl))
              (try simp only [Act.put, List.getElem_toArray, List.getElem_cons_zero, List.getElem_cons_succ, List.setIfInBounds_toArray, List.set_cons_zero, List.set_cons_succ])
              refine wpl_val ?_ rfl ?_ ?_
              rotate_left
              · (go_simp; (try with_reducible rfl))
              (try simp only [Act.put, List.getElem_toArray, List.getElem_cons_zero, List.getElem_cons_succ, List.setIfInBounds_toArray, List.set_cons_zero, List.set_cons_succ])
              refine wpl_skip rfl ?_
              (try simp only [Act.put, List.getElem_toArray, List.getElem_cons_zero, List.getElem_cons_succ, List.setIfInBounds_toArray, List.set_cons_zero, List.set_cons_succ])
              refine wpl_skip rfl ?_
              (try simp only [Act.put, List.getElem_toArray, List.getElem_cons_zero, List.getElem_cons_succ, List.setIfInBounds_toArray, List.set_cons_zero, List.set_cons_succ])
              refine wpl_skip rfl ?_
              (try simp only [Act.put, List.getElem_toArray, List.getElem_cons_zero, List.getElem_cons_succ, List.setIfInBounds_toArray, List.set_cons_zero, List.set_cons_succ])
              refine wpl_skip rfl ?_
              (try simp only [Act.put, List.getElem_toArray, List.getElem_cons_zero, List.getElem_cons_succ, List.setIfInBounds_toArray, List.set_cons_zero, List.set_cons_succ])
              refine wpl_skip rfl ?_
              (try simp only [Act.put, List.getElem_toArray, List.getElem_cons_zero, List.getElem_cons_succ, List.setIfInBounds_toArray, List.set_cons_zero, List.set_cons_succ])
              refine wpl_val ?_ rfl ?_ ?_
              rotate_left
              · (go_simp; (try with_reducible rfl))
              (try simp only [Act.put, List.getElem_toArray, List.getElem_cons_zero, List.getElem_cons_succ, List.setIfInBounds_toArray, List.set_cons_zero, List.set_cons_succ])
              refine wpList_nil ?_
              go_wp2_with fail
              go_roundw
              case rel => exact ⟨k2 + 1, M, j2, by go_num, by omega, ⟨hS2.more (fun b e => .inl e), hsn.out, hX, hA⟩, by omega⟩
              case measure => simp [intOf]; omega
          · obtain rfl : k2 = N2 := by omega
            obtain ⟨hS, hsn, hX, hA⟩ := hS
            have hj3 : j2 ≤ 300 := by omega
            have hvw : RpOk (P.ok v.ts v.b) := ⟨wf_i64 (by simp [P.ok]), wf_u64' (by simp [P.ok]), wf_u32 (by show v.ts < _; omega)⟩
            replace hvw := Lib.hid hvw
            clear hlt hR hopt hj2
            replace hsn := Lib.hid hsn
            go_upto_region 21 with (fail)
            refine wp_region_lit ?_
            refine wpl_val ?_ rfl ?_ ?_
            rotate_left
            · (go_simp; (try with_reducible rfl))
            (try simp only [Act.put, List.getElem_toArray, List.getElem_cons_zero, List.setIfInBounds_toArray, List.set_cons_zero, List.set_cons_succ])
            refine wpl_val ?_ rfl ?_ ?_
            rotate_left
            · (go_simp; (try with_reducible rfl))
            (try simp only [Act.put, List.getElem_toArray, List.getElem_cons_zero, List.getElem_cons_succ, List.setIfInBounds_toArray, List.set_cons_zero, List.set_cons_succ])
            refine wpl_val ?_ rfl ?_ ?_
            rotate_left
            · (have c0 := (show wr.cell? ⟨xb, 1, none⟩ = some (.int .u64 n) by rw [hX.cell]; rfl); go_simp; (try with_reducible rfl))
            (try simp only [Act.put, List.getElem_toArray, List.getElem_cons_zero, List.getElem_cons_succ, List.setIfInBounds_toArray, List.set_cons_zero, List.set_cons_succ])
            refine wpl_val ?_ rfl ?_ ?_
            rotate_left
            · (go_simp; (try with_reducible rfl))
            (try simp only [Act.put, List.getElem_toArray, List.getElem_cons_zero, List.getElem_cons_succ, List.setIfInBounds_toArray, List.set_cons_zero, List.set_cons_succ])
            refine wpl_val (.agg (clA ⟨1, n, q, 0, P.es⟩)) rfl (run_buildE rfl (by go_simp; exact b35_3 1 n q)) ?_
            (try simp only [Act.put, List.getElem_toArray, List.getElem_cons_zero, List.getElem_cons_succ, List.setIfInBounds_toArray, List.set_cons_zero, List.set_cons_succ])
            refine wpl_call _ _ rfl (by go_simp) _ (hS.do_ (cl := ⟨1, n, q, 0, P.es⟩) (by omega) (clok (by omega) (by omega) (by omega) (by omega) es_ok)) ?_
            rintro e w2 ⟨rfl, hS2, hf⟩
            refine ⟨_, rfl, ?_⟩
            clear hS
            (try simp only [Act.put, List.getElem_toArray, List.getElem_cons_zero, List.getElem_cons_succ, List.setIfInBounds_toArray, List.set_cons_zero, List.set_cons_succ])
            refine wpl_alloc 40 (rpA ⟨0, 0, 0, P.zb⟩) rfl rfl hz40 ?_
            (try simp only [Act.put, List.getElem_toArray, List.getElem_cons_zero, List.getElem_cons_succ, List.setIfInBounds_toArray, List.set_cons_zero, List.set_cons_succ])
            refine wpl_law rfl (wp_store_row 40 _ _ rfl w2.heap.size (rpA (P.step M ⟨1, n, q, 0, P.es⟩).2) rfl rfl 40 _ (Blk.alloc_new _ _ _) (size40 _) (by simp only [rpA_size]) (rpA_one _) ?_)
            (try simp only [Act.put, List.getElem_toArray, List.getElem_cons_zero, List.getElem_cons_succ, List.setIfInBounds_toArray, List.set_cons_zero, List.set_cons_succ])
            refine wpList_nil ?_
            obtain ⟨hS, hB, hb⟩ := hS2.box (rpA ⟨0, 0, 0, P.zb⟩) (rpA (P.step M ⟨1, n, q, 0, P.es⟩).2) 40
            have hx := hb.size
            have hx2 := hB.lt
            clear hS2
            generalize (w2.alloc (.cells (rpA ⟨0, 0, 0, P.zb⟩) 40)).setRow w2.heap.size (rpA (P.step M ⟨1, n, q, 0, P.es⟩).2) = V at *
            rw [hsn.out.read] at hS hB
            dsimp only at hS hB
            replace hX := (hX.fr hf (fun e => e (by simp))).below hb
            replace hA := (hA.fr hf (fun e => e (by simp))).below hb
            have hN := hB
            clear hf hb hB
            generalize w2.heap.size = xn at *
            obtain ⟨V1, rfl⟩ : ∃ V1, V1 = V := ⟨_, rfl⟩
            obtain ⟨M', hst⟩ := hsn.out.commit
            replace hst := Lib.hid hst
            clear hsn
            go_upto_region 22 with (fail)
            refine wp_region_lit ?_
            refine wpl_val ?_ rfl ?_ ?_
            rotate_left
            · (go_simp; (try with_reducible rfl))
            (try simp only [Act.put, List.getElem_toArray, List.getElem_cons_zero, List.setIfInBounds_toArray, List.set_cons_zero, List.set_cons_succ])
            refine wpl_val ?_ rfl ?_ ?_
            rotate_left
            · (go_simp; (try with_reducible rfl))
            (try simp only [Act.put, List.getElem_toArray, List.getElem_cons_zero, List.getElem_cons_succ, List.setIfInBounds_toArray, List.set_cons_zero, List.set_cons_succ])
            refine wpl_val ?_ rfl ?_ ?_
            rotate_left
            · (have c0 := (show V1.cell? ⟨xb, 1, none⟩ = some (.int .u64 n) by rw [hX.cell]; rfl); go_simp; (try with_reducible rfl))
            (try simp only [Act.put, List.getElem_toArray, List.getElem_cons_zero, List.getElem_cons_succ, List.setIfInBounds_toArray, List.set_cons_zero, List.set_cons_succ])
            refine wpl_val (.agg (clA ⟨3, n, 0, 0, P.es⟩)) rfl (run_buildE rfl (by go_simp; exact b35_01 3 n)) ?_
            (try simp only [Act.put, List.getElem_toArray, List.getElem_cons_zero, List.getElem_cons_succ, List.setIfInBounds_toArray, List.set_cons_zero, List.set_cons_succ])
            refine wpl_call _ _ rfl (by go_simp) _ (hS.do_ (cl := ⟨3, n, 0, 0, P.es⟩) (by omega) (clok0 (by omega) (by omega))) ?_
            rintro e w2 ⟨rfl, hS2, hf⟩
            refine ⟨_, rfl, ?_⟩
            clear hS
            (try simp only [Act.put, List.getElem_toArray, List.getElem_cons_zero, List.getElem_cons_succ, List.setIfInBounds_toArray, List.set_cons_zero, List.set_cons_succ])
            refine wpl_alloc 40 (rpA ⟨0, 0, 0, P.zb⟩) rfl rfl hz40 ?_
            (try simp only [Act.put, List.getElem_toArray, List.getElem_cons_zero, List.getElem_cons_succ, List.setIfInBounds_toArray, List.set_cons_zero, List.set_cons_succ])
            refine wpl_law rfl (wp_store_row 40 _ _ rfl w2.heap.size (rpA (P.step M ⟨3, n, 0, 0, P.es⟩).2) rfl rfl 40 _ (Blk.alloc_new _ _ _) (size40 _) (by simp only [rpA_size]) (rpA_one _) ?_)
            (try simp only [Act.put, List.getElem_toArray, List.getElem_cons_zero, List.getElem_cons_succ, List.setIfInBounds_toArray, List.set_cons_zero, List.set_cons_succ])
            refine wpList_nil ?_
            obtain ⟨hS, hB, hb⟩ := hS2.box (rpA ⟨0, 0, 0, P.zb⟩) (rpA (P.step M ⟨3, n, 0, 0, P.es⟩).2) 40
            have hx := hb.size
            have hx2 := hB.lt
            clear hS2
            generalize (w2.alloc (.cells (rpA ⟨0, 0, 0, P.zb⟩) 40)).setRow w2.heap.size (rpA (P.step M ⟨3, n, 0, 0, P.es⟩).2) = V at *
            rw [hst.out] at hS hB
            dsimp only at hS hB
            replace hX := (hX.fr hf (fun e => e (by simp))).below hb
            replace hA := (hA.fr hf (fun e => e (by simp))).below hb
            replace hN := (hN.fr hf (fun e => e (by simp))).below hb
            clear hf hb hst
            generalize w2.heap.size = xe at *
            have hle : (v.ts : Int) ≤ (ls : Int) := by omega
            go_upto_region 23 with (fail)
            refine wp_region_lit ?_
            refine wpl_val (.agg (rpA (P.ok v.ts v.b))) rfl (run_load_cs rfl rfl hA Try.underlying40 rfl (size40 _)) ?_
            (try simp only [Act.put, List.getElem_toArray, List.getElem_cons_zero, List.getElem_cons_succ, List.setIfInBounds_toArray, List.set_cons_zero, List.set_cons_succ])
            refine wpl_val (.agg (rpA (P.ok v.ts v.b))) rfl (run_load_cs rfl rfl hN Try.underlying40 rfl (size40 _)) ?_
            (try simp only [Act.put, List.getElem_toArray, List.getElem_cons_zero, List.getElem_cons_succ, List.setIfInBounds_toArray, List.set_cons_zero, List.set_cons_succ])
            refine wpl_val (.bool true) rfl (run_opEq 40 40 _ _ _ _ true rfl rfl rfl eqt40 (eql40_yes hvw.out hvw.out rfl _)) ?_
            (try simp only [Act.put, List.getElem_toArray, List.getElem_cons_zero, List.getElem_cons_succ, List.setIfInBounds_toArray, List.set_cons_zero, List.set_cons_succ])
            refine wpl_val ?_ rfl ?_ ?_
            rotate_left
            · (go_simp; (try with_reducible rfl))
            (try simp only [Act.put, List.getElem_toArray, List.getElem_cons_zero, List.getElem_cons_succ, List.setIfInBounds_toArray, List.set_cons_zero, List.set_cons_succ])
            refine wpl_val ?_ rfl ?_ ?_
            rotate_left
            · (go_simp; (try with_reducible rfl))
            (try simp only [Act.put, List.getElem_toArray, List.getElem_cons_zero, List.getElem_cons_succ, List.setIfInBounds_toArray, List.set_cons_zero, List.set_cons_succ])
            refine wpl_val ?_ rfl ?_ ?_
            rotate_left
            · (have c0 := (show V.cell? ⟨xw, 0, none⟩ = some (.int .i64 0) by rw [hA.cell]; rfl); go_simp; (try with_reducible rfl))
            (try simp only [Act.put, List.getElem_toArray, List.getElem_cons_zero, List.getElem_cons_succ, List.setIfInBounds_toArray, List.set_cons_zero, List.set_cons_succ])
            refine wpl_val ?_ rfl ?_ ?_
            rotate_left
            · (go_simp; (try with_reducible rfl))
            (try simp only [Act.put, List.getElem_toArray, List.getElem_cons_zero, List.getElem_cons_succ, List.setIfInBounds_toArray, List.set_cons_zero, List.set_cons_succ])
            refine wpl_val ?_ rfl ?_ ?_
            rotate_left
            · (go_simp; (try with_reducible rfl))
            (try simp only [Act.put, List.getElem_toArray, List.getElem_cons_zero, List.getElem_cons_succ, List.setIfInBounds_toArray, List.set_cons_zero, List.set_cons_succ])
            refine wpl_val ?_ rfl ?_ ?_
            rotate_left
            · (go_simp; (try with_reducible rfl))
            (try simp only [Act.put, List.getElem_toArray, List.getElem_cons_zero, List.getElem_cons_succ, List.setIfInBounds_toArray, List.set_cons_zero, List.set_cons_succ])
            refine wpl_val ?_ rfl ?_ ?_
            rotate_left
            · (go_simp; (try with_reducible rfl))
            (try simp only [Act.put, List.getElem_toArray, List.getElem_cons_zero, List.getElem_cons_succ, List.setIfInBounds_toArray, List.set_cons_zero, List.set_cons_succ])
            refine wpl_val ?_ rfl ?_ ?_
            rotate_left
            · (have c0 := (show V.cell? ⟨xw, 2, none⟩ = some (.int .u32 v.ts) by rw [hA.cell]; rfl); go_simp; (try with_reducible rfl))
            (try simp only [Act.put, List.getElem_toArray, List.getElem_cons_zero, List.getElem_cons_succ, List.setIfInBounds_toArray, List.set_cons_zero, List.set_cons_succ])
            refine wpl_val ?_ rfl ?_ ?_
            rotate_left
            · (go_simp; (try with_reducible rfl))
            (try simp only [Act.put, List.getElem_toArray, List.getElem_cons_zero, List.getElem_cons_succ, List.setIfInBounds_toArray, List.set_cons_zero, List.set_cons_succ])
            refine wpl_val ?_ rfl ?_ ?_
            rotate_left
            · (have c0 := (show V.cell? ⟨xb, 2, none⟩ = some (.int .u32 ls) by rw [hX.cell]; rfl); go_simp; (try with_reducible rfl))
            (try simp only [Act.put, List.getElem_toArray, List.getElem_cons_zero, List.getElem_cons_succ, List.setIfInBounds_toArray, List.set_cons_zero, List.set_cons_succ])
            refine wpl_val ?_ rfl ?_ ?_
            rotate_left
            · (go_simp; (try with_reducible rfl))
            (try simp only [Act.put, List.getElem_toArray, List.getElem_cons_zero, List.getElem_cons_succ, List.setIfInBounds_toArray, List.set_cons_zero, List.set_cons_succ])
            refine wpl_val ?_ rfl ?_ ?_
            rotate_left
            · (go_simp; (try with_reducible rfl))
            (try simp only [Act.put, List.getElem_toArray, List.getElem_cons_zero, List.getElem_cons_succ, List.setIfInBounds_toArray, List.set_cons_zero, List.set_cons_succ])
            refine wpl_val ?_ rfl ?_ ?_
            rotate_left
            · (go_simp; (try with_reducible rfl))
            (try simp only [Act.put, List.getElem_toArray, List.getElem_cons_zero, List.getElem_cons_succ, List.setIfInBounds_toArray, List.set_cons_zero, List.set_cons_succ])
            refine wpl_val ?_ rfl ?_ ?_
            rotate_left
            · (go_simp; (try with_reducible rfl))
            (try simp only [Act.put, List.getElem_toArray, List.getElem_cons_zero, List.getElem_cons_succ, List.setIfInBounds_toArray, List.set_cons_zero, List.set_cons_succ])
            refine wpl_val ?_ rfl ?_ ?_
            rotate_left
            · (have c0 := (show V.cell? ⟨xe, 0, none⟩ = some (.int .i64 0) by rw [hB.cell]; rfl); go_simp; (try with_reducible rfl))
            (try simp only [Act.put, List.getElem_toArray, List.getElem_cons_zero, List.getElem_cons_succ, List.setIfInBounds_toArray, List.set_cons_zero, List.set_cons_succ])
            refine wpl_val ?_ rfl ?_ ?_
            rotate_left
            · (go_simp; (try with_reducible rfl))
            (try simp only [Act.put, List.getElem_toArray, List.getElem_cons_zero, List.getElem_cons_succ, List.setIfInBounds_toArray, List.set_cons_zero, List.set_cons_succ])
            refine wpl_val ?_ rfl ?_ ?_
            rotate_left
            · (go_simp; (try with_reducible rfl))
            (try simp only [Act.put, List.getElem_toArray, List.getElem_cons_zero, List.getElem_cons_succ, List.setIfInBounds_toArray, List.set_cons_zero, List.set_cons_succ])
            refine wpl_val ?_ rfl ?_ ?_
            rotate_left
            · (go_simp; (try with_reducible rfl))
            (try simp only [Act.put, List.getElem_toArray, List.getElem_cons_zero, List.getElem_cons_succ, List.setIfInBounds_toArray, List.set_cons_zero, List.set_cons_succ])
            refine wpl_val ?_ rfl ?_ ?_
            rotate_left
            · (go_simp; (try with_reducible rfl))
            (try simp only [Act.put, List.getElem_toArray, List.getElem_cons_zero, List.getElem_cons_succ, List.setIfInBounds_toArray, List.set_cons_zero, List.set_cons_succ])
            refine wpl_val ?_ rfl ?_ ?_
            rotate_left
            · (have c0 := (show V.cell? ⟨xe, 2, none⟩ = some (.int .u32 ls) by rw [hB.cell]; rfl); go_simp; (try with_reducible rfl))
            (try simp only [Act.put, List.getElem_toArray, List.getElem_cons_zero, List.getElem_cons_succ, List.setIfInBounds_toArray, List.set_cons_zero, List.set_cons_succ])
            refine wpl_val ?_ rfl ?_ ?_
            rotate_left
            · (go_simp; (try with_reducible rfl))
            (try simp only [Act.put, List.getElem_toArray, List.getElem_cons_zero, List.getElem_cons_succ, List.setIfInBounds_toArray, List.set_cons_zero, List.set_cons_succ])
            refine wpl_val ?_ rfl ?_ ?_
            rotate_left
            · (have c0 := (show V.cell? ⟨xb, 2, none⟩ = some (.int .u32 ls) by rw [hX.cell]; rfl); go_simp; (try with_reducible rfl))
            (try simp only [Act.put, List.getElem_toArray, List.getElem_cons_zero, List.getElem_cons_succ, List.setIfInBounds_toArray, List.set_cons_zero, List.set_cons_succ])
            refine wpl_val ?_ rfl ?_ ?_
            rotate_left
            · (go_simp; (try with_reducible rfl))
            (try simp only [Act.put, List.getElem_toArray, List.getElem_cons_zero, List.getElem_cons_succ, List.setIfInBounds_toArray, List.set_cons_zero, List.set_cons_succ])
            refine wpl_val ?_ rfl ?_ ?_
            rotate_left
            · (go_simp; (try with_reducible rfl))
            (try simp only [Act.put, List.getElem_toArray, List.getElem_cons_zero, List.getElem_cons_succ, List.setIfInBounds_toArray, List.set_cons_zero, List.set_cons_succ])
            refine wpl_val ?_ rfl ?_ ?_
            rotate_left
            · (go_simp; (try with_reducible rfl))
            (try simp only [Act.put, List.getElem_toArray, List.getElem_cons_zero, List.getElem_cons_succ, List.setIfInBounds_toArray, List.set_cons_zero, List.set_cons_succ])
            refine wpl_call _ _ rfl (by go_simp) _ (awake_any _) ?_
            rintro e w9 ⟨rfl, hb9⟩
            refine ⟨_, rfl, ?_⟩
            (try simp only [Act.put, List.getElem_toArray, List.getElem_cons_zero, List.getElem_cons_succ, List.setIfInBounds_toArray, List.set_cons_zero, List.set_cons_succ])
            refine wpl_val ?_ rfl ?_ ?_
            rotate_left
            · (go_simp; (try with_reducible rfl))
            (try simp only [Act.put, List.getElem_toArray, List.getElem_cons_zero, List.getElem_cons_succ, List.setIfInBounds_toArray, List.set_cons_zero, List.set_cons_succ])
            refine wpl_val ?_ rfl ?_ ?_
            rotate_left
            · (go_simp; (try with_reducible rfl))
            (try simp only [Act.put, List.getElem_toArray, List.getElem_cons_zero, List.getElem_cons_succ, List.setIfInBounds_toArray, List.set_cons_zero, List.set_cons_succ])
            refine wpList_nil ?_
            go_wp2_with fail
            go_ret
            exact ⟨rfl, (hS.go hb9).below⟩
end Go.Proofs.Ytjaecdcddmohoaa
