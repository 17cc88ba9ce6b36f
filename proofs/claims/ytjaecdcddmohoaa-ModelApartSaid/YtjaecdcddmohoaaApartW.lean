/- The walk of ModelApart. -/
import Derived.Test.YtjaecdcddmohoaaLoW
namespace Go.Proofs.Ytjaecdcddmohoaa
open Go.RowKit
set_option linter.unusedSimpArgs false
set_option linter.unusedVariables false
set_option maxRecDepth 100000 in
set_option maxHeartbeats 8000000 in
theorem apart_walk (ao0 : Option Addr) (n0 cap0 : Nat) (C0 : Nat → P.Cl) (p : Int) (s : ByteArray) (cm : Bool) (w : World) (hops0 : OpsAt w ao0 n0 C0) (hm : n0 ≤ maxLen) (hcap : n0 ≤ cap0) (hp : 0 ≤ p ∧ p ≤ 65535) (hs : s.size ≤ maxLen) :
    Calls Try.prog 6 #[.slice ao0 n0 cap0, .int .u16 p, .string s, .bool cm] w fun e w' => e = .returned (.bool true) ∧ Below w.heap.size w w' := by
  have hz40 := zero40.1
  have hz35 := zero35.1
  have hz44 := zero44.1
  have hao := hops0.some
  go_enter Try.func6, Try.ntmps6
  go_upto_region 1 with (fail)
  refine wp_region_lit ?_
  refine wpl_call _ _ rfl (by go_simp) _ (new_in _ 8 1073741824 (by omega)) ?_
  rintro e w1 ⟨m, rfl, hms, hb⟩
  refine ⟨_, rfl, ?_⟩
  have hS := SS.start hms hb (by omega) (by omega)
  have hI := P.Iv.new
  have hL0 : LpR w m.c (min n0 40) (.int .i64 0) w1 := ⟨0, _, 0, rfl, Nat.zero_le _, hS, hI, Nat.le_refl _⟩
  have hbel1 := hb
  clear hS hI hms hb
  generalize m.c = c at *
  (try simp only [Act.put, List.getElem_toArray, List.getElem_cons_zero, List.getElem_cons_succ, List.setIfInBounds_toArray, List.set_cons_zero, List.set_cons_succ])
  refine wpl_val ?_ rfl ?_ ?_
  rotate_left
  · (go_simp; (try with_reducible rfl))
  (try simp only [Act.put, List.getElem_toArray, List.getElem_cons_zero, List.getElem_cons_succ, List.setIfInBounds_toArray, List.set_cons_zero, List.set_cons_succ])
  refine wpList_nil ?_
  by_cases h64 : 64 < s.size
  · have h64' : (64 : Int) < (s.size : Int) := by omega
    obtain ⟨k, M, j, _, _, hS, hI, _⟩ := hL0
    clear hI h64
    go_upto_region 2 with (fail)
    refine wp_region_lit ?_
    refine wpl_val ?_ rfl ?_ ?_
    rotate_left
    · (go_simp; (try with_reducible rfl))
    (try simp only [Act.put, List.getElem_toArray, List.getElem_cons_zero, List.setIfInBounds_toArray, List.set_cons_zero, List.set_cons_succ])
    refine wpl_val ?_ rfl ?_ ?_
    rotate_left
    · (go_simp; (try with_reducible rfl))
    (try simp only [Act.put, List.getElem_toArray, List.getElem_cons_zero, List.getElem_cons_succ, List.setIfInBounds_toArray, List.set_cons_zero, List.set_cons_succ])
    refine wpl_val ?_ rfl ?_ ?_
    rotate_left
    · (go_simp; (try with_reducible rfl))
    (try simp only [Act.put, List.getElem_toArray, List.getElem_cons_zero, List.getElem_cons_succ, List.setIfInBounds_toArray, List.set_cons_zero, List.set_cons_succ])
    refine wpl_val ?_ rfl ?_ ?_
    rotate_left
    · (go_simp; (try with_reducible rfl))
    (try simp only [Act.put, List.getElem_toArray, List.getElem_cons_zero, List.getElem_cons_succ, List.setIfInBounds_toArray, List.set_cons_zero, List.set_cons_succ])
    refine wpl_val ?_ rfl ?_ ?_
    rotate_left
    · (go_simp; (try with_reducible rfl))
    (try simp only [Act.put, List.getElem_toArray, List.getElem_cons_zero, List.getElem_cons_succ, List.setIfInBounds_toArray, List.set_cons_zero, List.set_cons_succ])
    refine wpl_val ?_ rfl ?_ ?_
    rotate_left
    · (go_simp; (try with_reducible rfl))
    (try simp only [Act.put, List.getElem_toArray, List.getElem_cons_zero, List.getElem_cons_succ, List.setIfInBounds_toArray, List.set_cons_zero, List.set_cons_succ])
    refine wpl_val ?_ rfl ?_ ?_
    rotate_left
    · (go_simp; (try with_reducible rfl))
    (try simp only [Act.put, List.getElem_toArray, List.getElem_cons_zero, List.getElem_cons_succ, List.setIfInBounds_toArray, List.set_cons_zero, List.set_cons_succ])
    refine wpList_nil ?_
    go_upto_region 3 with (fail)
    refine wp_region_lit ?_
    refine wpl_val ?_ rfl ?_ ?_
    rotate_left
    · (go_simp; (try with_reducible rfl))
    (try simp only [Act.put, List.getElem_toArray, List.getElem_cons_zero, List.setIfInBounds_toArray, List.set_cons_zero, List.set_cons_succ])
    refine wpl_val ?_ rfl ?_ ?_
    rotate_left
    · (go_simp; (try with_reducible rfl))
    (try simp only [Act.put, List.getElem_toArray, List.getElem_cons_zero, List.getElem_cons_succ, List.setIfInBounds_toArray, List.set_cons_zero, List.set_cons_succ])
    refine wpl_val ?_ rfl ?_ ?_
    rotate_left
    · (go_simp; (try with_reducible rfl))
    (try simp only [Act.put, List.getElem_toArray, List.getElem_cons_zero, List.getElem_cons_succ, List.setIfInBounds_toArray, List.set_cons_zero, List.set_cons_succ])
    refine wpl_call _ _ rfl (by go_simp) _ (awake_any _) ?_
    rintro e w5 ⟨rfl, hb⟩
    refine ⟨_, rfl, ?_⟩
    (try simp only [Act.put, List.getElem_toArray, List.getElem_cons_zero, List.getElem_cons_succ, List.setIfInBounds_toArray, List.set_cons_zero, List.set_cons_succ])
    refine wpl_val ?_ rfl ?_ ?_
    rotate_left
    · (go_simp; (try with_reducible rfl))
    (try simp only [Act.put, List.getElem_toArray, List.getElem_cons_zero, List.getElem_cons_succ, List.setIfInBounds_toArray, List.set_cons_zero, List.set_cons_succ])
    refine wpl_val ?_ rfl ?_ ?_
    rotate_left
    · (go_simp; (try with_reducible rfl))
    (try simp only [Act.put, List.getElem_toArray, List.getElem_cons_zero, List.getElem_cons_succ, List.setIfInBounds_toArray, List.set_cons_zero, List.set_cons_succ])
    refine wpList_nil ?_
    go_wp2_with fail
    go_ret
    exact ⟨rfl, (hS.go hb).below⟩
  · have h64' : (s.size : Int) ≤ (64 : Int) := by omega
    go_upto_region 2 with (fail)
    refine wp_region_lit ?_
    refine wpl_val ?_ rfl ?_ ?_
    rotate_left
    · (go_simp; (try with_reducible rfl))
    (try simp only [Act.put, List.getElem_toArray, List.getElem_cons_zero, List.setIfInBounds_toArray, List.set_cons_zero, List.set_cons_succ])
    refine wpl_val ?_ rfl ?_ ?_
    rotate_left
    · (go_simp; (try with_reducible rfl))
    (try simp only [Act.put, List.getElem_toArray, List.getElem_cons_zero, List.getElem_cons_succ, List.setIfInBounds_toArray, List.set_cons_zero, List.set_cons_succ])
    refine wpl_val ?_ rfl ?_ ?_
    rotate_left
    · (go_simp; (try with_reducible rfl))
    (try simp only [Act.put, List.getElem_toArray, List.getElem_cons_zero, List.getElem_cons_succ, List.setIfInBounds_toArray, List.set_cons_zero, List.set_cons_succ])
    refine wpl_val ?_ rfl ?_ ?_
    rotate_left
    · (go_simp; (try with_reducible rfl))
    (try simp only [Act.put, List.getElem_toArray, List.getElem_cons_zero, List.getElem_cons_succ, List.setIfInBounds_toArray, List.set_cons_zero, List.set_cons_succ])
    refine wpl_val ?_ rfl ?_ ?_
    rotate_left
    · (go_simp; (try with_reducible rfl))
    (try simp only [Act.put, List.getElem_toArray, List.getElem_cons_zero, List.getElem_cons_succ, List.setIfInBounds_toArray, List.set_cons_zero, List.set_cons_succ])
    refine wpl_val ?_ rfl ?_ ?_
    rotate_left
    · (go_simp; (try with_reducible rfl))
    (try simp only [Act.put, List.getElem_toArray, List.getElem_cons_zero, List.getElem_cons_succ, List.setIfInBounds_toArray, List.set_cons_zero, List.set_cons_succ])
    refine wpl_val ?_ rfl ?_ ?_
    rotate_left
    · (go_simp; (try with_reducible rfl))
    (try simp only [Act.put, List.getElem_toArray, List.getElem_cons_zero, List.getElem_cons_succ, List.setIfInBounds_toArray, List.set_cons_zero, List.set_cons_succ])
    refine wpList_nil ?_
    have hN : min n0 40 ≤ n0 ∧ min n0 40 ≤ 40 := by omega
    have hops := Lib.hid (hops0.mono (Below.refl _ _) hN.1)
    replace hL0 := Lib.hid hL0
    clear hops0
    go_upto_region 4 with (fail)
    refine wp_region_lit ?_
    refine wpl_val ?_ rfl ?_ ?_
    rotate_left
    · (go_simp; (try with_reducible rfl))
    (try simp only [Act.put, List.getElem_toArray, List.getElem_cons_zero, List.setIfInBounds_toArray, List.set_cons_zero, List.set_cons_succ])
    refine wpl_call _ _ rfl (by go_simp) _ (small_any ao0 n0 cap0 _ hcap hao) ?_
    rintro e w' ⟨rfl, rfl⟩
    refine ⟨_, rfl, ?_⟩
    (try simp only [Act.put, List.getElem_toArray, List.getElem_cons_zero, List.getElem_cons_succ, List.setIfInBounds_toArray, List.set_cons_zero, List.set_cons_succ])
    refine wpl_val ?_ rfl ?_ ?_
    rotate_left
    · (go_simp; (try with_reducible rfl))
    (try simp only [Act.put, List.getElem_toArray, List.getElem_cons_zero, List.getElem_cons_succ, List.setIfInBounds_toArray, List.set_cons_zero, List.set_cons_succ])
    refine wpl_val ?_ rfl ?_ ?_
    rotate_left
    · (go_simp; (try with_reducible rfl))
    (try simp only [Act.put, List.getElem_toArray, List.getElem_cons_zero, List.getElem_cons_succ, List.setIfInBounds_toArray, List.set_cons_zero, List.set_cons_succ])
    refine wpList_nil ?_
    generalize min n0 40 = N at *
    have hN40 := hN.2
    clear hN hao
    go_wp2_with fail
    go_loopw [36] (fun i wr => LpR w c N i wr) (fun i _ => N - (intOf i).toNat)
    case atStart => exact hL0.out
    case round =>
      obtain ⟨k, M, j, rfl, hk, hS, hI, hj⟩ := hrel
      replace hI := Lib.hid hI
      by_cases hlt : k < N
      · have hlt' : (k : Int) < (N : Int) := by omega
        obtain ⟨sb, so, rfl, hr⟩ := hops.out.load hS.below hlt
        replace hr := Lib.hid hr
        go_upto_region 6 with (fail)
        refine wp_region_lit ?_
        refine wpl_val ?_ rfl ?_ ?_
        rotate_left
        · (go_simp; (try with_reducible rfl))
        (try simp only [Act.put, List.getElem_toArray, List.getElem_cons_zero, List.setIfInBounds_toArray, List.set_cons_zero, List.set_cons_succ])
        refine wpList_load_mid rfl 35 _ rfl sb (so + k * 5) rfl (clL (C0 k)) _ hr.out Try.underlying35 rfl (size35 (C0 k)) ?_
        (try simp only [Act.put, List.getElem_toArray, List.getElem_cons_zero, List.getElem_cons_succ, List.setIfInBounds_toArray, List.set_cons_zero, List.set_cons_succ])
        refine wpl_alloc 35 (clA ⟨0, 0, 0, 0, P.es⟩) rfl rfl hz35 ?_
        (try simp only [Act.put, List.getElem_toArray, List.getElem_cons_zero, List.getElem_cons_succ, List.setIfInBounds_toArray, List.set_cons_zero, List.set_cons_succ])
        refine wpl_law rfl (wp_store_row 35 _ _ rfl wr.heap.size (clA (C0 k)) rfl rfl 35 _ (Blk.alloc_new _ _ _) (size35 _) rfl (clA_one _) ?_)
        (try simp only [Act.put, List.getElem_toArray, List.getElem_cons_zero, List.getElem_cons_succ, List.setIfInBounds_toArray, List.set_cons_zero, List.set_cons_succ])
        refine wpList_nil ?_
        obtain ⟨hS2, hB, hb⟩ := hS.box (clA ⟨0, 0, 0, 0, P.es⟩) (clA (C0 k)) 35
        generalize (wr.alloc (.cells (clA ⟨0, 0, 0, 0, P.es⟩) 35)).setRow wr.heap.size (clA (C0 k)) = V at *
        generalize wr.heap.size = bx at *
        have hok := Lib.hid (hops.out.ok k hlt)
        clear hS hr
        go_upto_region 7 with (fail)
        refine wp_region_lit ?_
        refine wpl_val ?_ rfl ?_ ?_
        rotate_left
        · (go_simp; (try with_reducible rfl))
        (try simp only [Act.put, List.getElem_toArray, List.getElem_cons_zero, List.setIfInBounds_toArray, List.set_cons_zero, List.set_cons_succ])
        refine wpl_val ?_ rfl ?_ ?_
        rotate_left
        · (have c0 := (show V.cell? ⟨bx, 0, none⟩ = some (.int .u8 (C0 k).kind) by rw [hB.cell]; rfl); go_simp; (try with_reducible rfl))
        (try simp only [Act.put, List.getElem_toArray, List.getElem_cons_zero, List.getElem_cons_succ, List.setIfInBounds_toArray, List.set_cons_zero, List.set_cons_succ])
        refine wpl_val ?_ rfl ?_ ?_
        rotate_left
        · (go_simp; (try with_reducible rfl))
        (try simp only [Act.put, List.getElem_toArray, List.getElem_cons_zero, List.getElem_cons_succ, List.setIfInBounds_toArray, List.set_cons_zero, List.set_cons_succ])
        refine wpList_nil ?_
        by_cases h7 : (C0 k).kind < 7
        · go_upto_region 8 with (fail)
          refine wp_region_lit ?_
          refine wpl_val ?_ rfl ?_ ?_
          rotate_left
          · (go_simp; (try with_reducible rfl))
          (try simp only [Act.put, List.getElem_toArray, List.getElem_cons_zero, List.setIfInBounds_toArray, List.set_cons_zero, List.set_cons_succ])
          refine wpl_val (.agg (clA (C0 k))) rfl (cl_load hB rfl rfl) ?_
          (try simp only [Act.put, List.getElem_toArray, List.getElem_cons_zero, List.getElem_cons_succ, List.setIfInBounds_toArray, List.set_cons_zero, List.set_cons_succ])
          refine wpl_call _ _ rfl (by go_simp) _ (hS2.do_ (cl := C0 k) (by omega) hok.out.1) ?_
          rintro e w5 ⟨rfl, hS5, hf⟩
          refine ⟨_, rfl, ?_⟩
          have hI5 := Lib.hid (hI.out.step h7)
          clear hS2 hf hb hB
          (try simp only [Act.put, List.getElem_toArray, List.getElem_cons_zero, List.getElem_cons_succ, List.setIfInBounds_toArray, List.set_cons_zero, List.set_cons_succ])
          refine wpList_nil ?_
          go_wp2_with fail
          go_roundw
          case rel => exact ⟨k + 1, _, j + 1, by go_num, by omega, hS5.more (fun b e => e.elim), hI5.out, by omega⟩
          case measure => simp [intOf]; omega
        · have h7' : 7 ≤ (C0 k).kind := by omega
          go_wp2_with fail
          go_roundw
          case rel => exact ⟨k + 1, M, j, by go_num, by omega, hS2.more (fun b e => e.elim), hI.out, by omega⟩
          case measure => simp [intOf]; omega
      · obtain rfl : k = N := by omega
        replace hI := hI.out
        clear hlt hops hL0
        have hj' : j ≤ 100 := by omega
        clear hj
        have hp0 : 0 ≤ p := hp.1
        have hp1 : p ≤ 65535 := hp.2
        go_upto_region 10 with (fail)
        refine wp_region_lit ?_
        refine wpl_val ?_ rfl ?_ ?_
        rotate_left
        · (go_simp; (try with_reducible rfl))
        (try simp only [Act.put, List.getElem_toArray, List.getElem_cons_zero, List.setIfInBounds_toArray, List.set_cons_zero, List.set_cons_succ])
        refine wpl_val ?_ rfl ?_ ?_
        rotate_left
        · (go_simp; (try with_reducible rfl))
        (try simp only [Act.put, List.getElem_toArray, List.getElem_cons_zero, List.getElem_cons_succ, List.setIfInBounds_toArray, List.set_cons_zero, List.set_cons_succ])
        refine wpl_val ?_ rfl ?_ ?_
        rotate_left
        · (go_simp; (try with_reducible rfl))
        (try simp only [Act.put, List.getElem_toArray, List.getElem_cons_zero, List.getElem_cons_succ, List.setIfInBounds_toArray, List.set_cons_zero, List.set_cons_succ])
        refine wpList_nil ?_
        have hq : 0 ≤ p.tmod 8 ∧ p.tmod 8 < 8 := by rw [Int.tmod_eq_emod_of_nonneg hp0]; omega
        generalize p.tmod 8 = q at *
        clear hp hp0 hp1 hcap
        have hsh := Lib.hid hI.shut
        have hpg : Hid (q < M.pages) := by unfold Hid; rw [hI.pages]; exact hq.2
        have hrm := Lib.hid (hI.room (by omega))
        have hcb0 : ClOk ⟨0, 0, 0, 0, P.es⟩ := clok0 (by omega) (by omega)
        have hkey : ∀ x, x ∈ M.live → 1 ≤ x.1 := fun x hx => (hS.ok.key x hx).1
        have hcnt := hS.ok.cnt
        have hkeys := Lib.hid (fun x hx => hS.ok.key x hx)
        replace hkey := Lib.hid hkey
        have hok := Lib.hid hS.ok
        clear hI
        go_upto_region 11 with (fail)
        refine wp_region_lit ?_
        refine wpl_val ?_ rfl ?_ ?_
        rotate_left
        · (go_simp; (try with_reducible rfl))
        (try simp only [Act.put, List.getElem_toArray, List.getElem_cons_zero, List.setIfInBounds_toArray, List.set_cons_zero, List.set_cons_succ])
        refine wpl_val (.agg (clA ⟨0, 0, 0, 0, P.es⟩)) rfl (run_buildE rfl (by go_simp; exact b35_0 0)) ?_
        (try simp only [Act.put, List.getElem_toArray, List.getElem_cons_zero, List.getElem_cons_succ, List.setIfInBounds_toArray, List.set_cons_zero, List.set_cons_succ])
        by_cases h8 : M.live.length = 8
        · have hst := P.begin_many hsh.out h8 0 0 0 P.es
          refine wpl_call _ _ rfl (by go_simp) _ (hS.do_ (cl := ⟨0, 0, 0, 0, P.es⟩) (by omega) hcb0) ?_
          rintro e w2 ⟨rfl, hS2, hf⟩
          refine ⟨_, rfl, ?_⟩
          clear hS
          (try simp only [Act.put, List.getElem_toArray, List.getElem_cons_zero, List.getElem_cons_succ, List.setIfInBounds_toArray, List.set_cons_zero, List.set_cons_succ])
          refine wpl_alloc 40 (rpA ⟨0, 0, 0, P.zb⟩) rfl rfl hz40 ?_
          (try simp only [Act.put, List.getElem_toArray, List.getElem_cons_zero, List.getElem_cons_succ, List.setIfInBounds_toArray, List.set_cons_zero, List.set_cons_succ])
          refine wpl_law rfl (wp_store_row 40 _ _ rfl w2.heap.size (rpA (P.step M ⟨0, 0, 0, 0, P.es⟩).2) rfl rfl 40 _ (Blk.alloc_new _ _ _) (size40 _) (by simp only [rpA_size]) (rpA_one _) ?_)
          (try simp only [Act.put, List.getElem_toArray, List.getElem_cons_zero, List.getElem_cons_succ, List.setIfInBounds_toArray, List.set_cons_zero, List.set_cons_succ])
          refine wpList_nil ?_
          obtain ⟨hS, hB, hb⟩ := hS2.box (rpA ⟨0, 0, 0, P.zb⟩) (rpA (P.step M ⟨0, 0, 0, 0, P.es⟩).2) 40
          have hx := hb.size
          have hx2 := hB.lt
          clear hS2
          generalize (w2.alloc (.cells (rpA ⟨0, 0, 0, P.zb⟩) 40)).setRow w2.heap.size (rpA (P.step M ⟨0, 0, 0, 0, P.es⟩).2) = V at *
          rw [hst] at hS hB
          dsimp only at hS hB
          generalize w2.heap.size = xa at *
          have hA := hB
          clear hst hf hb hB
          obtain ⟨V0, rfl⟩ : ∃ V0, V0 = V := ⟨_, rfl⟩
          go_upto_region 12 with (fail)
          refine wp_region_lit ?_
          refine wpl_val ?_ rfl ?_ ?_
          rotate_left
          · (go_simp; (try with_reducible rfl))
          (try simp only [Act.put, List.getElem_toArray, List.getElem_cons_zero, List.setIfInBounds_toArray, List.set_cons_zero, List.set_cons_succ])
          refine wpl_val ?_ rfl ?_ ?_
          rotate_left
          · (go_simp; (try with_reducible rfl))
          (try simp only [Act.put, List.getElem_toArray, List.getElem_cons_zero, List.getElem_cons_succ, List.setIfInBounds_toArray, List.set_cons_zero, List.set_cons_succ])
          refine wpl_val ?_ rfl ?_ ?_
          rotate_left
          · (go_simp; (try with_reducible rfl))
          (try simp only [Act.put, List.getElem_toArray, List.getElem_cons_zero, List.getElem_cons_succ, List.setIfInBounds_toArray, List.set_cons_zero, List.set_cons_succ])
          refine wpl_call _ _ rfl (by go_simp) _ hS.last ?_
          rintro e w2 ⟨rfl, rfl⟩
          refine ⟨_, rfl, ?_⟩
          (try simp only [Act.put, List.getElem_toArray, List.getElem_cons_zero, List.getElem_cons_succ, List.setIfInBounds_toArray, List.set_cons_zero, List.set_cons_succ])
          refine wpl_call _ _ rfl (by go_simp) _ (hS.at_ q M.last) ?_
          rintro e w2 ⟨rfl, hS2, hb2⟩
          refine ⟨_, rfl, ?_⟩
          clear hS
          (try simp only [Act.put, List.getElem_toArray, List.getElem_cons_zero, List.getElem_cons_succ, List.setIfInBounds_toArray, List.set_cons_zero, List.set_cons_succ])
          refine wpl_alloc 44 (verA ⟨0, P.zb⟩) rfl rfl hz44 ?_
          (try simp only [Act.put, List.getElem_toArray, List.getElem_cons_zero, List.getElem_cons_succ, List.setIfInBounds_toArray, List.set_cons_zero, List.set_cons_succ])
          refine wpl_law rfl (wp_store_row 44 _ _ rfl w2.heap.size (verA (P.at' M q M.last)) rfl rfl 44 _ (Blk.alloc_new _ _ _) (size44 _) (by simp only [verA_size]) (verA_one _) ?_)
          (try simp only [Act.put, List.getElem_toArray, List.getElem_cons_zero, List.getElem_cons_succ, List.setIfInBounds_toArray, List.set_cons_zero, List.set_cons_succ])
          refine wpList_nil ?_
          obtain ⟨hS, hB, hb⟩ := hS2.box (verA ⟨0, P.zb⟩) (verA (P.at' M q M.last)) 44
          replace hb := hb2.trans (hb.mono hb2.size)
          have hx := hb.size
          have hx2 := hB.lt
          clear hS2 hb2
          generalize (w2.alloc (.cells (verA ⟨0, P.zb⟩) 44)).setRow w2.heap.size (verA (P.at' M q M.last)) = V at *
          replace hA := hA.below hb
          generalize w2.heap.size = xv at *
          clear hb hB
          obtain ⟨V1, rfl⟩ : ∃ V1, V1 = V := ⟨_, rfl⟩
          go_upto_region 13 with (fail)
          refine wp_region_lit ?_
          refine wpl_val ?_ rfl ?_ ?_
          rotate_left
          · (go_simp; (try with_reducible rfl))
          (try simp only [Act.put, List.getElem_toArray, List.getElem_cons_zero, List.setIfInBounds_toArray, List.set_cons_zero, List.set_cons_succ])
          refine wpl_val ?_ rfl ?_ ?_
          rotate_left
          · (go_simp; (try with_reducible rfl))
          (try simp only [Act.put, List.getElem_toArray, List.getElem_cons_zero, List.getElem_cons_succ, List.setIfInBounds_toArray, List.set_cons_zero, List.set_cons_succ])
          refine wpl_val ?_ rfl ?_ ?_
          rotate_left
          · (have c0 := (show V1.cell? ⟨xa, 1, none⟩ = some (.int .u64 0) by rw [hA.cell]; rfl); go_simp; (try with_reducible rfl))
          (try simp only [Act.put, List.getElem_toArray, List.getElem_cons_zero, List.getElem_cons_succ, List.setIfInBounds_toArray, List.set_cons_zero, List.set_cons_succ])
          refine wpl_val ?_ rfl ?_ ?_
          rotate_left
          · (go_simp; (try with_reducible rfl))
          (try simp only [Act.put, List.getElem_toArray, List.getElem_cons_zero, List.getElem_cons_succ, List.setIfInBounds_toArray, List.set_cons_zero, List.set_cons_succ])
          refine wpl_val ?_ rfl ?_ ?_
          rotate_left
          · (go_simp; (try with_reducible rfl))
          (try simp only [Act.put, List.getElem_toArray, List.getElem_cons_zero, List.getElem_cons_succ, List.setIfInBounds_toArray, List.set_cons_zero, List.set_cons_succ])
          refine wpl_val (.agg (clA ⟨2, 0, q, 0, s⟩)) rfl (run_buildE rfl (by go_simp; exact b35_s 2 0 q s)) ?_
          (try simp only [Act.put, List.getElem_toArray, List.getElem_cons_zero, List.getElem_cons_succ, List.setIfInBounds_toArray, List.set_cons_zero, List.set_cons_succ])
          have hst := P.write_none (n := 0) (page := q) (s := s) hsh.out hpg.out (by omega) (get_none fun x hx => by have := hkey.out x hx; omega)
          refine wpl_call _ _ rfl (by go_simp) _ (hS.do_ (cl := ⟨2, 0, q, 0, s⟩) (by omega) (clok (by omega) (by omega) (by omega) (by omega) hs)) ?_
          rintro e w2 ⟨rfl, hS2, hf⟩
          refine ⟨_, rfl, ?_⟩
          clear hS
          (try simp only [Act.put, List.getElem_toArray, List.getElem_cons_zero, List.getElem_cons_succ, List.setIfInBounds_toArray, List.set_cons_zero, List.set_cons_succ])
          refine wpl_alloc 40 (rpA ⟨0, 0, 0, P.zb⟩) rfl rfl hz40 ?_
          (try simp only [Act.put, List.getElem_toArray, List.getElem_cons_zero, List.getElem_cons_succ, List.setIfInBounds_toArray, List.set_cons_zero, List.set_cons_succ])
          refine wpl_law rfl (wp_store_row 40 _ _ rfl w2.heap.size (rpA (P.step M ⟨2, 0, q, 0, s⟩).2) rfl rfl 40 _ (Blk.alloc_new _ _ _) (size40 _) (by simp only [rpA_size]) (rpA_one _) ?_)
          (try simp only [Act.put, List.getElem_toArray, List.getElem_cons_zero, List.getElem_cons_succ, List.setIfInBounds_toArray, List.set_cons_zero, List.set_cons_succ])
          refine wpList_nil ?_
          obtain ⟨hS, hB, hb⟩ := hS2.box (rpA ⟨0, 0, 0, P.zb⟩) (rpA (P.step M ⟨2, 0, q, 0, s⟩).2) 40
          have hx := hb.size
          have hx2 := hB.lt
          clear hS2
          generalize (w2.alloc (.cells (rpA ⟨0, 0, 0, P.zb⟩) 40)).setRow w2.heap.size (rpA (P.step M ⟨2, 0, q, 0, s⟩).2) = V at *
          rw [hst] at hS hB
          dsimp only at hS hB
          replace hA := (hA.fr hf (fun e => e (.inl (.inr rfl)))).below hb
          generalize w2.heap.size = xw at *
          clear hst hf hb
          go_upto_region 14 with (fail)
          refine wp_region_held (S := (fun w' => SS w w' c M (j + 1 + 1) (fun b => ((False ∨ b = xa) ∨ b = xv) ∨ b = xw) ∧ Blk w' xa (rpA (P.err 10)) 40 ∧ Blk w' xw (rpA (P.err 9)) 40)) (by kernel_rfl) ?_
          change wpAnyH _ _ _ _ _ _ _ _ (World.drew _)
          (try simp only [Act.put])
          replace hS := And.intro hS.drew (And.intro hA.drew hB.drew)
          clear hA hB
          refine anyH_pure 0 _ ?_ rfl (by kernel_rfl) (by kernel_rfl) (by kernel_rfl) (fun _ _ _ h => h) rfl ?_ hS ?_
          rotate_left
          · (intro w'; go_simp; (try with_reducible rfl))
          (try simp only [Act.put, List.getElem_toArray, List.getElem_cons_zero, List.setIfInBounds_toArray, List.set_cons_zero, List.set_cons_succ])
          refine anyH_if 1 _ ?_ rfl (by kernel_rfl) (by kernel_rfl) (by kernel_rfl) (fun _ _ _ h => h) rfl ?_ hS ?_
          rotate_left
          · (intro w' h; have c0 := (show w'.cell? ⟨xa, 0, none⟩ = some (.int .i64 10) by rw [h.2.1.cell]; rfl); go_simp; (try with_reducible rfl))
          (try simp only [Act.put, List.getElem_toArray, List.getElem_cons_zero, List.getElem_cons_succ, List.setIfInBounds_toArray, List.set_cons_zero, List.set_cons_succ])
          refine anyH_pure 2 _ ?_ rfl (by kernel_rfl) (by kernel_rfl) (by kernel_rfl) (fun _ _ _ h => h) rfl ?_ hS ?_
          rotate_left
          · (intro w'; go_simp; (try with_reducible rfl))
          (try simp only [Act.put, List.getElem_toArray, List.getElem_cons_zero, List.getElem_cons_succ, List.setIfInBounds_toArray, List.set_cons_zero, List.set_cons_succ])
          refine anyH_pure 3 _ ?_ rfl (by kernel_rfl) (by kernel_rfl) (by kernel_rfl) (fun _ _ _ h => h) rfl ?_ hS ?_
          rotate_left
          · (intro w'; go_simp; (try with_reducible rfl))
          (try simp only [Act.put, List.getElem_toArray, List.getElem_cons_zero, List.getElem_cons_succ, List.setIfInBounds_toArray, List.set_cons_zero, List.set_cons_succ])
          refine anyH_skip 4 _ rfl (by kernel_rfl) (by kernel_rfl) (by kernel_rfl) (fun _ _ _ h => h) rfl hS ?_
          (try simp only [Act.put, List.getElem_toArray, List.getElem_cons_zero, List.getElem_cons_succ, List.setIfInBounds_toArray, List.set_cons_zero, List.set_cons_succ])
          refine anyH_skip 5 _ rfl (by kernel_rfl) (by kernel_rfl) (by kernel_rfl) (fun _ _ _ h => h) rfl hS ?_
          (try simp only [Act.put, List.getElem_toArray, List.getElem_cons_zero, List.getElem_cons_succ, List.setIfInBounds_toArray, List.set_cons_zero, List.set_cons_succ])
          refine anyH_skip 6 _ rfl (by kernel_rfl) (by kernel_rfl) (by kernel_rfl) (fun _ _ _ h => h) rfl hS ?_
          (try simp only [Act.put, List.getElem_toArray, List.getElem_cons_zero, List.getElem_cons_succ, List.setIfInBounds_toArray, List.set_cons_zero, List.set_cons_succ])
          refine anyH_skip 7 _ rfl (by kernel_rfl) (by kernel_rfl) (by kernel_rfl) (fun _ _ _ h => h) rfl hS ?_
          (try simp only [Act.put, List.getElem_toArray, List.getElem_cons_zero, List.getElem_cons_succ, List.setIfInBounds_toArray, List.set_cons_zero, List.set_cons_succ])
          refine anyH_skip 8 _ rfl (by kernel_rfl) (by kernel_rfl) (by kernel_rfl) (fun _ _ _ h => h) rfl hS ?_
          (try simp only [Act.put, List.getElem_toArray, List.getElem_cons_zero, List.getElem_cons_succ, List.setIfInBounds_toArray, List.set_cons_zero, List.set_cons_succ])
          refine anyH_skip 9 _ rfl (by kernel_rfl) (by kernel_rfl) (by kernel_rfl) (fun _ _ _ h => h) rfl hS ?_
          (try simp only [Act.put, List.getElem_toArray, List.getElem_cons_zero, List.getElem_cons_succ, List.setIfInBounds_toArray, List.set_cons_zero, List.set_cons_succ])
          refine anyH_skip 10 _ rfl (by kernel_rfl) (by kernel_rfl) (by kernel_rfl) (fun _ _ _ h => h) rfl hS ?_
          (try simp only [Act.put, List.getElem_toArray, List.getElem_cons_zero, List.getElem_cons_succ, List.setIfInBounds_toArray, List.set_cons_zero, List.set_cons_succ])
          refine anyH_pure 11 _ ?_ rfl (by kernel_rfl) (by kernel_rfl) (by kernel_rfl) (fun _ _ _ h => h) rfl ?_ hS ?_
          rotate_left
          · (intro w'; go_simp; (try with_reducible rfl))
          (try simp only [Act.put, List.getElem_toArray, List.getElem_cons_zero, List.getElem_cons_succ, List.setIfInBounds_toArray, List.set_cons_zero, List.set_cons_succ])
          refine wpAnyH_done (by kernel_rfl) ?_ _
          obtain ⟨hS, hA, hB⟩ := hS
          generalize V.drew = V3 at *
          go_upto_region 15 with (fail)
          refine wp_region_lit ?_
          refine wpl_val ?_ rfl ?_ ?_
          rotate_left
          · (go_simp; (try with_reducible rfl))
          (try simp only [Act.put, List.getElem_toArray, List.getElem_cons_zero, List.setIfInBounds_toArray, List.set_cons_zero, List.set_cons_succ])
          refine wpl_val ?_ rfl ?_ ?_
          rotate_left
          · (have c0 := (show V3.cell? ⟨xa, 0, none⟩ = some (.int .i64 10) by rw [hA.cell]; rfl); go_simp; (try with_reducible rfl))
          (try simp only [Act.put, List.getElem_toArray, List.getElem_cons_zero, List.getElem_cons_succ, List.setIfInBounds_toArray, List.set_cons_zero, List.set_cons_succ])
          refine wpl_val ?_ rfl ?_ ?_
          rotate_left
          · (go_simp; (try with_reducible rfl))
          (try simp only [Act.put, List.getElem_toArray, List.getElem_cons_zero, List.getElem_cons_succ, List.setIfInBounds_toArray, List.set_cons_zero, List.set_cons_succ])
          refine wpl_val ?_ rfl ?_ ?_
          rotate_left
          · (go_simp; (try with_reducible rfl))
          (try simp only [Act.put, List.getElem_toArray, List.getElem_cons_zero, List.getElem_cons_succ, List.setIfInBounds_toArray, List.set_cons_zero, List.set_cons_succ])
          refine wpl_val ?_ rfl ?_ ?_
          rotate_left
          · (go_simp; (try with_reducible rfl))
          (try simp only [Act.put, List.getElem_toArray, List.getElem_cons_zero, List.getElem_cons_succ, List.setIfInBounds_toArray, List.set_cons_zero, List.set_cons_succ])
          refine wpl_val ?_ rfl ?_ ?_
          rotate_left
          · (have c0 := (show V3.cell? ⟨xw, 0, none⟩ = some (.int .i64 9) by rw [hB.cell]; rfl); go_simp; (try with_reducible rfl))
          (try simp only [Act.put, List.getElem_toArray, List.getElem_cons_zero, List.getElem_cons_succ, List.setIfInBounds_toArray, List.set_cons_zero, List.set_cons_succ])
          refine wpl_val ?_ rfl ?_ ?_
          rotate_left
          · (go_simp; (try with_reducible rfl))
          (try simp only [Act.put, List.getElem_toArray, List.getElem_cons_zero, List.getElem_cons_succ, List.setIfInBounds_toArray, List.set_cons_zero, List.set_cons_succ])
          refine wpl_val ?_ rfl ?_ ?_
          rotate_left
          · (go_simp; (try with_reducible rfl))
          (try simp only [Act.put, List.getElem_toArray, List.getElem_cons_zero, List.getElem_cons_succ, List.setIfInBounds_toArray, List.set_cons_zero, List.set_cons_succ])
          refine wpl_val ?_ rfl ?_ ?_
          rotate_left
          · (go_simp; (try with_reducible rfl))
          (try simp only [Act.put, List.getElem_toArray, List.getElem_cons_zero, List.getElem_cons_succ, List.setIfInBounds_toArray, List.set_cons_zero, List.set_cons_succ])
          refine wpl_call _ _ rfl (by go_simp) _ (awake_any _) ?_
          rintro e w9 ⟨rfl, hb9⟩
          refine ⟨_, rfl, ?_⟩
          (try simp only [Act.put, List.getElem_toArray, List.getElem_cons_zero, List.getElem_cons_succ, List.setIfInBounds_toArray, List.set_cons_zero, List.set_cons_succ])
          refine wpl_val ?_ rfl ?_ ?_
          rotate_left
          · (go_simp; (try with_reducible rfl))
          (try simp only [Act.put, List.getElem_toArray, List.getElem_cons_zero, List.getElem_cons_succ, List.setIfInBounds_toArray, List.set_cons_zero, List.set_cons_succ])
          refine wpl_val ?_ rfl ?_ ?_
          rotate_left
          · (go_simp; (try with_reducible rfl))
          (try simp only [Act.put, List.getElem_toArray, List.getElem_cons_zero, List.getElem_cons_succ, List.setIfInBounds_toArray, List.set_cons_zero, List.set_cons_succ])
          refine wpList_nil ?_
          go_wp2_with fail
          go_ret
          exact ⟨rfl, (hS.go hb9).below⟩
        · have hst := P.begin_ok hsh.out h8 0 0 0 P.es
          refine wpl_call _ _ rfl (by go_simp) _ (hS.do_ (cl := ⟨0, 0, 0, 0, P.es⟩) (by omega) hcb0) ?_
          rintro e w2 ⟨rfl, hS2, hf⟩
          refine ⟨_, rfl, ?_⟩
          clear hS
          (try simp only [Act.put, List.getElem_toArray, List.getElem_cons_zero, List.getElem_cons_succ, List.setIfInBounds_toArray, List.set_cons_zero, List.set_cons_succ])
          refine wpl_alloc 40 (rpA ⟨0, 0, 0, P.zb⟩) rfl rfl hz40 ?_
          (try simp only [Act.put, List.getElem_toArray, List.getElem_cons_zero, List.getElem_cons_succ, List.setIfInBounds_toArray, List.set_cons_zero, List.set_cons_succ])
          refine wpl_law rfl (wp_store_row 40 _ _ rfl w2.heap.size (rpA (P.step M ⟨0, 0, 0, 0, P.es⟩).2) rfl rfl 40 _ (Blk.alloc_new _ _ _) (size40 _) (by simp only [rpA_size]) (rpA_one _) ?_)
          (try simp only [Act.put, List.getElem_toArray, List.getElem_cons_zero, List.getElem_cons_succ, List.setIfInBounds_toArray, List.set_cons_zero, List.set_cons_succ])
          refine wpList_nil ?_
          obtain ⟨hS, hB, hb⟩ := hS2.box (rpA ⟨0, 0, 0, P.zb⟩) (rpA (P.step M ⟨0, 0, 0, 0, P.es⟩).2) 40
          have hx := hb.size
          have hx2 := hB.lt
          clear hS2
          generalize (w2.alloc (.cells (rpA ⟨0, 0, 0, P.zb⟩) 40)).setRow w2.heap.size (rpA (P.step M ⟨0, 0, 0, 0, P.es⟩).2) = V at *
          rw [hst] at hS hB
          dsimp only at hS hB
          have h1 : 1 ≤ (M.count : Int) + 1 := by omega
          have h2 : (M.count : Int) + 1 ≤ 1000 := by omega
          have hn0 : Hid (get M.live ((M.count : Int) + 1) = none) := get_none fun x hx => by have := (hkeys.out x hx).2; omega
          obtain ⟨M1, hM1⟩ : ∃ M1, { M with count := M.count + 1, live := put M.live ((M.count : Int) + 1) ⟨M.last, []⟩ } = M1 := ⟨_, rfl⟩
          rw [hM1] at hS
          have hsh1 : Hid (M1.shut = false) := by rw [← hM1]; exact hsh
          have hpg1 : Hid (q < M1.pages) := by rw [← hM1]; exact hpg
          have hrm1 : Hid (M1.last ≠ M1.max) := by rw [← hM1]; exact hrm
          have hl1 : Hid (M1.last = M.last) := by rw [← hM1]; exact rfl
          have hg1 : Hid (get M1.live ((M.count : Int) + 1) = some ⟨M.last, []⟩) := by rw [← hM1]; exact (get_put _ _ _ _).trans (if_pos rfl)
          generalize (M.count : Int) + 1 = n at *
          generalize w2.heap.size = xa at *
          have hA := hB
          clear hst hf hb hB hM1 hn0 hkey hkeys
          obtain ⟨V0, rfl⟩ : ∃ V0, V0 = V := ⟨_, rfl⟩
          rw [← hl1.out] at hg1 hA
          generalize M.last = ls at *
          clear hl1 hsh hpg hrm hok hcnt h8
          obtain ⟨M, rfl⟩ : ∃ M, M = M1 := ⟨_, rfl⟩
          go_upto_region 12 with (fail)
          refine wp_region_lit ?_
          refine wpl_val ?_ rfl ?_ ?_
          rotate_left
          · (go_simp; (try with_reducible rfl))
          (try simp only [Act.put, List.getElem_toArray, List.getElem_cons_zero, List.setIfInBounds_toArray, List.set_cons_zero, List.set_cons_succ])
          refine wpl_val ?_ rfl ?_ ?_
          rotate_left
          · (go_simp; (try with_reducible rfl))
          (try simp only [Act.put, List.getElem_toArray, List.getElem_cons_zero, List.getElem_cons_succ, List.setIfInBounds_toArray, List.set_cons_zero, List.set_cons_succ])
          refine wpl_val ?_ rfl ?_ ?_
          rotate_left
          · (go_simp; (try with_reducible rfl))
          (try simp only [Act.put, List.getElem_toArray, List.getElem_cons_zero, List.getElem_cons_succ, List.setIfInBounds_toArray, List.set_cons_zero, List.set_cons_succ])
          refine wpl_call _ _ rfl (by go_simp) _ hS.last ?_
          rintro e w2 ⟨rfl, rfl⟩
          refine ⟨_, rfl, ?_⟩
          (try simp only [Act.put, List.getElem_toArray, List.getElem_cons_zero, List.getElem_cons_succ, List.setIfInBounds_toArray, List.set_cons_zero, List.set_cons_succ])
          refine wpl_call _ _ rfl (by go_simp) _ (hS.at_ q M.last) ?_
          rintro e w2 ⟨rfl, hS2, hb2⟩
          refine ⟨_, rfl, ?_⟩
          clear hS
          (try simp only [Act.put, List.getElem_toArray, List.getElem_cons_zero, List.getElem_cons_succ, List.setIfInBounds_toArray, List.set_cons_zero, List.set_cons_succ])
          refine wpl_alloc 44 (verA ⟨0, P.zb⟩) rfl rfl hz44 ?_
          (try simp only [Act.put, List.getElem_toArray, List.getElem_cons_zero, List.getElem_cons_succ, List.setIfInBounds_toArray, List.set_cons_zero, List.set_cons_succ])
          refine wpl_law rfl (wp_store_row 44 _ _ rfl w2.heap.size (verA (P.at' M q M.last)) rfl rfl 44 _ (Blk.alloc_new _ _ _) (size44 _) (by simp only [verA_size]) (verA_one _) ?_)
          (try simp only [Act.put, List.getElem_toArray, List.getElem_cons_zero, List.getElem_cons_succ, List.setIfInBounds_toArray, List.set_cons_zero, List.set_cons_succ])
          refine wpList_nil ?_
          obtain ⟨hS, hB, hb⟩ := hS2.box (verA ⟨0, P.zb⟩) (verA (P.at' M q M.last)) 44
          replace hb := hb2.trans (hb.mono hb2.size)
          have hx := hb.size
          have hx2 := hB.lt
          clear hS2 hb2
          generalize (w2.alloc (.cells (verA ⟨0, P.zb⟩) 44)).setRow w2.heap.size (verA (P.at' M q M.last)) = V at *
          have hV := hB
          replace hA := hA.below hb
          generalize w2.heap.size = xv at *
          clear hb hB
          obtain ⟨V1, rfl⟩ : ∃ V1, V1 = V := ⟨_, rfl⟩
          go_upto_region 13 with (fail)
          refine wp_region_lit ?_
          refine wpl_val ?_ rfl ?_ ?_
          rotate_left
          · (go_simp; (try with_reducible rfl))
          (try simp only [Act.put, List.getElem_toArray, List.getElem_cons_zero, List.setIfInBounds_toArray, List.set_cons_zero, List.set_cons_succ])
          refine wpl_val ?_ rfl ?_ ?_
          rotate_left
          · (go_simp; (try with_reducible rfl))
          (try simp only [Act.put, List.getElem_toArray, List.getElem_cons_zero, List.getElem_cons_succ, List.setIfInBounds_toArray, List.set_cons_zero, List.set_cons_succ])
          refine wpl_val ?_ rfl ?_ ?_
          rotate_left
          · (have c0 := (show V1.cell? ⟨xa, 1, none⟩ = some (.int .u64 n) by rw [hA.cell]; rfl); go_simp; (try with_reducible rfl))
          (try simp only [Act.put, List.getElem_toArray, List.getElem_cons_zero, List.getElem_cons_succ, List.setIfInBounds_toArray, List.set_cons_zero, List.set_cons_succ])
          refine wpl_val ?_ rfl ?_ ?_
          rotate_left
          · (go_simp; (try with_reducible rfl))
          (try simp only [Act.put, List.getElem_toArray, List.getElem_cons_zero, List.getElem_cons_succ, List.setIfInBounds_toArray, List.set_cons_zero, List.set_cons_succ])
          refine wpl_val ?_ rfl ?_ ?_
          rotate_left
          · (go_simp; (try with_reducible rfl))
          (try simp only [Act.put, List.getElem_toArray, List.getElem_cons_zero, List.getElem_cons_succ, List.setIfInBounds_toArray, List.set_cons_zero, List.set_cons_succ])
          refine wpl_val (.agg (clA ⟨2, n, q, 0, s⟩)) rfl (run_buildE rfl (by go_simp; exact b35_s 2 n q s)) ?_
          (try simp only [Act.put, List.getElem_toArray, List.getElem_cons_zero, List.getElem_cons_succ, List.setIfInBounds_toArray, List.set_cons_zero, List.set_cons_succ])
          obtain ⟨M2, hst, hW, hl2⟩ := P.wr_first (s := s) hsh1.out hpg1.out hrm1.out hg1.out (by omega)
          replace hl2 := Lib.hid hl2
          have hvw : Hid ((Lit.int .u32 ((P.at' M q M.last).ts : Int)).wf = true) := wf_u32 (by have h1 := P.at_le hS.ok q M.last; have h2 := hS.ok.lm; have h3 := hS.ok.mx; omega)
          generalize P.at' M q M.last = v at *
          refine wpl_call _ _ rfl (by go_simp) _ (hS.do_ (cl := ⟨2, n, q, 0, s⟩) (by omega) (clok (by omega) (by omega) (by omega) (by omega) hs)) ?_
          rintro e w2 ⟨rfl, hS2, hf⟩
          refine ⟨_, rfl, ?_⟩
          clear hS
          (try simp only [Act.put, List.getElem_toArray, List.getElem_cons_zero, List.getElem_cons_succ, List.setIfInBounds_toArray, List.set_cons_zero, List.set_cons_succ])
          refine wpl_alloc 40 (rpA ⟨0, 0, 0, P.zb⟩) rfl rfl hz40 ?_
          (try simp only [Act.put, List.getElem_toArray, List.getElem_cons_zero, List.getElem_cons_succ, List.setIfInBounds_toArray, List.set_cons_zero, List.set_cons_succ])
          refine wpl_law rfl (wp_store_row 40 _ _ rfl w2.heap.size (rpA (P.step M ⟨2, n, q, 0, s⟩).2) rfl rfl 40 _ (Blk.alloc_new _ _ _) (size40 _) (by simp only [rpA_size]) (rpA_one _) ?_)
          (try simp only [Act.put, List.getElem_toArray, List.getElem_cons_zero, List.getElem_cons_succ, List.setIfInBounds_toArray, List.set_cons_zero, List.set_cons_succ])
          refine wpList_nil ?_
          obtain ⟨hS, hB, hb⟩ := hS2.box (rpA ⟨0, 0, 0, P.zb⟩) (rpA (P.step M ⟨2, n, q, 0, s⟩).2) 40
          have hx := hb.size
          have hx2 := hB.lt
          clear hS2
          generalize (w2.alloc (.cells (rpA ⟨0, 0, 0, P.zb⟩) 40)).setRow w2.heap.size (rpA (P.step M ⟨2, n, q, 0, s⟩).2) = V at *
          rw [hst] at hS hB
          dsimp only at hS hB
          replace hA := (hA.fr hf (fun e => e (by simp))).below hb
          replace hV := (hV.fr hf (fun e => e (by simp))).below hb
          rw [← hl2.out] at hA
          clear hst hf hb hsh1 hpg1 hrm1 hg1
          generalize w2.heap.size = xw at *
          generalize M.last = ls at *
          clear hl2
          obtain ⟨M, rfl⟩ : ∃ M, M = M2 := ⟨_, rfl⟩
          generalize hb0 : P.cpy v.b 0 s = b at *
          have hbs : Hid (∀ j, j < s.size → b j = P.sb s j) := fun j hj => by rw [← hb0]; exact P.cpy_in hj
          clear hb0
          go_upto_region 14 with (fail)
          refine wp_region_held (S := (fun w' => SS w w' c M (j + 1 + 1) (fun b => ((False ∨ b = xa) ∨ b = xv) ∨ b = xw) ∧ Blk w' xa (rpA ⟨0, n, M.last, P.zb⟩) 40 ∧ Blk w' xv (verA v) 44)) (by kernel_rfl) ?_
          change wpAnyH _ _ _ _ _ _ _ _ (World.drew _)
          (try simp only [Act.put])
          replace hS := And.intro hS.drew (And.intro hA.drew hV.drew)
          clear hA hB hV
          refine anyH_pure 0 _ ?_ rfl (by kernel_rfl) (by kernel_rfl) (by kernel_rfl) (fun _ _ _ h => h) rfl ?_ hS ?_
          rotate_left
          · (intro w'; go_simp; (try with_reducible rfl))
          (try simp only [Act.put, List.getElem_toArray, List.getElem_cons_zero, List.setIfInBounds_toArray, List.set_cons_zero, List.set_cons_succ])
          refine anyH_if 1 _ ?_ rfl (by kernel_rfl) (by kernel_rfl) (by kernel_rfl) (fun _ _ _ h => h) rfl ?_ hS ?_
          rotate_left
          · (intro w' h; have c0 := (show w'.cell? ⟨xa, 0, none⟩ = some (.int .i64 0) by rw [h.2.1.cell]; rfl); go_simp; (try with_reducible rfl))
          (try simp only [Act.put, List.getElem_toArray, List.getElem_cons_zero, List.getElem_cons_succ, List.setIfInBounds_toArray, List.set_cons_zero, List.set_cons_succ])
          refine anyH_pure 2 _ ?_ rfl (by kernel_rfl) (by kernel_rfl) (by kernel_rfl) (fun _ _ _ h => h) rfl ?_ hS ?_
          rotate_left
          · (intro w'; go_simp; (try with_reducible rfl))
          (try simp only [Act.put, List.getElem_toArray, List.getElem_cons_zero, List.getElem_cons_succ, List.setIfInBounds_toArray, List.set_cons_zero, List.set_cons_succ])
          refine anyH_pure 3 _ ?_ rfl (by kernel_rfl) (by kernel_rfl) (by kernel_rfl) (fun _ _ _ h => h) rfl ?_ hS ?_
          rotate_left
          · (intro w'; go_simp; (try with_reducible rfl))
          (try simp only [Act.put, List.getElem_toArray, List.getElem_cons_zero, List.getElem_cons_succ, List.setIfInBounds_toArray, List.set_cons_zero, List.set_cons_succ])
          refine anyH_pure 4 _ ?_ rfl (by kernel_rfl) (by kernel_rfl) (by kernel_rfl) (fun _ _ _ h => h) rfl ?_ hS ?_
          rotate_left
          · (intro w'; go_simp; (try with_reducible rfl))
          (try simp only [Act.put, List.getElem_toArray, List.getElem_cons_zero, List.getElem_cons_succ, List.setIfInBounds_toArray, List.set_cons_zero, List.set_cons_succ])
          refine anyH_pure 5 _ ?_ rfl (by kernel_rfl) (by kernel_rfl) (by kernel_rfl) (fun _ _ _ h => h) rfl ?_ hS ?_
          rotate_left
          · (intro w'; go_simp; (try with_reducible rfl))
          (try simp only [Act.put, List.getElem_toArray, List.getElem_cons_zero, List.getElem_cons_succ, List.setIfInBounds_toArray, List.set_cons_zero, List.set_cons_succ])
          refine anyH_pure 6 _ ?_ rfl (by kernel_rfl) (by kernel_rfl) (by kernel_rfl) (fun _ _ _ h => h) rfl ?_ hS ?_
          rotate_left
          · (intro w'; go_simp; (try with_reducible rfl))
          (try simp only [Act.put, List.getElem_toArray, List.getElem_cons_zero, List.getElem_cons_succ, List.setIfInBounds_toArray, List.set_cons_zero, List.set_cons_succ])
          refine anyH_if 9 _ (.agg (verA v)) rfl (by kernel_rfl) (by kernel_rfl) (by kernel_rfl) (fun _ _ _ h => h) rfl (fun w' h => run_load_cs rfl rfl h.2.2 Try.underlying44 rfl (size44 _)) hS ?_
          (try simp only [Act.put, List.getElem_toArray, List.getElem_cons_zero, List.getElem_cons_succ, List.setIfInBounds_toArray, List.set_cons_zero, List.set_cons_succ])
          refine anyH_call 7 _ _ _ _ (by kernel_rfl) rfl rfl (by go_simp) ((hS.1.last.mono fun e w' ⟨h1, h2⟩ => ⟨h1, h2 ▸ hS⟩)) (fun w' hS => ?_)
          (try simp only [Act.put, List.getElem_toArray, List.getElem_cons_zero, List.getElem_cons_succ, List.setIfInBounds_toArray, List.set_cons_zero, List.set_cons_succ])
          refine anyH_call 8 _ _ _ _ (by kernel_rfl) rfl rfl (by go_simp) (((hS.1.at_ q M.last).mono fun e w' ⟨h1, h2, h3⟩ => ⟨h1, h2, hS.2.1.below h3, hS.2.2.below h3⟩)) (fun w' hS => ?_)
          (try simp only [Act.put, List.getElem_toArray, List.getElem_cons_zero, List.getElem_cons_succ, List.setIfInBounds_toArray, List.set_cons_zero, List.set_cons_succ])
          rw [hW.at_]
          refine anyH_pure 10 _ (.bool (!true)) rfl (by kernel_rfl) (by kernel_rfl) (by kernel_rfl) (fun _ _ _ h => h) rfl (fun w' => run_opNe 44 44 _ _ _ _ true rfl rfl rfl eqt44 (eql44_yes hvw.out hvw.out rfl w')) hS ?_
          (try simp only [Act.put, List.getElem_toArray, List.getElem_cons_zero, List.getElem_cons_succ, List.setIfInBounds_toArray, List.set_cons_zero, List.set_cons_succ])
          refine anyH_pure 11 _ ?_ rfl (by kernel_rfl) (by kernel_rfl) (by kernel_rfl) (fun _ _ _ h => h) rfl ?_ hS ?_
          rotate_left
          · (intro w'; go_simp; (try with_reducible rfl))
          (try simp only [Act.put, List.getElem_toArray, List.getElem_cons_zero, List.getElem_cons_succ, List.setIfInBounds_toArray, List.set_cons_zero, List.set_cons_succ])
          refine wpAnyH_done (by kernel_rfl) ?_ _
          obtain ⟨hS, hA, hV⟩ := hS
          obtain ⟨V2, rfl⟩ : ∃ V2, V2 = w' := ⟨_, rfl⟩
          go_upto_region 16 with (fail)
          refine wp_region_lit ?_
          refine wpl_val ?_ rfl ?_ ?_
          rotate_left
          · (go_simp; (try with_reducible rfl))
          (try simp only [Act.put, List.getElem_toArray, List.getElem_cons_zero, List.setIfInBounds_toArray, List.set_cons_zero, List.set_cons_succ])
          refine wpl_val ?_ rfl ?_ ?_
          rotate_left
          · (go_simp; (try with_reducible rfl))
          (try simp only [Act.put, List.getElem_toArray, List.getElem_cons_zero, List.getElem_cons_succ, List.setIfInBounds_toArray, List.set_cons_zero, List.set_cons_succ])
          refine wpl_val ?_ rfl ?_ ?_
          rotate_left
          · (have c0 := (show V2.cell? ⟨xa, 1, none⟩ = some (.int .u64 n) by rw [hA.cell]; rfl); go_simp; (try with_reducible rfl))
          (try simp only [Act.put, List.getElem_toArray, List.getElem_cons_zero, List.getElem_cons_succ, List.setIfInBounds_toArray, List.set_cons_zero, List.set_cons_succ])
          refine wpl_val ?_ rfl ?_ ?_
          rotate_left
          · (go_simp; (try with_reducible rfl))
          (try simp only [Act.put, List.getElem_toArray, List.getElem_cons_zero, List.getElem_cons_succ, List.setIfInBounds_toArray, List.set_cons_zero, List.set_cons_succ])
          refine wpl_val (.agg (clA ⟨1, n, q, 0, P.es⟩)) rfl (run_buildE rfl (by go_simp; exact b35_3 1 n q)) ?_
          (try simp only [Act.put, List.getElem_toArray, List.getElem_cons_zero, List.getElem_cons_succ, List.setIfInBounds_toArray, List.set_cons_zero, List.set_cons_succ])
          have hst := hW.read
          refine wpl_call _ _ rfl (by go_simp) _ (hS.do_ (cl := ⟨1, n, q, 0, P.es⟩) (by omega) (clok (by omega) (by omega) (by omega) (by omega) es_ok)) ?_
          rintro e w2 ⟨rfl, hS2, hf⟩
          refine ⟨_, rfl, ?_⟩
          clear hS
          (try simp only [Act.put, List.getElem_toArray, List.getElem_cons_zero, List.getElem_cons_succ, List.setIfInBounds_toArray, List.set_cons_zero, List.set_cons_succ])
          refine wpl_alloc 40 (rpA ⟨0, 0, 0, P.zb⟩) rfl rfl hz40 ?_
          (try simp only [Act.put, List.getElem_toArray, List.getElem_cons_zero, List.getElem_cons_succ, List.setIfInBounds_toArray, List.set_cons_zero, List.set_cons_succ])
          refine wpl_law rfl (wp_store_row 40 _ _ rfl w2.heap.size (rpA (P.step M ⟨1, n, q, 0, P.es⟩).2) rfl rfl 40 _ (Blk.alloc_new _ _ _) (size40 _) (by simp only [rpA_size]) (rpA_one _) ?_)
          (try simp only [Act.put, List.getElem_toArray, List.getElem_cons_zero, List.getElem_cons_succ, List.setIfInBounds_toArray, List.set_cons_zero, List.set_cons_succ])
          refine wpList_nil ?_
          obtain ⟨hS, hB, hb⟩ := hS2.box (rpA ⟨0, 0, 0, P.zb⟩) (rpA (P.step M ⟨1, n, q, 0, P.es⟩).2) 40
          have hx := hb.size
          have hx2 := hB.lt
          clear hS2
          generalize (w2.alloc (.cells (rpA ⟨0, 0, 0, P.zb⟩) 40)).setRow w2.heap.size (rpA (P.step M ⟨1, n, q, 0, P.es⟩).2) = V at *
          rw [hst] at hS hB
          dsimp only at hS hB
          replace hA := (hA.fr hf (fun e => e (by simp))).below hb
          replace hV := (hV.fr hf (fun e => e (by simp))).below hb
          have hO := hB
          clear hst hf hb hB
          generalize w2.heap.size = xo at *
          obtain ⟨V3, rfl⟩ : ∃ V3, V3 = V := ⟨_, rfl⟩
          cases cm with
          | false =>
            obtain ⟨M3, hst, hsh3, hg3, hat3⟩ := hW.abort hS.ok
            clear hW
            replace hsh3 := Lib.hid hsh3
            replace hg3 := Lib.hid hg3
            replace hat3 := Lib.hid hat3
            go_upto_region 20 with (fail)
            refine wp_region_lit ?_
            refine wpl_val ?_ rfl ?_ ?_
            rotate_left
            · (go_simp; (try with_reducible rfl))
            (try simp only [Act.put, List.getElem_toArray, List.getElem_cons_zero, List.setIfInBounds_toArray, List.set_cons_zero, List.set_cons_succ])
            refine wpl_val ?_ rfl ?_ ?_
            rotate_left
            · (go_simp; (try with_reducible rfl))
            (try simp only [Act.put, List.getElem_toArray, List.getElem_cons_zero, List.getElem_cons_succ, List.setIfInBounds_toArray, List.set_cons_zero, List.set_cons_succ])
            refine wpl_val ?_ rfl ?_ ?_
            rotate_left
            · (go_simp; (try with_reducible rfl))
            (try simp only [Act.put, List.getElem_toArray, List.getElem_cons_zero, List.getElem_cons_succ, List.setIfInBounds_toArray, List.set_cons_zero, List.set_cons_succ])
            refine wpl_val ?_ rfl ?_ ?_
            rotate_left
            · (have c0 := (show V3.cell? ⟨xa, 1, none⟩ = some (.int .u64 n) by rw [hA.cell]; rfl); go_simp; (try with_reducible rfl))
            (try simp only [Act.put, List.getElem_toArray, List.getElem_cons_zero, List.getElem_cons_succ, List.setIfInBounds_toArray, List.set_cons_zero, List.set_cons_succ])
            refine wpl_val (.agg (clA ⟨4, n, 0, 0, P.es⟩)) rfl (run_buildE rfl (by go_simp; exact b35_01 4 n)) ?_
            (try simp only [Act.put, List.getElem_toArray, List.getElem_cons_zero, List.getElem_cons_succ, List.setIfInBounds_toArray, List.set_cons_zero, List.set_cons_succ])
            refine wpl_call _ _ rfl (by go_simp) _ (hS.do_ (cl := ⟨4, n, 0, 0, P.es⟩) (by omega) (clok0 (by omega) (by omega))) ?_
            rintro e w2 ⟨rfl, hS2, hf⟩
            refine ⟨_, rfl, ?_⟩
            clear hS
            (try simp only [Act.put, List.getElem_toArray, List.getElem_cons_zero, List.getElem_cons_succ, List.setIfInBounds_toArray, List.set_cons_zero, List.set_cons_succ])
            refine wpl_alloc 40 (rpA ⟨0, 0, 0, P.zb⟩) rfl rfl hz40 ?_
            (try simp only [Act.put, List.getElem_toArray, List.getElem_cons_zero, List.getElem_cons_succ, List.setIfInBounds_toArray, List.set_cons_zero, List.set_cons_succ])
            refine wpl_law rfl (wp_store_row 40 _ _ rfl w2.heap.size (rpA (P.step M ⟨4, n, 0, 0, P.es⟩).2) rfl rfl 40 _ (Blk.alloc_new _ _ _) (size40 _) (by simp only [rpA_size]) (rpA_one _) ?_)
            (try simp only [Act.put, List.getElem_toArray, List.getElem_cons_zero, List.getElem_cons_succ, List.setIfInBounds_toArray, List.set_cons_zero, List.set_cons_succ])
            refine wpList_nil ?_
            obtain ⟨hS, hB, hb⟩ := hS2.box (rpA ⟨0, 0, 0, P.zb⟩) (rpA (P.step M ⟨4, n, 0, 0, P.es⟩).2) 40
            have hx := hb.size
            have hx2 := hB.lt
            clear hS2
            generalize (w2.alloc (.cells (rpA ⟨0, 0, 0, P.zb⟩) 40)).setRow w2.heap.size (rpA (P.step M ⟨4, n, 0, 0, P.es⟩).2) = V at *
            rw [hst] at hS hB
            dsimp only at hS hB
            replace hA := (hA.fr hf (fun e => e (by simp))).below hb
            replace hV := (hV.fr hf (fun e => e (by simp))).below hb
            have hE := hB
            clear hst hf hb hB hO
            generalize w2.heap.size = xe at *
            obtain ⟨V4, rfl⟩ : ∃ V4, V4 = V := ⟨_, rfl⟩
            generalize M.last = ls at *
            obtain ⟨M, rfl⟩ : ∃ M, M = M3 := ⟨_, rfl⟩
            go_upto_region 21 with (fail)
            refine wp_region_lit ?_
            refine wpl_val ?_ rfl ?_ ?_
            rotate_left
            · (go_simp; (try with_reducible rfl))
            (try simp only [Act.put, List.getElem_toArray, List.getElem_cons_zero, List.setIfInBounds_toArray, List.set_cons_zero, List.set_cons_succ])
            refine wpl_val ?_ rfl ?_ ?_
            rotate_left
            · (go_simp; (try with_reducible rfl))
            (try simp only [Act.put, List.getElem_toArray, List.getElem_cons_zero, List.getElem_cons_succ, List.setIfInBounds_toArray, List.set_cons_zero, List.set_cons_succ])
            refine wpl_val ?_ rfl ?_ ?_
            rotate_left
            · (go_simp; (try with_reducible rfl))
            (try simp only [Act.put, List.getElem_toArray, List.getElem_cons_zero, List.getElem_cons_succ, List.setIfInBounds_toArray, List.set_cons_zero, List.set_cons_succ])
            refine wpl_call _ _ rfl (by go_simp) _ hS.last ?_
            rintro e w2 ⟨rfl, rfl⟩
            refine ⟨_, rfl, ?_⟩
            (try simp only [Act.put, List.getElem_toArray, List.getElem_cons_zero, List.getElem_cons_succ, List.setIfInBounds_toArray, List.set_cons_zero, List.set_cons_succ])
            refine wpl_call _ _ rfl (by go_simp) _ (hS.at_ q M.last) ?_
            rintro e w2 ⟨rfl, hS2, hb2⟩
            refine ⟨_, rfl, ?_⟩
            clear hS
            (try simp only [Act.put, List.getElem_toArray, List.getElem_cons_zero, List.getElem_cons_succ, List.setIfInBounds_toArray, List.set_cons_zero, List.set_cons_succ])
            refine wpl_alloc 44 (verA ⟨0, P.zb⟩) rfl rfl hz44 ?_
            (try simp only [Act.put, List.getElem_toArray, List.getElem_cons_zero, List.getElem_cons_succ, List.setIfInBounds_toArray, List.set_cons_zero, List.set_cons_succ])
            refine wpl_law rfl (wp_store_row 44 _ _ rfl w2.heap.size (verA (P.at' M q M.last)) rfl rfl 44 _ (Blk.alloc_new _ _ _) (size44 _) (by simp only [verA_size]) (verA_one _) ?_)
            (try simp only [Act.put, List.getElem_toArray, List.getElem_cons_zero, List.getElem_cons_succ, List.setIfInBounds_toArray, List.set_cons_zero, List.set_cons_succ])
            refine wpList_nil ?_
            obtain ⟨hS, hB, hb⟩ := hS2.box (verA ⟨0, P.zb⟩) (verA (P.at' M q M.last)) 44
            replace hb := hb2.trans (hb.mono hb2.size)
            have hx := hb.size
            have hx2 := hB.lt
            clear hS2 hb2
            generalize (w2.alloc (.cells (verA ⟨0, P.zb⟩) 44)).setRow w2.heap.size (verA (P.at' M q M.last)) = V at *
            rw [hat3.out] at hB
            have hN := hB
            replace hA := hA.below hb
            replace hV := hV.below hb
            replace hE := hE.below hb
            generalize w2.heap.size = xn at *
            clear hb hB
            obtain ⟨V5, rfl⟩ : ∃ V5, V5 = V := ⟨_, rfl⟩
            go_upto_region 22 with (fail)
            refine wp_region_lit ?_
            refine wpl_val ?_ rfl ?_ ?_
            rotate_left
            · (go_simp; (try with_reducible rfl))
            (try simp only [Act.put, List.getElem_toArray, List.getElem_cons_zero, List.setIfInBounds_toArray, List.set_cons_zero, List.set_cons_succ])
            refine wpl_val ?_ rfl ?_ ?_
            rotate_left
            · (go_simp; (try with_reducible rfl))
            (try simp only [Act.put, List.getElem_toArray, List.getElem_cons_zero, List.getElem_cons_succ, List.setIfInBounds_toArray, List.set_cons_zero, List.set_cons_succ])
            refine wpl_val ?_ rfl ?_ ?_
            rotate_left
            · (go_simp; (try with_reducible rfl))
            (try simp only [Act.put, List.getElem_toArray, List.getElem_cons_zero, List.getElem_cons_succ, List.setIfInBounds_toArray, List.set_cons_zero, List.set_cons_succ])
            refine wpl_val ?_ rfl ?_ ?_
            rotate_left
            · (have c0 := (show V5.cell? ⟨xa, 1, none⟩ = some (.int .u64 n) by rw [hA.cell]; rfl); go_simp; (try with_reducible rfl))
            (try simp only [Act.put, List.getElem_toArray, List.getElem_cons_zero, List.getElem_cons_succ, List.setIfInBounds_toArray, List.set_cons_zero, List.set_cons_succ])
            refine wpl_val (.agg (clA ⟨4, n, 0, 0, P.es⟩)) rfl (run_buildE rfl (by go_simp; exact b35_01 4 n)) ?_
            (try simp only [Act.put, List.getElem_toArray, List.getElem_cons_zero, List.getElem_cons_succ, List.setIfInBounds_toArray, List.set_cons_zero, List.set_cons_succ])
            have hst := P.end_none (s := P.es) hsh3.out hg3.out 4 0 0 (.inr rfl)
            refine wpl_call _ _ rfl (by go_simp) _ (hS.do_ (cl := ⟨4, n, 0, 0, P.es⟩) (by omega) (clok0 (by omega) (by omega))) ?_
            rintro e w2 ⟨rfl, hS2, hf⟩
            refine ⟨_, rfl, ?_⟩
            clear hS
            (try simp only [Act.put, List.getElem_toArray, List.getElem_cons_zero, List.getElem_cons_succ, List.setIfInBounds_toArray, List.set_cons_zero, List.set_cons_succ])
            refine wpl_alloc 40 (rpA ⟨0, 0, 0, P.zb⟩) rfl rfl hz40 ?_
            (try simp only [Act.put, List.getElem_toArray, List.getElem_cons_zero, List.getElem_cons_succ, List.setIfInBounds_toArray, List.set_cons_zero, List.set_cons_succ])
            refine wpl_law rfl (wp_store_row 40 _ _ rfl w2.heap.size (rpA (P.step M ⟨4, n, 0, 0, P.es⟩).2) rfl rfl 40 _ (Blk.alloc_new _ _ _) (size40 _) (by simp only [rpA_size]) (rpA_one _) ?_)
            (try simp only [Act.put, List.getElem_toArray, List.getElem_cons_zero, List.getElem_cons_succ, List.setIfInBounds_toArray, List.set_cons_zero, List.set_cons_succ])
            refine wpList_nil ?_
            obtain ⟨hS, hB, hb⟩ := hS2.box (rpA ⟨0, 0, 0, P.zb⟩) (rpA (P.step M ⟨4, n, 0, 0, P.es⟩).2) 40
            have hx := hb.size
            have hx2 := hB.lt
            clear hS2
            generalize (w2.alloc (.cells (rpA ⟨0, 0, 0, P.zb⟩) 40)).setRow w2.heap.size (rpA (P.step M ⟨4, n, 0, 0, P.es⟩).2) = V at *
            rw [hst] at hS hB
            dsimp only at hS hB
            replace hV := (hV.fr hf (fun e => e (by simp))).below hb
            replace hE := (hE.fr hf (fun e => e (by simp))).below hb
            replace hN := (hN.fr hf (fun e => e (by simp))).below hb
            clear hst hf hb hA
            generalize w2.heap.size = xg at *
            go_upto_region 24 with (fail)
            refine wp_region_lit ?_
            refine wpl_val (.agg (rpA (P.ok 0 P.zb))) rfl (run_load_cs rfl rfl hE Try.underlying40 rfl (size40 _)) ?_
            (try simp only [Act.put, List.getElem_toArray, List.getElem_cons_zero, List.getElem_cons_succ, List.setIfInBounds_toArray, List.set_cons_zero, List.set_cons_succ])
            refine wpl_val (.agg (rpA ⟨0, 0, 0, P.zb⟩)) rfl (run_buildE rfl (by go_simp; exact b40)) ?_
            (try simp only [Act.put, List.getElem_toArray, List.getElem_cons_zero, List.getElem_cons_succ, List.setIfInBounds_toArray, List.set_cons_zero, List.set_cons_succ])
            refine wpl_val (.bool true) rfl (run_opEq 40 40 _ _ _ _ true rfl rfl rfl eqt40 (eql40_yes rpok0 rpok0 rfl _)) ?_
            (try simp only [Act.put, List.getElem_toArray, List.getElem_cons_zero, List.getElem_cons_succ, List.setIfInBounds_toArray, List.set_cons_zero, List.set_cons_succ])
            refine wpl_val ?_ rfl ?_ ?_
            rotate_left
            · (go_simp; (try with_reducible rfl))
            (try simp only [Act.put, List.getElem_toArray, List.getElem_cons_zero, List.getElem_cons_succ, List.setIfInBounds_toArray, List.set_cons_zero, List.set_cons_succ])
            refine wpl_val (.agg (verA v)) rfl (run_load_cs rfl rfl hN Try.underlying44 rfl (size44 _)) ?_
            (try simp only [Act.put, List.getElem_toArray, List.getElem_cons_zero, List.getElem_cons_succ, List.setIfInBounds_toArray, List.set_cons_zero, List.set_cons_succ])
            refine wpl_val (.agg (verA v)) rfl (run_load_cs rfl rfl hV Try.underlying44 rfl (size44 _)) ?_
            (try simp only [Act.put, List.getElem_toArray, List.getElem_cons_zero, List.getElem_cons_succ, List.setIfInBounds_toArray, List.set_cons_zero, List.set_cons_succ])
            refine wpl_val (.bool true) rfl (run_opEq 44 44 _ _ _ _ true rfl rfl rfl eqt44 (eql44_yes hvw.out hvw.out rfl _)) ?_
            (try simp only [Act.put, List.getElem_toArray, List.getElem_cons_zero, List.getElem_cons_succ, List.setIfInBounds_toArray, List.set_cons_zero, List.set_cons_succ])
            refine wpl_val ?_ rfl ?_ ?_
            rotate_left
            · (go_simp; (try with_reducible rfl))
            (try simp only [Act.put, List.getElem_toArray, List.getElem_cons_zero, List.getElem_cons_succ, List.setIfInBounds_toArray, List.set_cons_zero, List.set_cons_succ])
            refine wpl_val ?_ rfl ?_ ?_
            rotate_left
            · (go_simp; (try with_reducible rfl))
            (try simp only [Act.put, List.getElem_toArray, List.getElem_cons_zero, List.getElem_cons_succ, List.setIfInBounds_toArray, List.set_cons_zero, List.set_cons_succ])
            refine wpl_val ?_ rfl ?_ ?_
            rotate_left
            · (go_simp; (try with_reducible rfl))
            (try simp only [Act.put, List.getElem_toArray, List.getElem_cons_zero, List.getElem_cons_succ, List.setIfInBounds_toArray, List.set_cons_zero, List.set_cons_succ])
            refine wpl_val ?_ rfl ?_ ?_
            rotate_left
            · (have c0 := (show V.cell? ⟨xg, 0, none⟩ = some (.int .i64 9) by rw [hB.cell]; rfl); go_simp; (try with_reducible rfl))
            (try simp only [Act.put, List.getElem_toArray, List.getElem_cons_zero, List.getElem_cons_succ, List.setIfInBounds_toArray, List.set_cons_zero, List.set_cons_succ])
            refine wpl_val ?_ rfl ?_ ?_
            rotate_left
            · (go_simp; (try with_reducible rfl))
            (try simp only [Act.put, List.getElem_toArray, List.getElem_cons_zero, List.getElem_cons_succ, List.setIfInBounds_toArray, List.set_cons_zero, List.set_cons_succ])
            refine wpl_val ?_ rfl ?_ ?_
            rotate_left
            · (go_simp; (try with_reducible rfl))
            (try simp only [Act.put, List.getElem_toArray, List.getElem_cons_zero, List.getElem_cons_succ, List.setIfInBounds_toArray, List.set_cons_zero, List.set_cons_succ])
            refine wpl_val ?_ rfl ?_ ?_
            rotate_left
            · (go_simp; (try with_reducible rfl))
            (try simp only [Act.put, List.getElem_toArray, List.getElem_cons_zero, List.getElem_cons_succ, List.setIfInBounds_toArray, List.set_cons_zero, List.set_cons_succ])
            refine wpl_call _ _ rfl (by go_simp) _ (awake_any _) ?_
            rintro e w9 ⟨rfl, hb9⟩
            refine ⟨_, rfl, ?_⟩
            (try simp only [Act.put, List.getElem_toArray, List.getElem_cons_zero, List.getElem_cons_succ, List.setIfInBounds_toArray, List.set_cons_zero, List.set_cons_succ])
            refine wpl_val ?_ rfl ?_ ?_
            rotate_left
            · (go_simp; (try with_reducible rfl))
            (try simp only [Act.put, List.getElem_toArray, List.getElem_cons_zero, List.getElem_cons_succ, List.setIfInBounds_toArray, List.set_cons_zero, List.set_cons_succ])
            refine wpl_val ?_ rfl ?_ ?_
            rotate_left
            · (go_simp; (try with_reducible rfl))
            (try simp only [Act.put, List.getElem_toArray, List.getElem_cons_zero, List.getElem_cons_succ, List.setIfInBounds_toArray, List.set_cons_zero, List.set_cons_succ])
            refine wpList_nil ?_
            go_wp2_with fail
            go_ret
            exact ⟨rfl, (hS.go hb9).below⟩
          | true =>
            obtain ⟨M3, hst, hsh3, hg3, hl3, hat3⟩ := hW.commit hS.ok
            have hroom := hW.room
            clear hW
            replace hsh3 := Lib.hid hsh3
            replace hg3 := Lib.hid hg3
            replace hat3 := Lib.hid hat3
            replace hl3 := Lib.hid hl3
            have hlw : Hid ((Lit.int .u32 ((M.last + 1 : Nat) : Int)).wf = true) := wf_u32 (by have h2 := hS.ok.lm; have h3 := hS.ok.mx; omega)
            clear hroom
            go_upto_region 20 with (fail)
            refine wp_region_lit ?_
            refine wpl_val ?_ rfl ?_ ?_
            rotate_left
            · (go_simp; (try with_reducible rfl))
            (try simp only [Act.put, List.getElem_toArray, List.getElem_cons_zero, List.setIfInBounds_toArray, List.set_cons_zero, List.set_cons_succ])
            refine wpl_val ?_ rfl ?_ ?_
            rotate_left
            · (go_simp; (try with_reducible rfl))
            (try simp only [Act.put, List.getElem_toArray, List.getElem_cons_zero, List.getElem_cons_succ, List.setIfInBounds_toArray, List.set_cons_zero, List.set_cons_succ])
            refine wpl_val ?_ rfl ?_ ?_
            rotate_left
            · (go_simp; (try with_reducible rfl))
            (try simp only [Act.put, List.getElem_toArray, List.getElem_cons_zero, List.getElem_cons_succ, List.setIfInBounds_toArray, List.set_cons_zero, List.set_cons_succ])
            refine wpl_val ?_ rfl ?_ ?_
            rotate_left
            · (have c0 := (show V3.cell? ⟨xa, 1, none⟩ = some (.int .u64 n) by rw [hA.cell]; rfl); go_simp; (try with_reducible rfl))
            (try simp only [Act.put, List.getElem_toArray, List.getElem_cons_zero, List.getElem_cons_succ, List.setIfInBounds_toArray, List.set_cons_zero, List.set_cons_succ])
            refine wpl_val (.agg (clA ⟨3, n, 0, 0, P.es⟩)) rfl (run_buildE rfl (by go_simp; exact b35_01 3 n)) ?_
            (try simp only [Act.put, List.getElem_toArray, List.getElem_cons_zero, List.getElem_cons_succ, List.setIfInBounds_toArray, List.set_cons_zero, List.set_cons_succ])
            refine wpl_call _ _ rfl (by go_simp) _ (hS.do_ (cl := ⟨3, n, 0, 0, P.es⟩) (by omega) (clok0 (by omega) (by omega))) ?_
            rintro e w2 ⟨rfl, hS2, hf⟩
            refine ⟨_, rfl, ?_⟩
            clear hS
            (try simp only [Act.put, List.getElem_toArray, List.getElem_cons_zero, List.getElem_cons_succ, List.setIfInBounds_toArray, List.set_cons_zero, List.set_cons_succ])
            refine wpl_alloc 40 (rpA ⟨0, 0, 0, P.zb⟩) rfl rfl hz40 ?_
            (try simp only [Act.put, List.getElem_toArray, List.getElem_cons_zero, List.getElem_cons_succ, List.setIfInBounds_toArray, List.set_cons_zero, List.set_cons_succ])
            refine wpl_law rfl (wp_store_row 40 _ _ rfl w2.heap.size (rpA (P.step M ⟨3, n, 0, 0, P.es⟩).2) rfl rfl 40 _ (Blk.alloc_new _ _ _) (size40 _) (by simp only [rpA_size]) (rpA_one _) ?_)
            (try simp only [Act.put, List.getElem_toArray, List.getElem_cons_zero, List.getElem_cons_succ, List.setIfInBounds_toArray, List.set_cons_zero, List.set_cons_succ])
            refine wpList_nil ?_
            obtain ⟨hS, hB, hb⟩ := hS2.box (rpA ⟨0, 0, 0, P.zb⟩) (rpA (P.step M ⟨3, n, 0, 0, P.es⟩).2) 40
            have hx := hb.size
            have hx2 := hB.lt
            clear hS2
            generalize (w2.alloc (.cells (rpA ⟨0, 0, 0, P.zb⟩) 40)).setRow w2.heap.size (rpA (P.step M ⟨3, n, 0, 0, P.es⟩).2) = V at *
            rw [hst] at hS hB
            dsimp only at hS hB
            replace hA := (hA.fr hf (fun e => e (by simp))).below hb
            replace hO := (hO.fr hf (fun e => e (by simp))).below hb
            have hE := hB
            clear hst hf hb hB hV
            generalize w2.heap.size = xe at *
            obtain ⟨V4, rfl⟩ : ∃ V4, V4 = V := ⟨_, rfl⟩
            generalize M.last = ls at *
            obtain ⟨M, rfl⟩ : ∃ M, M = M3 := ⟨_, rfl⟩
            go_upto_region 21 with (fail)
            refine wp_region_lit ?_
            refine wpl_val ?_ rfl ?_ ?_
            rotate_left
            · (go_simp; (try with_reducible rfl))
            (try simp only [Act.put, List.getElem_toArray, List.getElem_cons_zero, List.setIfInBounds_toArray, List.set_cons_zero, List.set_cons_succ])
            refine wpl_val ?_ rfl ?_ ?_
            rotate_left
            · (go_simp; (try with_reducible rfl))
            (try simp only [Act.put, List.getElem_toArray, List.getElem_cons_zero, List.getElem_cons_succ, List.setIfInBounds_toArray, List.set_cons_zero, List.set_cons_succ])
            refine wpl_val ?_ rfl ?_ ?_
            rotate_left
            · (go_simp; (try with_reducible rfl))
            (try simp only [Act.put, List.getElem_toArray, List.getElem_cons_zero, List.getElem_cons_succ, List.setIfInBounds_toArray, List.set_cons_zero, List.set_cons_succ])
            refine wpl_call _ _ rfl (by go_simp) _ hS.last ?_
            rintro e w2 ⟨rfl, rfl⟩
            refine ⟨_, rfl, ?_⟩
            (try simp only [Act.put, List.getElem_toArray, List.getElem_cons_zero, List.getElem_cons_succ, List.setIfInBounds_toArray, List.set_cons_zero, List.set_cons_succ])
            refine wpl_call _ _ rfl (by go_simp) _ (hS.at_ q M.last) ?_
            rintro e w2 ⟨rfl, hS2, hb2⟩
            refine ⟨_, rfl, ?_⟩
            clear hS
            (try simp only [Act.put, List.getElem_toArray, List.getElem_cons_zero, List.getElem_cons_succ, List.setIfInBounds_toArray, List.set_cons_zero, List.set_cons_succ])
            refine wpl_alloc 44 (verA ⟨0, P.zb⟩) rfl rfl hz44 ?_
            (try simp only [Act.put, List.getElem_toArray, List.getElem_cons_zero, List.getElem_cons_succ, List.setIfInBounds_toArray, List.set_cons_zero, List.set_cons_succ])
            refine wpl_law rfl (wp_store_row 44 _ _ rfl w2.heap.size (verA (P.at' M q M.last)) rfl rfl 44 _ (Blk.alloc_new _ _ _) (size44 _) (by simp only [verA_size]) (verA_one _) ?_)
            (try simp only [Act.put, List.getElem_toArray, List.getElem_cons_zero, List.getElem_cons_succ, List.setIfInBounds_toArray, List.set_cons_zero, List.set_cons_succ])
            refine wpList_nil ?_
            obtain ⟨hS, hB, hb⟩ := hS2.box (verA ⟨0, P.zb⟩) (verA (P.at' M q M.last)) 44
            replace hb := hb2.trans (hb.mono hb2.size)
            have hx := hb.size
            have hx2 := hB.lt
            clear hS2 hb2
            generalize (w2.alloc (.cells (verA ⟨0, P.zb⟩) 44)).setRow w2.heap.size (verA (P.at' M q M.last)) = V at *
            rw [hat3.out] at hB
            have hN := hB
            replace hA := hA.below hb
            replace hO := hO.below hb
            replace hE := hE.below hb
            generalize w2.heap.size = xn at *
            clear hb hB
            obtain ⟨V5, rfl⟩ : ∃ V5, V5 = V := ⟨_, rfl⟩
            go_upto_region 22 with (fail)
            refine wp_region_lit ?_
            refine wpl_val ?_ rfl ?_ ?_
            rotate_left
            · (go_simp; (try with_reducible rfl))
            (try simp only [Act.put, List.getElem_toArray, List.getElem_cons_zero, List.setIfInBounds_toArray, List.set_cons_zero, List.set_cons_succ])
            refine wpl_val ?_ rfl ?_ ?_
            rotate_left
            · (go_simp; (try with_reducible rfl))
            (try simp only [Act.put, List.getElem_toArray, List.getElem_cons_zero, List.getElem_cons_succ, List.setIfInBounds_toArray, List.set_cons_zero, List.set_cons_succ])
            refine wpl_val ?_ rfl ?_ ?_
            rotate_left
            · (go_simp; (try with_reducible rfl))
            (try simp only [Act.put, List.getElem_toArray, List.getElem_cons_zero, List.getElem_cons_succ, List.setIfInBounds_toArray, List.set_cons_zero, List.set_cons_succ])
            refine wpl_val ?_ rfl ?_ ?_
            rotate_left
            · (have c0 := (show V5.cell? ⟨xa, 1, none⟩ = some (.int .u64 n) by rw [hA.cell]; rfl); go_simp; (try with_reducible rfl))
            (try simp only [Act.put, List.getElem_toArray, List.getElem_cons_zero, List.getElem_cons_succ, List.setIfInBounds_toArray, List.set_cons_zero, List.set_cons_succ])
            refine wpl_val (.agg (clA ⟨3, n, 0, 0, P.es⟩)) rfl (run_buildE rfl (by go_simp; exact b35_01 3 n)) ?_
            (try simp only [Act.put, List.getElem_toArray, List.getElem_cons_zero, List.getElem_cons_succ, List.setIfInBounds_toArray, List.set_cons_zero, List.set_cons_succ])
            have hst := P.end_none (s := P.es) hsh3.out hg3.out 3 0 0 (.inl rfl)
            refine wpl_call _ _ rfl (by go_simp) _ (hS.do_ (cl := ⟨3, n, 0, 0, P.es⟩) (by omega) (clok0 (by omega) (by omega))) ?_
            rintro e w2 ⟨rfl, hS2, hf⟩
            refine ⟨_, rfl, ?_⟩
            clear hS
            (try simp only [Act.put, List.getElem_toArray, List.getElem_cons_zero, List.getElem_cons_succ, List.setIfInBounds_toArray, List.set_cons_zero, List.set_cons_succ])
            refine wpl_alloc 40 (rpA ⟨0, 0, 0, P.zb⟩) rfl rfl hz40 ?_
            (try simp only [Act.put, List.getElem_toArray, List.getElem_cons_zero, List.getElem_cons_succ, List.setIfInBounds_toArray, List.set_cons_zero, List.set_cons_succ])
            refine wpl_law rfl (wp_store_row 40 _ _ rfl w2.heap.size (rpA (P.step M ⟨3, n, 0, 0, P.es⟩).2) rfl rfl 40 _ (Blk.alloc_new _ _ _) (size40 _) (by simp only [rpA_size]) (rpA_one _) ?_)
            (try simp only [Act.put, List.getElem_toArray, List.getElem_cons_zero, List.getElem_cons_succ, List.setIfInBounds_toArray, List.set_cons_zero, List.set_cons_succ])
            refine wpList_nil ?_
            obtain ⟨hS, hB, hb⟩ := hS2.box (rpA ⟨0, 0, 0, P.zb⟩) (rpA (P.step M ⟨3, n, 0, 0, P.es⟩).2) 40
            have hx := hb.size
            have hx2 := hB.lt
            clear hS2
            generalize (w2.alloc (.cells (rpA ⟨0, 0, 0, P.zb⟩) 40)).setRow w2.heap.size (rpA (P.step M ⟨3, n, 0, 0, P.es⟩).2) = V at *
            rw [hst] at hS hB
            dsimp only at hS hB
            replace hO := (hO.fr hf (fun e => e (by simp))).below hb
            replace hE := (hE.fr hf (fun e => e (by simp))).below hb
            replace hN := (hN.fr hf (fun e => e (by simp))).below hb
            clear hst hf hb hA
            generalize w2.heap.size = xg at *
            go_upto_region 25 with (fail)
            refine wp_region_lit ?_
            refine wpl_val ?_ rfl ?_ ?_
            rotate_left
            · (go_simp; (try with_reducible rfl))
            (try simp only [Act.put, List.getElem_toArray, List.getElem_cons_zero, List.setIfInBounds_toArray, List.set_cons_zero, List.set_cons_succ])
            refine wpl_val ?_ rfl ?_ ?_
            rotate_left
            · (have c0 := (show V.cell? ⟨xe, 0, none⟩ = some (.int .i64 0) by rw [hE.cell]; rfl); go_simp; (try with_reducible rfl))
            (try simp only [Act.put, List.getElem_toArray, List.getElem_cons_zero, List.getElem_cons_succ, List.setIfInBounds_toArray, List.set_cons_zero, List.set_cons_succ])
            refine wpl_val ?_ rfl ?_ ?_
            rotate_left
            · (go_simp; (try with_reducible rfl))
            (try simp only [Act.put, List.getElem_toArray, List.getElem_cons_zero, List.getElem_cons_succ, List.setIfInBounds_toArray, List.set_cons_zero, List.set_cons_succ])
            refine wpl_val ?_ rfl ?_ ?_
            rotate_left
            · (go_simp; (try with_reducible rfl))
            (try simp only [Act.put, List.getElem_toArray, List.getElem_cons_zero, List.getElem_cons_succ, List.setIfInBounds_toArray, List.set_cons_zero, List.set_cons_succ])
            refine wpl_val (.agg (verA ⟨ls + 1, b⟩)) rfl (run_load_cs rfl rfl hN Try.underlying44 rfl (size44 _)) ?_
            (try simp only [Act.put, List.getElem_toArray, List.getElem_cons_zero, List.getElem_cons_succ, List.setIfInBounds_toArray, List.set_cons_zero, List.set_cons_succ])
            refine wpl_val ?_ rfl ?_ ?_
            rotate_left
            · (go_simp; (try with_reducible rfl))
            (try simp only [Act.put, List.getElem_toArray, List.getElem_cons_zero, List.getElem_cons_succ, List.setIfInBounds_toArray, List.set_cons_zero, List.set_cons_succ])
            refine wpl_val ?_ rfl ?_ ?_
            rotate_left
            · (have c0 := (show V.cell? ⟨xe, 2, none⟩ = some (.int .u32 ((ls + 1 : Nat) : Int)) by rw [hE.cell]; rfl); go_simp; (try with_reducible rfl))
            (try simp only [Act.put, List.getElem_toArray, List.getElem_cons_zero, List.getElem_cons_succ, List.setIfInBounds_toArray, List.set_cons_zero, List.set_cons_succ])
            refine wpl_val ?_ rfl ?_ ?_
            rotate_left
            · (go_simp; (try with_reducible rfl))
            (try simp only [Act.put, List.getElem_toArray, List.getElem_cons_zero, List.getElem_cons_succ, List.setIfInBounds_toArray, List.set_cons_zero, List.set_cons_succ])
            refine wpl_val (.agg (row 64 b)) rfl (run_load_midv rfl rfl (rp_body _ _ _ hO) Try.underlying38 rfl (by rw [rowL_length]; exact zero38.2)) ?_
            (try simp only [Act.put, List.getElem_toArray, List.getElem_cons_zero, List.getElem_cons_succ, List.setIfInBounds_toArray, List.set_cons_zero, List.set_cons_succ])
            refine wpl_val (.agg (verA ⟨ls + 1, b⟩)) rfl (run_buildE rfl (by go_simp; exact b44_01 (ls + 1) b)) ?_
            (try simp only [Act.put, List.getElem_toArray, List.getElem_cons_zero, List.getElem_cons_succ, List.setIfInBounds_toArray, List.set_cons_zero, List.set_cons_succ])
            refine wpl_val (.bool true) rfl (run_opEq 44 44 _ _ _ _ true rfl rfl rfl eqt44 (eql44_yes (v := ⟨ls + 1, b⟩) (u := ⟨ls + 1, b⟩) hlw.out hlw.out rfl _)) ?_
            (try simp only [Act.put, List.getElem_toArray, List.getElem_cons_zero, List.getElem_cons_succ, List.setIfInBounds_toArray, List.set_cons_zero, List.set_cons_succ])
            refine wpl_val ?_ rfl ?_ ?_
            rotate_left
            · (go_simp; (try with_reducible rfl))
            (try simp only [Act.put, List.getElem_toArray, List.getElem_cons_zero, List.getElem_cons_succ, List.setIfInBounds_toArray, List.set_cons_zero, List.set_cons_succ])
            refine wpl_val ?_ rfl ?_ ?_
            rotate_left
            · (go_simp; (try with_reducible rfl))
            (try simp only [Act.put, List.getElem_toArray, List.getElem_cons_zero, List.getElem_cons_succ, List.setIfInBounds_toArray, List.set_cons_zero, List.set_cons_succ])
            refine wpl_val ?_ rfl ?_ ?_
            rotate_left
            · (go_simp; (try with_reducible rfl))
            (try simp only [Act.put, List.getElem_toArray, List.getElem_cons_zero, List.getElem_cons_succ, List.setIfInBounds_toArray, List.set_cons_zero, List.set_cons_succ])
            refine wpl_val ?_ rfl ?_ ?_
            rotate_left
            · (have c0 := (show V.cell? ⟨xg, 0, none⟩ = some (.int .i64 9) by rw [hB.cell]; rfl); go_simp; (try with_reducible rfl))
            (try simp only [Act.put, List.getElem_toArray, List.getElem_cons_zero, List.getElem_cons_succ, List.setIfInBounds_toArray, List.set_cons_zero, List.set_cons_succ])
            refine wpl_val ?_ rfl ?_ ?_
            rotate_left
            · (go_simp; (try with_reducible rfl))
            (try simp only [Act.put, List.getElem_toArray, List.getElem_cons_zero, List.getElem_cons_succ, List.setIfInBounds_toArray, List.set_cons_zero, List.set_cons_succ])
            refine wpl_val ?_ rfl ?_ ?_
            rotate_left
            · (go_simp; (try with_reducible rfl))
            (try simp only [Act.put, List.getElem_toArray, List.getElem_cons_zero, List.getElem_cons_succ, List.setIfInBounds_toArray, List.set_cons_zero, List.set_cons_succ])
            refine wpl_val ?_ rfl ?_ ?_
            rotate_left
            · (go_simp; (try with_reducible rfl))
            (try simp only [Act.put, List.getElem_toArray, List.getElem_cons_zero, List.getElem_cons_succ, List.setIfInBounds_toArray, List.set_cons_zero, List.set_cons_succ])
            refine wpl_val ?_ rfl ?_ ?_
            rotate_left
            · (go_simp; (try with_reducible rfl))
            (try simp only [Act.put, List.getElem_toArray, List.getElem_cons_zero, List.getElem_cons_succ, List.setIfInBounds_toArray, List.set_cons_zero, List.set_cons_succ])
            refine wpl_val ?_ rfl ?_ ?_
            rotate_left
            · (go_simp; (try with_reducible rfl))
            (try simp only [Act.put, List.getElem_toArray, List.getElem_cons_zero, List.getElem_cons_succ, List.setIfInBounds_toArray, List.set_cons_zero, List.set_cons_succ])
            refine wpl_val ?_ rfl ?_ ?_
            rotate_left
            · (go_simp; (try with_reducible rfl))
            (try simp only [Act.put, List.getElem_toArray, List.getElem_cons_zero, List.getElem_cons_succ, List.setIfInBounds_toArray, List.set_cons_zero, List.set_cons_succ])
            refine wpl_val (.slice (some ⟨xo, 3, none⟩) s.size 64) rfl (by (have c0 := run_slice_hi (b := xo) (k := 3) (hi := s.size) (by omega) V; go_simp)) ?_
            (try simp only [Act.put, List.getElem_toArray, List.getElem_cons_zero, List.getElem_cons_succ, List.setIfInBounds_toArray, List.set_cons_zero, List.set_cons_succ])
            refine wpl_val (.string s) rfl (by (have c0 := run_back hO hbs.out (by omega); go_simp)) ?_
            (try simp only [Act.put, List.getElem_toArray, List.getElem_cons_zero, List.getElem_cons_succ, List.setIfInBounds_toArray, List.set_cons_zero, List.set_cons_succ])
            refine wpl_val ?_ rfl ?_ ?_
            rotate_left
            · (go_simp; (try with_reducible rfl))
            (try simp only [Act.put, List.getElem_toArray, List.getElem_cons_zero, List.getElem_cons_succ, List.setIfInBounds_toArray, List.set_cons_zero, List.set_cons_succ])
            refine wpl_val ?_ rfl ?_ ?_
            rotate_left
            · (go_simp; (try with_reducible rfl))
            (try simp only [Act.put, List.getElem_toArray, List.getElem_cons_zero, List.getElem_cons_succ, List.setIfInBounds_toArray, List.set_cons_zero, List.set_cons_succ])
            refine wpl_val ?_ rfl ?_ ?_
            rotate_left
            · (go_simp; (try with_reducible rfl))
            (try simp only [Act.put, List.getElem_toArray, List.getElem_cons_zero, List.getElem_cons_succ, List.setIfInBounds_toArray, List.set_cons_zero, List.set_cons_succ])
            refine wpl_val ?_ rfl ?_ ?_
            rotate_left
            · (go_simp; (try with_reducible rfl))
            (try simp only [Act.put, List.getElem_toArray, List.getElem_cons_zero, List.getElem_cons_succ, List.setIfInBounds_toArray, List.set_cons_zero, List.set_cons_succ])
            refine wpl_call _ _ rfl (by go_simp) _ (awake_any _) ?_
            rintro e w9 ⟨rfl, hb9⟩
            refine ⟨_, rfl, ?_⟩
            (try simp only [Act.put, List.getElem_toArray, List.getElem_cons_zero, List.getElem_cons_succ, List.setIfInBounds_toArray, List.set_cons_zero, List.set_cons_succ])
            refine wpl_val ?_ rfl ?_ ?_
            rotate_left
            · (go_simp; (try with_reducible rfl))
            (try simp only [Act.put, List.getElem_toArray, List.getElem_cons_zero, List.getElem_cons_succ, List.setIfInBounds_toArray, List.set_cons_zero, List.set_cons_succ])
            refine wpl_val ?_ rfl ?_ ?_
            rotate_left
            · (go_simp; (try with_reducible rfl))
            (try simp only [Act.put, List.getElem_toArray, List.getElem_cons_zero, List.getElem_cons_succ, List.setIfInBounds_toArray, List.set_cons_zero, List.set_cons_succ])
            refine wpList_nil ?_
            go_wp2_with fail
            go_ret
            exact ⟨rfl, (hS.go hb9).below⟩
end Go.Proofs.Ytjaecdcddmohoaa
