/- The walk of ModelPlays. -/
import Derived.Test.YtjaecdcddmohoaaRDoW
import Derived.Test.YtjaecdcddmohoaaLoW
import Derived.Great.Ranges
namespace Go.Proofs.Ytjaecdcddmohoaa
open Go.RowKit
set_option linter.unusedSimpArgs false
set_option linter.unusedVariables false
theorem SS.turn {w0 w w' : World} {c : Nat} {M : P.Md} {k : Nat} {K K' : Nat → Prop} (h : SS w0 w c M k K) {S : Nat → Prop} (f : Fr S w w') (hS : ∀ b, S b → K b) (hK : ∀ b, K' b → K b ∨ w.heap.size ≤ b) (hl : ∀ b, K' b → w0.heap.size ≤ b ∧ b < w'.heap.size) : SS w0 w' c M k K' := by
  have h1 := h.fr f hS
  obtain ⟨m, hm, hms, hd⟩ := h.ex
  refine ⟨⟨m, hm, hms.fr f fun b hb hs => hd b hb (hS b hs), fun b hb e => ?_⟩, h.ok, h1.below, hl⟩
  rcases hK b e with e | e
  · exact hd b hb e
  · have := hms.lt b hb; omega
/-- Both machines, the program's and the document's. -/
structure PL (w wr : World) (c c2 pg : Nat) (M : P.Md) (log : List P.De) (j : Nat) (v : Value) : Prop where
  ss : SS w wr c M j (RM.has c2 v)
  rm : RM w.heap.size wr c2 v pg M.max log
  sim : P.Sim M j log
  len : log.length = j
  pg : M.pages = (pg : Int)
theorem PL.go {w wr w' : World} {c c2 pg : Nat} {M : P.Md} {log : List P.De} {j : Nat} {v : Value} (h : PL w wr c c2 pg M log j v) (k : Below wr.heap.size wr w') : PL w w' c c2 pg M log j v :=
  ⟨h.ss.go k, h.rm.fr (Fr.of_below k fun _ => False) (fun _ _ e => e), h.sim, h.len, h.pg⟩
theorem b30 (p : Int) (x : Nat) : Try.prog.built 30 [(0, .int .i64 p), (1, .int .u32 x)] = some #[.int .i64 p, .int .u32 x, .slice none 0 0] := by kernel_rfl
set_option maxRecDepth 100000 in
set_option maxHeartbeats 8000000 in
theorem plays_out (p : Int) (x : Nat) (hp : p < 1 ∨ 16 < p) (ao0 : Option Addr) (n0 cap0 : Nat) (w : World) :
    Calls Try.prog 3 #[.int .i64 p, .int .u32 x, .slice ao0 n0 cap0] w fun e w' => e = .returned (.bool true) ∧ Below w.heap.size w w' := by
  go_enter Try.func3, Try.ntmps3
  go_upto_region 1 with (fail)
  refine no_implicit_lambda% (wp_region_lit ?_)
  iterate 2
    refine no_implicit_lambda% (wpl_val ?_ rfl ?_ ?_)
    rotate_left
    · (go_simp; (try with_reducible rfl))
    (try simp only [Act.put, Z1, Z2, Z3, Z4, Z5, Z6])
  refine wpl_call _ _ rfl (by go_simp) _ (new_out _ p x hp) ?_
  rintro e w1 ⟨rfl, rfl⟩
  refine ⟨_, rfl, ?_⟩
  (try simp only [Act.put, Z1, Z2, Z3, Z4, Z5, Z6])
  refine no_implicit_lambda% (wpl_val ?_ rfl ?_ ?_)
  rotate_left
  · (go_simp; (try with_reducible rfl))
  (try simp only [Act.put, Z1, Z2, Z3, Z4, Z5, Z6])
  refine no_implicit_lambda% (wpList_nil ?_)
  by_cases h1 : p < 1
  · have h1' : decide (p < 1) = true := by simp [h1]
    clear hp
    go_upto_region 2 with (fail)
    refine no_implicit_lambda% (wp_region_lit ?_)
    iterate 3
      refine no_implicit_lambda% (wpl_val ?_ rfl ?_ ?_)
      rotate_left
      · (go_simp; (try with_reducible rfl))
      (try simp only [Act.put, Z1, Z2, Z3, Z4, Z5, Z6])
    iterate 2
      refine no_implicit_lambda% (wpl_skip rfl ?_)
      (try simp only [Act.put, Z1, Z2, Z3, Z4, Z5, Z6])
    refine no_implicit_lambda% (wpl_val ?_ rfl ?_ ?_)
    rotate_left
    · (go_simp; (try with_reducible rfl))
    (try simp only [Act.put, Z1, Z2, Z3, Z4, Z5, Z6])
    refine no_implicit_lambda% (wpList_nil ?_)
    go_upto_region 3 with (fail)
    refine no_implicit_lambda% (wp_region_lit ?_)
    iterate 3
      refine no_implicit_lambda% (wpl_val ?_ rfl ?_ ?_)
      rotate_left
      · (go_simp; (try with_reducible rfl))
      (try simp only [Act.put, Z1, Z2, Z3, Z4, Z5, Z6])
    refine wpl_call _ _ rfl (by go_simp) _ (awake_any _) ?_
    rintro e w9 ⟨rfl, hb9⟩
    refine ⟨_, rfl, ?_⟩
    (try simp only [Act.put, Z1, Z2, Z3, Z4, Z5, Z6])
    iterate 2
      refine no_implicit_lambda% (wpl_val ?_ rfl ?_ ?_)
      rotate_left
      · (go_simp; (try with_reducible rfl))
      (try simp only [Act.put, Z1, Z2, Z3, Z4, Z5, Z6])
    refine no_implicit_lambda% (wpList_nil ?_)
    go_wp2_with fail
    go_ret
    exact ⟨rfl, hb9⟩
  · have h1' : decide (p < 1) = false := by simp [h1]
    have h2 : decide (16 < p) = true := by simp; omega
    clear hp h1
    go_upto_region 2 with (fail)
    refine no_implicit_lambda% (wp_region_lit ?_)
    iterate 6
      refine no_implicit_lambda% (wpl_val ?_ rfl ?_ ?_)
      rotate_left
      · (go_simp; (try with_reducible rfl))
      (try simp only [Act.put, Z1, Z2, Z3, Z4, Z5, Z6])
    refine no_implicit_lambda% (wpList_nil ?_)
    go_upto_region 3 with (fail)
    refine no_implicit_lambda% (wp_region_lit ?_)
    iterate 3
      refine no_implicit_lambda% (wpl_val ?_ rfl ?_ ?_)
      rotate_left
      · (go_simp; (try with_reducible rfl))
      (try simp only [Act.put, Z1, Z2, Z3, Z4, Z5, Z6])
    refine wpl_call _ _ rfl (by go_simp) _ (awake_any _) ?_
    rintro e w9 ⟨rfl, hb9⟩
    refine ⟨_, rfl, ?_⟩
    (try simp only [Act.put, Z1, Z2, Z3, Z4, Z5, Z6])
    iterate 2
      refine no_implicit_lambda% (wpl_val ?_ rfl ?_ ?_)
      rotate_left
      · (go_simp; (try with_reducible rfl))
      (try simp only [Act.put, Z1, Z2, Z3, Z4, Z5, Z6])
    refine no_implicit_lambda% (wpList_nil ?_)
    go_wp2_with fail
    go_ret
    exact ⟨rfl, hb9⟩
set_option maxRecDepth 100000 in
set_option maxHeartbeats 8000000 in
theorem plays_in (pg x : Nat) (hp : 1 ≤ pg ∧ pg ≤ 16) (hx : x < 4294967296) (ao0 : Option Addr) (n0 cap0 : Nat) (C0 : Nat → P.Cl) (w : World) (hops0 : OpsAt w ao0 n0 C0) (hm : n0 ≤ maxLen) (hcap : n0 ≤ cap0) :
    Calls Try.prog 3 #[.int .i64 pg, .int .u32 x, .slice ao0 n0 cap0] w fun e w' => e = .returned (.bool true) ∧ Below w.heap.size w w' := by
  have hz40 := zero40.1
  have hz35 := zero35.1
  have hao := hops0.some
  have hpi : 1 ≤ (pg : Int) ∧ (pg : Int) ≤ 16 := by omega
  have h1' : decide ((pg : Int) < 1) = false := by simp; omega
  have h2' : decide ((16 : Int) < (pg : Int)) = false := by simp; omega
  go_enter Try.func3, Try.ntmps3
  go_upto_region 1 with (fail)
  refine no_implicit_lambda% (wp_region_lit ?_)
  iterate 2
    refine no_implicit_lambda% (wpl_val ?_ rfl ?_ ?_)
    rotate_left
    · (go_simp; (try with_reducible rfl))
    (try simp only [Act.put, Z1, Z2, Z3, Z4, Z5, Z6])
  refine wpl_call _ _ rfl (by go_simp) _ (new_in _ (pg : Int) x hpi) ?_
  rintro e w1 ⟨m, rfl, hms, hb⟩
  refine ⟨_, rfl, ?_⟩
  have hS := SS.start hms hb hpi hx
  have hbel1 := hb
  clear hms hb
  generalize m.c = c at *
  (try simp only [Act.put, Z1, Z2, Z3, Z4, Z5, Z6])
  refine no_implicit_lambda% (wpl_val ?_ rfl ?_ ?_)
  rotate_left
  · (go_simp; (try with_reducible rfl))
  (try simp only [Act.put, Z1, Z2, Z3, Z4, Z5, Z6])
  refine no_implicit_lambda% (wpList_nil ?_)
  go_upto_region 2 with (fail)
  refine no_implicit_lambda% (wp_region_lit ?_)
  iterate 6
    refine no_implicit_lambda% (wpl_val ?_ rfl ?_ ?_)
    rotate_left
    · (go_simp; (try with_reducible rfl))
    (try simp only [Act.put, Z1, Z2, Z3, Z4, Z5, Z6])
  refine no_implicit_lambda% (wpList_nil ?_)
  go_upto_region 6 with (fail)
  refine no_implicit_lambda% (wp_region_lit ?_)
  iterate 2
    refine no_implicit_lambda% (wpl_val ?_ rfl ?_ ?_)
    rotate_left
    · (go_simp; (try with_reducible rfl))
    (try simp only [Act.put, Z1, Z2, Z3, Z4, Z5, Z6])
  refine wpl_val (.agg #[.int .i64 pg, .int .u32 x, .slice none 0 0]) rfl (run_buildE rfl (by go_simp; exact b30 pg x)) ?_
  (try simp only [Act.put, Z1, Z2, Z3, Z4, Z5, Z6])
  refine Go.Great.wpList_boxTo rfl 30 _ rfl _ rfl w1.heap.size rfl #[.int .i64 pg, .int .u32 x, .slice none 0 0] rfl ?_
  have hc2 : Blk (w1.alloc (.cells #[.int .i64 pg, .int .u32 x, .slice none 0 0] 30)) w1.heap.size #[.int .i64 pg, .int .u32 x, .slice none 0 0] 30 := Blk.alloc_new _ _ _
  have hrm : RM w.heap.size (w1.alloc (.cells #[.int .i64 pg, .int .u32 x, .slice none 0 0] 30)) w1.heap.size (.slice none 0 0) pg x [] := ⟨hc2, World.ownsRow_nil _ _ _ _, (fun e => by cases e), hbel1.size⟩
  have hPL : PL w (w1.alloc (.cells #[.int .i64 pg, .int .u32 x, .slice none 0 0] 30)) c w1.heap.size pg (P.new pg x) [] 0 (.slice none 0 0) := by
    refine ⟨(hS.turn (K' := RM.has w1.heap.size (.slice none 0 0)) ((Fr.refl (fun _ => False) _).alloc _) (fun _ e => e) (fun b hb => ?_) fun b hb => hrm.lt b hb), hrm, P.sim_new hpi hx, rfl, rfl⟩
    rcases hb with rfl | hb
    · exact .inr (Nat.le_refl _)
    · cases hb
  have hbel := hPL.ss.below
  replace hPL := Lib.hid hPL
  clear hS hc2 hrm hbel1
  generalize w1.alloc (.cells #[.int .i64 pg, .int .u32 x, .slice none 0 0] 30) = V0 at *
  generalize w1.heap.size = c2 at *
  (try simp only [Act.put, Z1, Z2, Z3, Z4, Z5, Z6])
  refine no_implicit_lambda% (wpl_val ?_ rfl ?_ ?_)
  rotate_left
  · (go_simp; (try with_reducible rfl))
  (try simp only [Act.put, Z1, Z2, Z3, Z4, Z5, Z6])
  refine no_implicit_lambda% (wpList_nil ?_)
  have hN : min n0 40 ≤ n0 ∧ min n0 40 ≤ 40 := by omega
  have hops := Lib.hid (hops0.mono (Below.refl _ _) hN.1)
  clear hops0
  go_upto_region 7 with (fail)
  refine no_implicit_lambda% (wp_region_lit ?_)
  refine no_implicit_lambda% (wpl_val ?_ rfl ?_ ?_)
  rotate_left
  · (go_simp; (try with_reducible rfl))
  (try simp only [Act.put, Z1, Z2, Z4, Z5, Z6])
  refine wpl_call _ _ rfl (by go_simp) _ (small_any ao0 n0 cap0 _ hcap hao) ?_
  rintro e w' ⟨rfl, rfl⟩
  refine ⟨_, rfl, ?_⟩
  (try simp only [Act.put, Z1, Z2, Z3, Z4, Z5, Z6])
  refine no_implicit_lambda% (wpl_val ?_ rfl ?_ ?_)
  rotate_left
  · (go_simp; (try with_reducible rfl))
  (try simp only [Act.put, Z1, Z2, Z3, Z4, Z5, Z6])
  refine no_implicit_lambda% (wpl_val ?_ rfl ?_ ?_)
  rotate_left
  · (go_simp; (try with_reducible rfl))
  (try simp only [Act.put, Z1, Z2, Z3, Z4, Z5, Z6])
  refine no_implicit_lambda% (wpList_nil ?_)
  generalize min n0 40 = N at *
  have hN40 := hN.2
  clear hN hao hbel hcap
  go_wp2_with fail
  go_loopw [36] (fun i wr => ∃ (k : Nat) (M : P.Md) (log : List P.De) (v : Value), i = .int .i64 k ∧ k ≤ N ∧ PL w wr c c2 pg M log k v) (fun i _ => N - (intOf i).toNat)
  case atStart => exact ⟨0, _, _, _, rfl, Nat.zero_le _, hPL.out⟩
  case round =>
    obtain ⟨k, M, log, v, rfl, hk, hP⟩ := hrel
    by_cases hlt : k < N
    · have hlt' : (k : Int) < (N : Int) := by omega
      obtain ⟨sb, so, rfl, hr⟩ := hops.out.load hP.ss.below hlt
      replace hr := Lib.hid hr
      go_upto_region 9 with (fail)
      refine no_implicit_lambda% (wp_region_lit ?_)
      refine no_implicit_lambda% (wpl_val ?_ rfl ?_ ?_)
      rotate_left
      · (go_simp; (try with_reducible rfl))
      (try simp only [Act.put, Z1, Z2, Z4, Z5, Z6])
      refine wpList_load_mid rfl 35 _ rfl sb (so + k * 5) rfl (clL (C0 k)) _ hr.out Try.underlying35 rfl (size35 (C0 k)) ?_
      (try simp only [Act.put, Z1, Z2, Z3, Z4, Z5, Z6])
      refine wpl_alloc 35 (clA ⟨0, 0, 0, 0, P.es⟩) rfl rfl hz35 ?_
      (try simp only [Act.put, Z1, Z2, Z3, Z4, Z5, Z6])
      refine wpl_law rfl (wp_store_row 35 _ _ rfl wr.heap.size (clA (C0 k)) rfl rfl 35 _ (Blk.alloc_new _ _ _) (size35 _) rfl (clA_one _) ?_)
      (try simp only [Act.put, Z1, Z2, Z3, Z4, Z5, Z6])
      refine no_implicit_lambda% (wpList_nil ?_)
      obtain ⟨hS2, hB, hb⟩ := hP.ss.box (clA ⟨0, 0, 0, 0, P.es⟩) (clA (C0 k)) 35
      have hRM := hP.rm.fr (Fr.of_below hb fun _ => False) (fun _ _ e => e)
      have hsim := Lib.hid hP.sim
      have hlen := hP.len
      have hpgM := Lib.hid hP.pg
      have hnb : ∀ b, RM.has c2 v b → b < wr.heap.size := fun b hb => (hP.rm.lt b hb).2
      generalize (wr.alloc (.cells (clA ⟨0, 0, 0, 0, P.es⟩) 35)).setRow wr.heap.size (clA (C0 k)) = V at *
      generalize wr.heap.size = bx at *
      have hok := Lib.hid (hops.out.ok k hlt)
      clear hP hr hb
      go_upto_region 10 with (fail)
      refine wp_region_held (S := (fun w' => Blk w' bx (clA (C0 k)) 35)) (by kernel_rfl) ?_
      change wpAnyH _ _ _ _ _ _ _ _ (World.drew _)
      (try simp only [Act.put])
      have hS := hB.drew
      replace hS2 := hS2.drew
      replace hRM := hRM.fr (Fr.refl (fun _ => False) _).drew (fun _ _ e => e)
      clear hB
      generalize V.drew = V1 at *
      refine anyH_pure 0 _ ?_ rfl (by kernel_rfl) (by kernel_rfl) (by kernel_rfl) (fun _ _ _ h => h) rfl ?_ hS ?_
      rotate_left
      · (intro w'; go_simp; (try with_reducible rfl))
      (try simp only [Act.put, Z1, Z2, Z4, Z5, Z6])
      refine anyH_if 1 _ (.agg (clA (C0 k))) rfl (by kernel_rfl) (by kernel_rfl) (by kernel_rfl) (fun _ _ _ h => h) rfl (fun w' h => cl_load h rfl rfl) hS ?_
      (try simp only [Act.put, Z1, Z2, Z3, Z4, Z5, Z6])
      refine anyH_pure 3 _ ?_ rfl (by kernel_rfl) (by kernel_rfl) (by kernel_rfl) (fun _ _ _ h => h) rfl ?_ hS ?_
      rotate_left
      · (intro w'; go_simp; (try with_reducible rfl))
      (try simp only [Act.put, Z1, Z2, Z3, Z4, Z5, Z6])
      refine anyH_if 4 _ (.agg (clA (C0 k))) rfl (by kernel_rfl) (by kernel_rfl) (by kernel_rfl) (fun _ _ _ h => h) rfl (fun w' h => cl_load h rfl rfl) hS ?_
      (try simp only [Act.put, Z1, Z2, Z3, Z4, Z5, Z6])
      have hrp := Lib.hid (RpOk.of hS2.ok (by omega) (P.rpb_step hS2.ok (C0 k)))
      have hst := Lib.hid (P.sim_step hsim.out (c := C0 k) hok.out.1.page.1)
      have hkp := Lib.hid (P.kept_step M (C0 k))
      have hcal := fun (W : World) (h : RM w.heap.size W c2 v pg M.max log) => rdo_any hsim.out hpgM.out h (by omega) (by omega) hok.out.1
      have hcd := hS2.do_ (cl := C0 k) (by omega) hok.out.1
      generalize P.step M (C0 k) = R at *
      obtain ⟨M', r⟩ := R
      dsimp only at hrp hst hkp hcal hcd
      clear hS2 hsim
      refine anyH_callR 2 _ _ _ _ (by kernel_rfl) rfl rfl (by go_simp) (_) (hcd) ?_
      rintro w5 ⟨hS5, hf5⟩
      replace hS := hS.fr hf5 (fun e => e (.inr rfl))
      have hR5 := hRM.fr hf5 (fun b hb e => e (.inl hb))
      refine ⟨hS, ?_⟩
      clear hcd hRM hf5
      (try simp only [Act.put, Z1, Z2, Z3, Z4, Z5, Z6])
      refine anyH_callR 5 _ _ _ _ (by kernel_rfl) rfl rfl (by go_simp) (_) ((hcal w5 hR5)) ?_
      rintro w6 ⟨v', hR6, hf6, hn6⟩
      have hS6 := hS5.turn (K' := RM.has c2 v') hf6 (fun b hb => .inl hb) (fun b hb => (hn6 b hb).imp .inl id) (fun b hb => hR6.lt b hb)
      replace hS := hS.fr hf6 (fun e => by have := hnb _ e; omega)
      refine ⟨hS, ?_⟩
      clear hcal hR5 hf6 hn6 hS5 hnb
      rw [← hkp.out.max] at hR6
      have hln : (log ++ [(C0 k, r)]).length = k + 1 := by simp [hlen]
      have hpn := Lib.hid (hkp.out.pages.trans hpgM.out)
      clear hkp hpgM hok
      generalize log ++ [(C0 k, r)] = log' at *
      (try simp only [Act.put, Z1, Z2, Z3, Z4, Z5, Z6])
      refine anyH_pure 6 _ (.bool (!true)) rfl (by kernel_rfl) (by kernel_rfl) (by kernel_rfl) (fun _ _ _ h => h) rfl (fun w' => run_opNe 40 40 _ _ _ _ true rfl rfl rfl eqt40 (eql40_yes hrp.out hrp.out rfl w')) hS ?_
      (try simp only [Act.put, Z1, Z2, Z3, Z4, Z5, Z6])
      refine anyH_pure 7 _ ?_ rfl (by kernel_rfl) (by kernel_rfl) (by kernel_rfl) (fun _ _ _ h => h) rfl ?_ hS ?_
      rotate_left
      · (intro w'; go_simp; (try with_reducible rfl))
      (try simp only [Act.put, Z1, Z2, Z3, Z4, Z5, Z6])
      refine anyH_pure 8 _ ?_ rfl (by kernel_rfl) (by kernel_rfl) (by kernel_rfl) (fun _ _ _ h => h) rfl ?_ hS ?_
      rotate_left
      · (intro w'; go_simp; (try with_reducible rfl))
      (try simp only [Act.put, Z1, Z2, Z3, Z4, Z5, Z6])
      refine anyH_pure 10 _ ?_ rfl (by kernel_rfl) (by kernel_rfl) (by kernel_rfl) (fun _ _ _ h => h) rfl ?_ hS ?_
      rotate_left
      · (intro w'; go_simp; (try with_reducible rfl))
      (try simp only [Act.put, Z1, Z2, Z3, Z4, Z5, Z6])
      refine anyH_callR 9 _ _ _ _ (by kernel_rfl) rfl rfl (by go_simp) (_) (hS6.last) ?_
      rintro _ rfl
      refine ⟨hS, ?_⟩
      (try simp only [Act.put, Z1, Z2, Z3, Z4, Z5, Z6])
      obtain ⟨ao6, cap6, _, hat6⟩ := hR6.at_
      have hl := reflast_any hat6 (by omega)
      rw [hst.out.last] at hl
      refine anyH_callR 11 _ _ _ _ (by kernel_rfl) rfl rfl (by go_simp) (_) (hl) ?_
      rintro w7 hb7
      have hP : PL w w7 c c2 pg M' log' (k + 1) v' := PL.go ⟨hS6, hR6, hst.out, hln, hpn.out⟩ hb7
      refine ⟨hS.below hb7, ?_⟩
      replace hS := hS.below hb7
      clear hl hat6 hR6 hS6 hb7 hst hpn hrp
      (try simp only [Act.put, Z1, Z2, Z3, Z4, Z5, Z6])
      refine anyH_pure 12 _ ?_ rfl (by kernel_rfl) (by kernel_rfl) (by kernel_rfl) (fun _ _ _ h => h) rfl ?_ hS ?_
      rotate_left
      · (intro w'; go_simp; (try with_reducible rfl))
      (try simp only [Act.put, Z1, Z2, Z3, Z4, Z5, Z6])
      refine anyH_pure 13 _ ?_ rfl (by kernel_rfl) (by kernel_rfl) (by kernel_rfl) (fun _ _ _ h => h) rfl ?_ hS ?_
      rotate_left
      · (intro w'; go_simp; (try with_reducible rfl))
      (try simp only [Act.put, Z1, Z2, Z3, Z4, Z5, Z6])
      refine wpAnyH_done (by kernel_rfl) ?_ _
      go_wp2_with fail
      go_roundw
      case rel => exact ⟨k + 1, M', log', v', by go_num, by omega, hP⟩
      case measure => simp [intOf]; omega
    · obtain rfl : k = N := by omega
      clear hlt hPL hops
      go_wp2_with fail
      go_loopw [11] (fun i wr => ∃ q : Nat, i = .int .i64 q ∧ q ≤ 5 ∧ PL w wr c c2 pg M log k v) (fun i _ => 5 - (intOf i).toNat)
      case atStart => exact ⟨0, rfl, by omega, hP⟩
      case round =>
        obtain ⟨q, rfl, hq, hP⟩ := hrel
        by_cases hqp : q ≤ pg ∧ q < 5
        · have hq1 : decide ((q : Int) ≤ (pg : Int)) = true := by simp; omega
          have hq2 : decide ((q : Int) < 5) = true := by simp; omega
          have hw16 : IntKind.u16.wrap (q : Int) = (q : Int) := IntWalk.u16_in _ (by omega)
          go_upto_region 14 with (fail)
          refine no_implicit_lambda% (wp_region_lit ?_)
          iterate 7
            refine no_implicit_lambda% (wpl_val ?_ rfl ?_ ?_)
            rotate_left
            · (go_simp; (try with_reducible rfl))
            (try simp only [Act.put, Z1, Z2, Z3, Z4, Z5, Z6])
          refine no_implicit_lambda% (wpList_nil ?_)
          clear hq1 hq2
          go_wp2_with fail
          go_loopw [12] (fun i wr => ∃ s : Nat, i = .int .u32 s ∧ s ≤ 6 ∧ PL w wr c c2 pg M log k v) (fun i _ => 6 - (intOf i).toNat)
          case atStart => exact ⟨0, rfl, by omega, hP⟩
          case round =>
            obtain ⟨s, rfl, hs, hP⟩ := hrel
            obtain ⟨ao6, cap6, _, hat⟩ := hP.rm.at_
            have hl := reflast_any hat (by have := hP.len; omega)
            rw [hP.sim.last] at hl
            go_upto_region 17 with (fail)
            refine no_implicit_lambda% (wp_region_lit ?_)
            iterate 2
              refine no_implicit_lambda% (wpl_val ?_ rfl ?_ ?_)
              rotate_left
              · (go_simp; (try with_reducible rfl))
              (try simp only [Act.put, Z1, Z2, Z3, Z4, Z5, Z6])
            refine wpl_call _ _ rfl (by go_simp) _ hl ?_
            rintro e w2 ⟨rfl, hb2⟩
            refine ⟨_, rfl, ?_⟩
            replace hP := hP.go hb2
            clear hl hat hb2
            (try simp only [Act.put, Z1, Z2, Z3, Z4, Z5, Z6])
            by_cases hsl : s ≤ M.last
            · have hsl' : decide ((s : Int) ≤ (M.last : Int)) = true := by simp; omega
              by_cases hs6 : s < 6
              · have hs6' : decide ((s : Int) < 6) = true := by simp; omega
                iterate 5
                  refine no_implicit_lambda% (wpl_val ?_ rfl ?_ ?_)
                  rotate_left
                  · (go_simp; (try with_reducible rfl))
                  (try simp only [Act.put, Z1, Z2, Z3, Z4, Z5, Z6])
                refine no_implicit_lambda% (wpList_nil ?_)
                clear hsl hsl' hs6'
                go_upto_region 19 with (fail)
                refine no_implicit_lambda% (wp_region_lit ?_)
                iterate 4
                  refine no_implicit_lambda% (wpl_val ?_ rfl ?_ ?_)
                  rotate_left
                  · (go_simp; (try with_reducible rfl))
                  (try simp only [Act.put, Z1, Z2, Z3, Z4, Z5, Z6])
                refine wpl_call _ _ rfl (by go_simp) _ (hP.ss.at_ q s) ?_
                rintro e w3 ⟨rfl, _, hb3⟩
                refine ⟨_, rfl, ?_⟩
                replace hP := hP.go hb3
                clear hb3
                (try simp only [Act.put, Z1, Z2, Z3, Z4, Z5, Z6])
                iterate 4
                  refine no_implicit_lambda% (wpl_val ?_ rfl ?_ ?_)
                  rotate_left
                  · (go_simp; (try with_reducible rfl))
                  (try simp only [Act.put, Z1, Z2, Z3, Z4, Z5, Z6])
                obtain ⟨ao6, cap6, _, hat⟩ := hP.rm.at_
                refine wpl_call _ _ rfl (by go_simp) _ (refat_any hP.sim (by have := hP.len; omega) q s _ hat) ?_
                rintro e w4 ⟨rfl, hb4⟩
                refine ⟨_, rfl, ?_⟩
                replace hP := hP.go hb4
                clear hb4 hat
                (try simp only [Act.put, Z1, Z2, Z3, Z4, Z5, Z6])
                have hvw : Hid ((Lit.int .u32 ((P.at' M q s).ts : Int)).wf = true) := wf_u32 (by have h1 := P.at_le hP.ss.ok q s; have h2 := hP.ss.ok.lm; have h3 := hP.ss.ok.mx; omega)
                generalize P.at' M q s = u at *
                refine wpl_val (.bool (!true)) rfl (run_opNe 44 44 _ _ _ _ true rfl rfl rfl eqt44 (eql44_yes hvw.out hvw.out rfl _)) ?_
                (try simp only [Act.put, Z1, Z2, Z3, Z4, Z5, Z6])
                refine no_implicit_lambda% (wpList_nil ?_)
                go_wp2_with fail
                go_roundw
                case rel => exact ⟨s + 1, by go_num, by omega, hP⟩
                case measure => simp [intOf]; omega
              · have hs6' : decide ((s : Int) < 6) = false := by simp; omega
                iterate 5
                  refine no_implicit_lambda% (wpl_val ?_ rfl ?_ ?_)
                  rotate_left
                  · (go_simp; (try with_reducible rfl))
                  (try simp only [Act.put, Z1, Z2, Z3, Z4, Z5, Z6])
                refine no_implicit_lambda% (wpList_nil ?_)
                go_wp2_with fail
                go_roundw
                case rel => exact ⟨q + 1, by go_num, by omega, hP⟩
                case measure => simp [intOf]; omega
            · have hsl' : decide ((s : Int) ≤ (M.last : Int)) = false := by simp; omega
              iterate 2
                refine no_implicit_lambda% (wpl_val ?_ rfl ?_ ?_)
                rotate_left
                · (go_simp; (try with_reducible rfl))
                (try simp only [Act.put, Z1, Z2, Z3, Z4, Z5, Z6])
              iterate 2
                refine no_implicit_lambda% (wpl_skip rfl ?_)
                (try simp only [Act.put, Z1, Z2, Z3, Z4, Z5, Z6])
              refine no_implicit_lambda% (wpl_val ?_ rfl ?_ ?_)
              rotate_left
              · (go_simp; (try with_reducible rfl))
              (try simp only [Act.put, Z1, Z2, Z3, Z4, Z5, Z6])
              refine no_implicit_lambda% (wpList_nil ?_)
              go_wp2_with fail
              go_roundw
              case rel => exact ⟨q + 1, by go_num, by omega, hP⟩
              case measure => simp [intOf]; omega
        · by_cases hq1 : q ≤ pg
          · have hq1' : decide ((q : Int) ≤ (pg : Int)) = true := by simp; omega
            have hq2' : decide ((q : Int) < 5) = false := by simp; omega
            go_upto_region 14 with (fail)
            refine no_implicit_lambda% (wp_region_lit ?_)
            iterate 7
              refine no_implicit_lambda% (wpl_val ?_ rfl ?_ ?_)
              rotate_left
              · (go_simp; (try with_reducible rfl))
              (try simp only [Act.put, Z1, Z2, Z3, Z4, Z5, Z6])
            refine no_implicit_lambda% (wpList_nil ?_)
            go_upto_region 21 with (fail)
            refine no_implicit_lambda% (wp_region_lit ?_)
            refine wpl_call _ _ rfl (by go_simp) _ (awake_any _) ?_
            rintro e w9 ⟨rfl, hb9⟩
            refine ⟨_, rfl, ?_⟩
            (try simp only [Act.put, Z1, Z2, Z3, Z4, Z5, Z6])
            refine no_implicit_lambda% (wpl_val ?_ rfl ?_ ?_)
            rotate_left
            · (go_simp; (try with_reducible rfl))
            (try simp only [Act.put, Z1, Z2, Z3, Z4, Z5, Z6])
            refine no_implicit_lambda% (wpList_nil ?_)
            go_wp2_with fail
            go_ret
            exact ⟨rfl, (hP.go hb9).ss.below⟩
          · have hq1' : decide ((q : Int) ≤ (pg : Int)) = false := by simp; omega
            go_upto_region 14 with (fail)
            refine no_implicit_lambda% (wp_region_lit ?_)
            iterate 4
              refine no_implicit_lambda% (wpl_val ?_ rfl ?_ ?_)
              rotate_left
              · (go_simp; (try with_reducible rfl))
              (try simp only [Act.put, Z1, Z2, Z3, Z4, Z5, Z6])
            iterate 2
              refine no_implicit_lambda% (wpl_skip rfl ?_)
              (try simp only [Act.put, Z1, Z2, Z3, Z4, Z5, Z6])
            refine no_implicit_lambda% (wpl_val ?_ rfl ?_ ?_)
            rotate_left
            · (go_simp; (try with_reducible rfl))
            (try simp only [Act.put, Z1, Z2, Z3, Z4, Z5, Z6])
            refine no_implicit_lambda% (wpList_nil ?_)
            go_upto_region 21 with (fail)
            refine no_implicit_lambda% (wp_region_lit ?_)
            refine wpl_call _ _ rfl (by go_simp) _ (awake_any _) ?_
            rintro e w9 ⟨rfl, hb9⟩
            refine ⟨_, rfl, ?_⟩
            (try simp only [Act.put, Z1, Z2, Z3, Z4, Z5, Z6])
            refine no_implicit_lambda% (wpl_val ?_ rfl ?_ ?_)
            rotate_left
            · (go_simp; (try with_reducible rfl))
            (try simp only [Act.put, Z1, Z2, Z3, Z4, Z5, Z6])
            refine no_implicit_lambda% (wpList_nil ?_)
            go_wp2_with fail
            go_ret
            exact ⟨rfl, (hP.go hb9).ss.below⟩
theorem wf_u32' {x : Int} (h : (Lit.int .u32 x).wf = true) : 0 ≤ x ∧ x ≤ 4294967295 := by
  simp [Lit.wf, IntKind.min, IntKind.max, IntKind.bits, IntKind.signed] at h; omega
theorem plays_walk (p x : Int) (ao0 : Option Addr) (n0 cap0 : Nat) (C0 : Nat → P.Cl) (w : World) (hx : (Lit.int .u32 x).wf = true) (hops0 : OpsAt w ao0 n0 C0) (hm : n0 ≤ maxLen) (hcap : n0 ≤ cap0) :
    Calls Try.prog 3 #[.int .i64 p, .int .u32 x, .slice ao0 n0 cap0] w fun e w' => e = .returned (.bool true) ∧ Below w.heap.size w w' := by
  have hx' := wf_u32' hx
  obtain ⟨y, rfl⟩ : ∃ y : Nat, x = y := ⟨x.toNat, by omega⟩
  by_cases hp : p < 1 ∨ 16 < p
  · exact plays_out p y hp ao0 n0 cap0 w
  · obtain ⟨pg, rfl⟩ : ∃ pg : Nat, p = pg := ⟨p.toNat, by omega⟩
    exact plays_in pg y (by omega) (by omega) ao0 n0 cap0 C0 w hops0 hm hcap
end Go.Proofs.Ytjaecdcddmohoaa
