/- The walks of clock's Clear, Unpin, next, Victim. -/
import Derived.Test.YtbibfoahlieccaaClockW
import Derived.Deep.QuietTactic
import Derived.BigQuiet
namespace Go.Proofs.Ytbibfoahlieccaa
open Go.RowKit
set_option linter.unusedSimpArgs false
set_option linter.unusedVariables false
theorem size4 : (Try.prog.info? 4).map (·.size) = some 1 := by kernel_rfl
set_option maxRecDepth 100000 in
set_option maxHeartbeats 1000000 in
theorem clear_in {w : World} {b : Bl} {n : Nat} {C : P.Ck} (h : CS w b n C) (k : Nat) (hk : k < n) :
    Calls Try.prog 20 #[.pointer (some ⟨b.c, 0, none⟩), .int .i64 k] w fun e w' => e = .returned (.tuple #[]) ∧ Turned b n w { C with seen := P.upd C.seen k false, cold := P.upd C.cold k false } w' := by
  have hb := Lib.hid (hasB_yes (n := n) (i := (k : Int)) (by omega))
  have hk64 := h.n64
  go_enter Try.func20, Try.ntmps20
  go_wp2_with fail
  refine (has_any h k).mono ?_
  rintro e w' ⟨rfl, rfl⟩
  rw [hb.out]
  go_wp2_with fail
  refine wp_region_held (S := (fun w' => w'.cell? ⟨b.c, 1, none⟩ = some (.slice (some ⟨b.s, 0, none⟩) n n) ∧ w'.cell? ⟨b.c, 2, none⟩ = some (.slice (some ⟨b.k, 0, none⟩) n n))) (by kernel_rfl) ?_
  change wpAnyH _ _ _ _ _ _ _ _ w.drew
  (try simp only [Act.put])
  have hS : w.drew.cell? ⟨b.c, 1, none⟩ = some (.slice (some ⟨b.s, 0, none⟩) n n) ∧ w.drew.cell? ⟨b.c, 2, none⟩ = some (.slice (some ⟨b.k, 0, none⟩) n n) := ⟨h.c1, h.c2⟩
  refine anyH_pure 0 _ ?_ rfl (by kernel_rfl) (by kernel_rfl) (by kernel_rfl) (fun _ _ _ h => h) rfl ?_ hS ?_
  rotate_left
  · (intro w'; go_simp; (try with_reducible rfl))
  (try simp only [Act.put, List.getElem_toArray, List.getElem_cons_zero, List.setIfInBounds_toArray, List.set_cons_zero, List.set_cons_succ])
  refine anyH_pure 1 _ ?_ rfl (by kernel_rfl) (by kernel_rfl) (by kernel_rfl) (fun _ _ _ h => h) rfl ?_ hS ?_
  rotate_left
  · (intro w'; go_simp; (try with_reducible rfl))
  (try simp only [Act.put, List.getElem_toArray, List.getElem_cons_zero, List.getElem_cons_succ, List.setIfInBounds_toArray, List.set_cons_zero, List.set_cons_succ])
  refine anyH_pure 2 _ ?_ rfl (by kernel_rfl) (by kernel_rfl) (by kernel_rfl) (fun _ _ _ h => h) rfl ?_ hS ?_
  rotate_left
  · (intro w'; go_simp; (try with_reducible rfl))
  (try simp only [Act.put, List.getElem_toArray, List.getElem_cons_zero, List.getElem_cons_succ, List.setIfInBounds_toArray, List.set_cons_zero, List.set_cons_succ])
  refine anyH_if 3 _ ?_ rfl (by kernel_rfl) (by kernel_rfl) (by kernel_rfl) (fun _ _ _ h => h) rfl ?_ hS ?_
  rotate_left
  · (intro w' h; have c0 := h.1; go_simp; (try with_reducible rfl))
  (try simp only [Act.put, List.getElem_toArray, List.getElem_cons_zero, List.getElem_cons_succ, List.setIfInBounds_toArray, List.set_cons_zero, List.set_cons_succ])
  refine anyH_pure 4 _ ?_ rfl (by kernel_rfl) (by kernel_rfl) (by kernel_rfl) (fun _ _ _ h => h) rfl ?_ hS ?_
  rotate_left
  · (intro w'; go_simp; (try with_reducible rfl))
  (try simp only [Act.put, List.getElem_toArray, List.getElem_cons_zero, List.getElem_cons_succ, List.setIfInBounds_toArray, List.set_cons_zero, List.set_cons_succ])
  refine anyH_pure 5 _ ?_ rfl (by kernel_rfl) (by kernel_rfl) (by kernel_rfl) (fun _ _ _ h => h) rfl ?_ hS ?_
  rotate_left
  · (intro w'; go_simp; (try with_reducible rfl))
  (try simp only [Act.put, List.getElem_toArray, List.getElem_cons_zero, List.getElem_cons_succ, List.setIfInBounds_toArray, List.set_cons_zero, List.set_cons_succ])
  refine anyH_pure 6 _ ?_ rfl (by kernel_rfl) (by kernel_rfl) (by kernel_rfl) (fun _ _ _ h => h) rfl ?_ hS ?_
  rotate_left
  · (intro w'; go_simp; (try with_reducible rfl))
  (try simp only [Act.put, List.getElem_toArray, List.getElem_cons_zero, List.getElem_cons_succ, List.setIfInBounds_toArray, List.set_cons_zero, List.set_cons_succ])
  refine anyH_pure 7 _ ?_ rfl (by kernel_rfl) (by kernel_rfl) (by kernel_rfl) (fun _ _ _ h => h) rfl ?_ hS ?_
  rotate_left
  · (intro w'; go_simp; (try with_reducible rfl))
  (try simp only [Act.put, List.getElem_toArray, List.getElem_cons_zero, List.getElem_cons_succ, List.setIfInBounds_toArray, List.set_cons_zero, List.set_cons_succ])
  refine anyH_if 8 _ ?_ rfl (by kernel_rfl) (by kernel_rfl) (by kernel_rfl) (fun _ _ _ h => h) rfl ?_ hS ?_
  rotate_left
  · (intro w' h; have c0 := h.2; go_simp; (try with_reducible rfl))
  (try simp only [Act.put, List.getElem_toArray, List.getElem_cons_zero, List.getElem_cons_succ, List.setIfInBounds_toArray, List.set_cons_zero, List.set_cons_succ])
  refine anyH_pure 9 _ ?_ rfl (by kernel_rfl) (by kernel_rfl) (by kernel_rfl) (fun _ _ _ h => h) rfl ?_ hS ?_
  rotate_left
  · (intro w'; go_simp; (try with_reducible rfl))
  (try simp only [Act.put, List.getElem_toArray, List.getElem_cons_zero, List.getElem_cons_succ, List.setIfInBounds_toArray, List.set_cons_zero, List.set_cons_succ])
  refine anyH_pure 10 _ ?_ rfl (by kernel_rfl) (by kernel_rfl) (by kernel_rfl) (fun _ _ _ h => h) rfl ?_ hS ?_
  rotate_left
  · (intro w'; go_simp; (try with_reducible rfl))
  (try simp only [Act.put, List.getElem_toArray, List.getElem_cons_zero, List.getElem_cons_succ, List.setIfInBounds_toArray, List.set_cons_zero, List.set_cons_succ])
  have h1 := h.drew.setSeen k false
  have f1 := h.drew.frS k (.bool false)
  refine anyH_one 11 _ (by kernel_rfl) rfl rfl (wp_store_one 4 _ _ rfl ⟨b.s, k, none⟩ _ (.bool false) rfl rfl size4 rfl (h.drew.vs hk) (h.drew.s.free k) ?_)
  have hS : (w.drew.setCell ⟨b.s, k, none⟩ (.bool false)).cell? ⟨b.c, 1, none⟩ = some (.slice (some ⟨b.s, 0, none⟩) n n) ∧ (w.drew.setCell ⟨b.s, k, none⟩ (.bool false)).cell? ⟨b.c, 2, none⟩ = some (.slice (some ⟨b.k, 0, none⟩) n n) := ⟨h1.c1, h1.c2⟩
  refine ⟨hS, ?_⟩
  (try simp only [Act.put, List.getElem_toArray, List.getElem_cons_zero, List.getElem_cons_succ, List.setIfInBounds_toArray, List.set_cons_zero, List.set_cons_succ])
  refine anyH_pure 12 _ ?_ rfl (by kernel_rfl) (by kernel_rfl) (by kernel_rfl) (fun _ _ _ h => h) rfl ?_ hS ?_
  rotate_left
  · (intro w'; go_simp; (try with_reducible rfl))
  (try simp only [Act.put, List.getElem_toArray, List.getElem_cons_zero, List.getElem_cons_succ, List.setIfInBounds_toArray, List.set_cons_zero, List.set_cons_succ])
  have h2 := h1.setCold k false
  have f2 := h1.frK k (.bool false)
  refine anyH_one 13 _ (by kernel_rfl) rfl rfl (wp_store_one 4 _ _ rfl ⟨b.k, k, none⟩ _ (.bool false) rfl rfl size4 rfl (h1.vk hk) (h1.k.free k) ?_)
  refine ⟨⟨h2.c1, h2.c2⟩, ?_⟩
  (try simp only [Act.put, List.getElem_toArray, List.getElem_cons_zero, List.getElem_cons_succ, List.setIfInBounds_toArray, List.set_cons_zero, List.set_cons_succ])
  refine wpAnyH_done (by kernel_rfl) ?_ _
  go_wp2_with fail
  go_end0
  exact ⟨rfl, h2, (((Fr.refl _ w).drew).trans f1 fun _ _ h => h).trans f2 fun _ _ h => h⟩
set_option maxRecDepth 100000 in
set_option maxHeartbeats 1000000 in
theorem unpin_in {w : World} {b : Bl} {n : Nat} {C : P.Ck} (h : CS w b n C) (k : Nat) (hk : k < n) (hp : 0 ≤ C.pins k ∧ C.pins k ≤ 1000) :
    Calls Try.prog 19 #[.pointer (some ⟨b.c, 0, none⟩), .int .i64 k] w fun e w' => e = .returned (.bool !(C.pins k == 0)) ∧ Turned b n w (if C.pins k = 0 then C else { C with pins := P.upd C.pins k (C.pins k - 1) }) w' := by
  have c3 := h.c3
  have cp := h.vp hk
  have fp := h.p.free k
  obtain ⟨p0, p1⟩ := hp
  have hb := Lib.hid (hasB_yes (n := n) (i := (k : Int)) (by omega))
  by_cases hz : C.pins k = 0
  · rw [if_pos hz]
    have hz1 : (C.pins k == 0) = true := by simp [hz]
    rw [hz1]
    rw [hz] at cp
    clear hz hz1 p0 p1
    go_enter Try.func19, Try.ntmps19
    go_wp2_with fail
    refine (has_any h k).mono ?_
    rintro e w' ⟨rfl, rfl⟩
    rw [hb.out]
    go_wp2_with fail
    go_ret
    exact ⟨rfl, h, Fr.refl _ _⟩
  · rw [if_neg hz]
    have hz1 : (C.pins k == 0) = false := by simp [hz]
    rw [hz1]
    have hs := Lib.hid (h.setPins k (C.pins k - 1))
    generalize C.pins k = x at *
    have hx : 1 ≤ x := by omega
    clear hz
    go_enter Try.func19, Try.ntmps19
    go_wp2_with fail
    refine (has_any h k).mono ?_
    rintro e w' ⟨rfl, rfl⟩
    rw [hb.out]
    go_wp2_with fail
    go_ret
    exact ⟨rfl, hs.out, h.frP k _⟩
set_option maxRecDepth 100000 in
set_option maxHeartbeats 1000000 in
theorem next_any {w : World} {b : Bl} {n : Nat} {C : P.Ck} (h : CS w b n C) :
    Calls Try.prog 23 #[.pointer (some ⟨b.c, 0, none⟩)] w fun e w' => e = .returned (.int .i64 C.h) ∧ Turned b n w { C with h := P.nx n C.h } w' := by
  have c0 := h.c0
  have f0 := h.c.free 0
  have hh := h.h
  have h64 := h.n64
  have k3 : (w.setCell ⟨b.c, 0, none⟩ (.int .i64 ((C.h : Int) + 1))).cell? ⟨b.c, 3, none⟩ = some (.slice (some ⟨b.p, 0, none⟩) n n) := by
    rw [h.c.setCell, (h.c.setRow _).cell]; rfl
  have k0 : (w.setCell ⟨b.c, 0, none⟩ (.int .i64 ((C.h : Int) + 1))).cell? ⟨b.c, 0, none⟩ = some (.int .i64 ((C.h : Int) + 1)) := by
    rw [h.c.setCell, (h.c.setRow _).cell]; rfl
  have kf : (w.setCell ⟨b.c, 0, none⟩ (.int .i64 ((C.h : Int) + 1))).frozen? ⟨b.c, 0, none⟩ = false := by
    rw [h.c.setCell, (h.c.setRow _).free]
  by_cases he : C.h + 1 = n
  · have hn0 := Lib.hid (show P.nx n C.h = 0 by unfold P.nx; rw [if_pos he])
    have hb : ((C.h : Int) + 1 == (n : Int)) = true := by rw [beq_iff_eq]; omega
    have hfin : CS ((w.setCell ⟨b.c, 0, none⟩ (.int .i64 ((C.h : Int) + 1))).setCell ⟨b.c, 0, none⟩ (.int .i64 0)) b n { C with h := 0 } := by
      have : (w.setCell ⟨b.c, 0, none⟩ (.int .i64 ((C.h : Int) + 1))).setCell ⟨b.c, 0, none⟩ (.int .i64 0) = w.setCell ⟨b.c, 0, none⟩ (.int .i64 0) := by
        rw [h.c.setCell, h.c.setCell, (h.c.setRow _).setCell]
        simp [setRow_setRow]
      rw [this]
      exact h.setHand 0 (by omega)
    have hfr := ((h.frC 0 (.int .i64 ((C.h : Int) + 1))).setCell ⟨b.c, 0, none⟩ (.int .i64 0) fun _ => .inl rfl)
    have HF := Lib.hid (And.intro hfin hfr)
    clear hfin hfr he
    go_enter Try.func23, Try.ntmps23
    go_wp2_with fail
    generalize w.setCell ⟨b.c, 0, none⟩ (.int .i64 ((C.h : Int) + 1)) = w1 at *
    go_quiet (fail)
    go_wp2_with fail
    go_ret
    rw [hn0.out]
    exact ⟨rfl, HF.out.1.drewN nq, HF.out.2.drewN nq⟩
  · have hn0 := Lib.hid (show P.nx n C.h = C.h + 1 by unfold P.nx; rw [if_neg he])
    have hb : ((C.h : Int) + 1 == (n : Int)) = false := by rw [beq_eq_false_iff_ne]; omega
    have HF := Lib.hid (And.intro (h.setHand (C.h + 1) (by omega)) (h.frC 0 (.int .i64 ((C.h + 1 : Nat) : Int))))
    rw [show ((C.h + 1 : Nat) : Int) = (C.h : Int) + 1 from rfl] at HF
    clear he
    go_enter Try.func23, Try.ntmps23
    go_wp2_with fail
    generalize w.setCell ⟨b.c, 0, none⟩ (.int .i64 ((C.h : Int) + 1)) = w1 at *
    go_quiet (fail)
    go_wp2_with fail
    go_ret
    rw [hn0.out]
    exact ⟨rfl, HF.out.1.drewN nq, HF.out.2.drewN nq⟩
end Go.Proofs.Ytbibfoahlieccaa
