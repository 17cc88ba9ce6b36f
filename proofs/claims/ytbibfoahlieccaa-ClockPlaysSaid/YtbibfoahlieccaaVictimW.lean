/- The walks of clock's Victim and New. -/
import Derived.Test.YtbibfoahlieccaaClock2W
namespace Go.Proofs.Ytbibfoahlieccaa
open Go.RowKit
set_option linter.unusedSimpArgs false
set_option linter.unusedVariables false
theorem ret_pair {a b : Int} {c d : Bool} (h : b = a) (h2 : d = c) : Ending.returned (.tuple #[.int .i64 a, .bool c]) = .returned (.tuple #[.int .i64 b, .bool d]) := by rw [h, h2]
set_option maxRecDepth 100000 in
set_option maxHeartbeats 4000000 in
theorem victim_any {w : World} {b : Bl} {n : Nat} {C : P.Ck} (h : CS w b n C) (hp : ∀ j, 0 ≤ C.pins j) :
    Calls Try.prog 16 #[.pointer (some ⟨b.c, 0, none⟩)] w fun e w' => e = .returned (.tuple #[.int .i64 (P.vic n C).2.1, .bool (P.vic n C).2.2]) ∧ Turned b n w (P.vic n C).1 w' := by
  have c3 := h.c3
  have hn64 := h.n64
  have HP := Lib.hid hp
  clear hp
  go_enter Try.func16, Try.ntmps16
  go_wp2_with fail
  clear c3
  go_loopw [13] (fun i wr => ∃ k h' : Nat, i = .int .i64 k ∧ k ≤ n ∧ Turned b n w { C with h := h' } wr ∧ Hid (P.vic1 n C (n - k) h' = P.vic1 n C n C.h)) (fun i _ => n - (intOf i).toNat)
  case atStart => exact ⟨0, C.h, rfl, by omega, ⟨h, Fr.refl _ _⟩, rfl⟩
  case round =>
    obtain ⟨k, h', rfl, hk, ⟨hC, hF⟩, hv⟩ := hrel
    have hh : h' < n := hC.h
    by_cases hlt : k < n
    · have hstep : Hid (P.vic1 n C (n - k) h' = if P.hit C h' = true then (some h', P.nx n h') else P.vic1 n C (n - (k + 1)) (P.nx n h')) := by
        unfold Hid; rw [show n - k = (n - (k + 1)) + 1 by omega]; rfl
      go_wp2_with fail
      refine (next_any hC).mono ?_
      rintro e w1 ⟨rfl, hC1, hF1⟩
      have hF2 := hF.trans hF1 fun _ _ h => h
      have c2 := hC1.c2
      have c3 := hC1.c3
      have ck : w1.cell? ⟨b.k, h', none⟩ = some (.bool (C.cold h')) := hC1.vk hh
      have cp : w1.cell? ⟨b.p, h', none⟩ = some (.int .i64 (C.pins h')) := hC1.vp hh
      cases hcold : C.cold h' with
      | false =>
        have hit0 : P.hit C h' = false := by simp [P.hit, hcold]
        rw [hcold] at ck
        have hv2 : Hid (P.vic1 n C (n - (k + 1)) (P.nx n h') = P.vic1 n C n C.h) := by
          unfold Hid; rw [← hv.out, hstep.out, hit0]; rfl
        clear hcold hit0 cp
        go_wp2_with fail
        go_roundw
        case rel => exact ⟨k + 1, P.nx n h', by go_num, by omega, ⟨hC1, hF2⟩, hv2⟩
        case measure => simp [intOf]; omega
      | true =>
        rw [hcold] at ck
        by_cases hz : C.pins h' = 0
        · have hit0 : P.hit C h' = true := by simp [P.hit, hcold, hz]
          rw [hz] at cp
          have hv2 : Hid (P.vic n C = ({ C with h := P.nx n h' }, (h' : Int), true)) := by
            unfold Hid P.vic; rw [← hv.out, hstep.out, hit0]; rfl
          clear hcold hz hit0
          go_wp2_with fail
          go_ret2
          refine ⟨ret_pair (by rw [hv2.out]) (by rw [hv2.out]), ?_, hF2⟩
          rw [hv2.out]; exact hC1
        · have hit0 : P.hit C h' = false := by simp [P.hit, hz]
          have hb : (C.pins h' == 0) = false := by simp [hz]
          have hv2 : Hid (P.vic1 n C (n - (k + 1)) (P.nx n h') = P.vic1 n C n C.h) := by
            unfold Hid; rw [← hv.out, hstep.out, hit0]; rfl
          clear hcold hz hit0
          go_wp2_with fail
          go_roundw
          case rel => exact ⟨k + 1, P.nx n h', by go_num, by omega, ⟨hC1, hF2⟩, hv2⟩
          case measure => simp [intOf]; omega
    · obtain rfl : k = n := by omega
      have hv2 : Hid (P.vic1 k C k C.h = (none, h')) := by unfold Hid; rw [← hv.out, Nat.sub_self]; rfl
      have c3 := hC.c3
      clear hv
      go_wp2_with fail
      clear c3
      have HC := Lib.hid (And.intro hC hF)
      clear hC hF
      go_loopw [42] (fun i wq => ∃ (q g : Nat) (s : Nat → Bool), i = .int .i64 q ∧ q ≤ 2 * k ∧ Turned b k w { C with h := g, seen := s } wq ∧ Hid (P.vic2 k C.pins (2 * k - q) g s = P.vic2 k C.pins (2 * k) h' C.seen)) (fun i _ => 2 * k - (intOf i).toNat)
      case atStart => exact ⟨0, h', C.seen, rfl, by omega, ⟨HC.out.1, HC.out.2⟩, rfl⟩
      case round =>
        clear HC
        obtain ⟨q, g, s, rfl, hq, ⟨hC, hF⟩, hv⟩ := hrel
        have hg : g < k := hC.h
        by_cases hlt : q < 2 * k
        · have hstep : Hid (P.vic2 k C.pins (2 * k - q) g s = if 0 < C.pins g then P.vic2 k C.pins (2 * k - (q + 1)) (P.nx k g) s else if s g = true then P.vic2 k C.pins (2 * k - (q + 1)) (P.nx k g) (P.upd s g false) else (some g, P.nx k g, s)) := by
            unfold Hid; rw [show 2 * k - q = (2 * k - (q + 1)) + 1 by omega]; rfl
          have hlt' : (q : Int) < 2 * (k : Int) := by omega
          go_wp2_with fail
          refine (next_any hC).mono ?_
          rintro e w1 ⟨rfl, hC1, hF1⟩
          have hF2 := hF.trans hF1 fun _ _ h => h
          have c1 := hC1.c1
          have c3 := hC1.c3
          have cs : w1.cell? ⟨b.s, g, none⟩ = some (.bool (s g)) := hC1.vs hg
          have fs := hC1.s.free g
          have cp : w1.cell? ⟨b.p, g, none⟩ = some (.int .i64 (C.pins g)) := hC1.vp hg
          have p0 := HP.out g
          by_cases hz : 0 < C.pins g
          · have hv2 : Hid (P.vic2 k C.pins (2 * k - (q + 1)) (P.nx k g) s = P.vic2 k C.pins (2 * k) h' C.seen) := by
              unfold Hid; rw [← hv.out, hstep.out, if_pos hz]
            go_wp2_with fail
            go_roundw
            case rel => exact ⟨q + 1, P.nx k g, s, by go_num, by omega, ⟨hC1, hF2⟩, hv2⟩
            case measure => simp [intOf]; omega
          · have hz2 : C.pins g ≤ 0 := by omega
            cases hs : s g with
            | true =>
              rw [hs] at cs
              have hv2 : Hid (P.vic2 k C.pins (2 * k - (q + 1)) (P.nx k g) (P.upd s g false) = P.vic2 k C.pins (2 * k) h' C.seen) := by
                unfold Hid; rw [← hv.out, hstep.out, if_neg hz, if_pos hs]
              have HF := Lib.hid (And.intro (hC1.setSeen g false) (hF2.setCell ⟨b.s, g, none⟩ (.bool false) fun _ => .inr (.inl rfl)))
              clear hs hz
              go_wp2_with fail
              go_roundw
              case rel => exact ⟨q + 1, P.nx k g, P.upd s g false, by go_num, by omega, ⟨HF.out.1, HF.out.2⟩, hv2⟩
              case measure => simp [intOf]; omega
            | false =>
              rw [hs] at cs
              have hv3 : Hid (P.vic k C = ({ C with h := P.nx k g, seen := s }, (g : Int), true)) := by
                unfold Hid P.vic; rw [hv2.out]; simp only []; rw [← hv.out, hstep.out, if_neg hz, if_neg (by simp [hs])]
              clear hs hz
              go_wp2_with fail
              go_ret2
              refine ⟨ret_pair (by rw [hv3.out]) (by rw [hv3.out]), ?_, hF2⟩
              rw [hv3.out]; exact hC1
        · obtain rfl : q = 2 * k := by omega
          have hv3 : Hid (P.vic k C = ({ C with h := g, seen := s }, 0, false)) := by
            unfold Hid P.vic; rw [hv2.out]; simp only []; rw [← hv.out, Nat.sub_self]; rfl
          clear hv
          go_wp2_with fail
          go_ret2
          refine ⟨ret_pair (by rw [hv3.out]) (by rw [hv3.out]), ?_, hF⟩
          rw [hv3.out]; exact hC

theorem info4 : (Try.prog.info? 4).map (fun i => (i.zero, i.size, i.bytes)) = some (some (.bool false), 1, 1) := by kernel_rfl
theorem info3 : (Try.prog.info? 3).map (fun i => (i.zero, i.size, i.bytes)) = some (some (.int .i64 0), 1, 8) := by kernel_rfl
/-- Which of the rows there are. -/
structure NB (w W : World) (n : Nat) (os ok op : Option Nat) : Prop where
  below : Below w.heap.size w W
  s : ∀ c, os = some c → Blk W c (rowV n (fun _ => .bool false)) 4 ∧ w.heap.size ≤ c
  k : ∀ c, ok = some c → Blk W c (rowV n (fun _ => .bool false)) 4 ∧ w.heap.size ≤ c
  p : ∀ c, op = some c → Blk W c (rowV n (fun _ => .int .i64 0)) 3 ∧ w.heap.size ≤ c
  sk : ∀ c d, os = some c → ok = some d → c ≠ d
  sp : ∀ c d, os = some c → op = some d → c ≠ d
  kp : ∀ c d, ok = some c → op = some d → c ≠ d
theorem NB.go {w W W' : World} {n : Nat} {os ok op : Option Nat} (h : NB w W n os ok op) (k : Below W.heap.size W W') : NB w W' n os ok op :=
  ⟨h.below.trans (k.mono h.below.size), fun c hc => ⟨(h.s c hc).1.below k, (h.s c hc).2⟩, fun c hc => ⟨(h.k c hc).1.below k, (h.k c hc).2⟩, fun c hc => ⟨(h.p c hc).1.below k, (h.p c hc).2⟩, h.sk, h.sp, h.kp⟩
theorem NB.newS {w W : World} {n : Nat} {ok op : Option Nat} (h : NB w W n none ok op) : NB w (W.alloc (.cells (rowV n (fun _ => .bool false)) 4)) n (some W.heap.size) ok op := by
  have h' := h.go (W' := W.alloc (.cells (rowV n (fun _ => .bool false)) 4)) ((Below.refl _ _).alloc (Nat.le_refl _) _)
  refine ⟨h'.below, fun c hc => ?_, h'.k, h'.p, fun c d hc hd => ?_, fun c d hc hd => ?_, h'.kp⟩
  · obtain rfl := Option.some.inj hc; exact ⟨Blk.alloc_new _ _ _, h.below.size⟩
  · obtain rfl := Option.some.inj hc; have := (h.k d hd).1.lt; omega
  · obtain rfl := Option.some.inj hc; have := (h.p d hd).1.lt; omega
theorem NB.newK {w W : World} {n : Nat} {os op : Option Nat} (h : NB w W n os none op) : NB w (W.alloc (.cells (rowV n (fun _ => .bool false)) 4)) n os (some W.heap.size) op := by
  have h' := h.go (W' := W.alloc (.cells (rowV n (fun _ => .bool false)) 4)) ((Below.refl _ _).alloc (Nat.le_refl _) _)
  refine ⟨h'.below, h'.s, fun c hc => ?_, h'.p, fun c d hc hd => ?_, h'.sp, fun c d hc hd => ?_⟩
  · obtain rfl := Option.some.inj hc; exact ⟨Blk.alloc_new _ _ _, h.below.size⟩
  · obtain rfl := Option.some.inj hd; have := (h.s c hc).1.lt; omega
  · obtain rfl := Option.some.inj hc; have := (h.p d hd).1.lt; omega
theorem NB.newP {w W : World} {n : Nat} {os ok : Option Nat} (h : NB w W n os ok none) : NB w (W.alloc (.cells (rowV n (fun _ => .int .i64 0)) 3)) n os ok (some W.heap.size) := by
  have h' := h.go (W' := W.alloc (.cells (rowV n (fun _ => .int .i64 0)) 3)) ((Below.refl _ _).alloc (Nat.le_refl _) _)
  refine ⟨h'.below, h'.s, h'.k, fun c hc => ?_, h'.sk, fun c d hc hd => ?_, fun c d hc hd => ?_⟩
  · obtain rfl := Option.some.inj hc; exact ⟨Blk.alloc_new _ _ _, h.below.size⟩
  · obtain rfl := Option.some.inj hd; have := (h.s c hc).1.lt; omega
  · obtain rfl := Option.some.inj hd; have := (h.k c hc).1.lt; omega
/-- The clock that is made of three rows. -/
theorem NB.made {w W : World} {n s k p : Nat} (h : NB w W n (some s) (some k) (some p)) (h1 : 1 ≤ n) (h64 : n ≤ 64) :
    CS (W.alloc (.cells #[.int .i64 0, .slice (some ⟨s, 0, none⟩) n n, .slice (some ⟨k, 0, none⟩) n n, .slice (some ⟨p, 0, none⟩) n n] 45)) ⟨W.heap.size, s, k, p⟩ n P.new ∧
      Below w.heap.size w (W.alloc (.cells #[.int .i64 0, .slice (some ⟨s, 0, none⟩) n n, .slice (some ⟨k, 0, none⟩) n n, .slice (some ⟨p, 0, none⟩) n n] 45)) ∧ ∀ i, (Bl.foot ⟨W.heap.size, s, k, p⟩) i → w.heap.size ≤ i := by
  obtain ⟨hs, bs⟩ := h.s s rfl
  obtain ⟨hk, bk⟩ := h.k k rfl
  obtain ⟨hp, bp⟩ := h.p p rfl
  have ls := hs.lt
  have lk := hk.lt
  have lp := hp.lt
  refine ⟨⟨Blk.alloc_new _ _ _, hs.alloc _, hk.alloc _, hp.alloc _, ⟨?_, ?_, ?_, h.sk _ _ rfl rfl, h.sp _ _ rfl rfl, h.kp _ _ rfl rfl⟩, by show 0 < n; omega, h64⟩, h.below.alloc h.below.size _, ?_⟩
  · show W.heap.size ≠ s; omega
  · show W.heap.size ≠ k; omega
  · show W.heap.size ≠ p; omega
  · rintro i (rfl | rfl | rfl | rfl)
    · exact h.below.size
    · exact bs
    · exact bk
    · exact bp
section
variable {P : Program} {ops : Array Oper} {Q : Exit → Act → World → Prop} {S : World → Prop} {fuel : Nat} {listed : Array Bool} {a : Act} {w : World} {K : Act → World → Prop}
theorem anyH_all1 (i : Nat) (hr : Region.ready .any ops listed = [i]) (h : wpOp P ops Q i (fun a' w' => S w' ∧ wpAnyH P .any ops Q S fuel (listed.setIfInBounds i true) a' w') a w) : wpAnyH P .any ops Q S (fuel + 1) listed a w :=
  wpAnyH_all hr (by simp) fun j hj => by obtain rfl : j = i := by simpa using hj
                                         exact h
theorem anyH_all2 (i k : Nat) (hr : Region.ready .any ops listed = [i, k]) (h : wpOp P ops Q i (fun a' w' => S w' ∧ wpAnyH P .any ops Q S fuel (listed.setIfInBounds i true) a' w') a w)
    (h2 : wpOp P ops Q k (fun a' w' => S w' ∧ wpAnyH P .any ops Q S fuel (listed.setIfInBounds k true) a' w') a w) : wpAnyH P .any ops Q S (fuel + 1) listed a w :=
  wpAnyH_all hr (by simp) fun j hj => by
    rcases (by simpa using hj : j = i ∨ j = k) with rfl | rfl
    · exact h
    · exact h2
theorem anyH_all3 (i k l : Nat) (hr : Region.ready .any ops listed = [i, k, l]) (h : wpOp P ops Q i (fun a' w' => S w' ∧ wpAnyH P .any ops Q S fuel (listed.setIfInBounds i true) a' w') a w)
    (h2 : wpOp P ops Q k (fun a' w' => S w' ∧ wpAnyH P .any ops Q S fuel (listed.setIfInBounds k true) a' w') a w) (h3 : wpOp P ops Q l (fun a' w' => S w' ∧ wpAnyH P .any ops Q S fuel (listed.setIfInBounds l true) a' w') a w) : wpAnyH P .any ops Q S (fuel + 1) listed a w :=
  wpAnyH_all hr (by simp) fun j hj => by
    rcases (by simpa using hj : j = i ∨ j = k ∨ j = l) with rfl | rfl | rfl
    · exact h
    · exact h2
    · exact h3
theorem wpOp_run (i : Nat) (o : Oper) (v : Value) (w' : World) (hi : ops[i]? = some o) (hw : Region.wanted o (yielded ops a.tmps) = true) (hrun : (execOp a.eval o).run P w = .ok (.value v) w')
    (h : K (a.put o.dst v) w') : wpOp P ops Q i K a w := by
  unfold wpOp
  rw [hi]
  simp only [hw, if_true]
  refine .inl ?_
  unfold Oper.wp
  rw [hrun]
  exact h
end
theorem run_row {w : World} {t e : TypeId} {z : Value} {by_ : Nat} (ht : Try.prog.underlying t = some (.slice e)) (hi : (Try.prog.info? e).map (fun i => (i.zero, i.size, i.bytes)) = some (some z, 1, by_)) (hz : z.cells = #[z]) (n : Nat) (hn : n ≤ 64) (hb : by_ ≤ 8) :
    (Instr.makeSlice t (.int .i64 n) (.int .i64 n)).run Try.prog w = .ok (.slice (some ⟨w.heap.size, 0, none⟩) n n) (w.alloc (.cells (rowV n fun _ => z) e)) := by
  obtain ⟨i, hi0, hi1, hi2, hi3⟩ := info_parts hi
  have hm : (i.bytes : Int) * (n : Int) ≤ 281474976710656 := by
    rw [hi3]
    have h512 : by_ * n ≤ 512 := Nat.mul_le_mul hb hn
    have h2 : ((by_ * n : Nat) : Int) ≤ 512 := by omega
    rw [Int.natCast_mul] at h2
    exact Int.le_trans h2 (by decide)
  rw [run_make w t e i z ht hi0 hi1 .i64 .i64 n n (by omega) (Int.le_refl _) hm (by omega)]
  rw [show ((n : Int)).toNat = n from rfl, hi2, Nat.mul_one, hz, rowV_made]
set_option maxRecDepth 100000 in
set_option maxHeartbeats 4000000 in
theorem new_in (n : Nat) (w : World) (h1 : 1 ≤ n) (h64 : n ≤ 64) :
    Calls Try.prog 8 #[.int .i64 n] w fun e w' => ∃ b : Bl, e = .returned (.pointer (some ⟨b.c, 0, none⟩)) ∧ CS w' b n P.new ∧ Below w.heap.size w w' ∧ ∀ i, b.foot i → w.heap.size ≤ i := by
  go_enter Try.func8, Try.ntmps8
  go_wp2_with fail
  refine wp_region_held (S := (fun _ => True)) (by kernel_rfl) ?_
  change wpAnyH _ _ _ _ _ _ _ _ w.drew
  (try simp only [Act.put])
  have hF : NB w w.drew n none none none := ⟨(Below.refl _ _).drew, (fun c hc => by cases hc), (fun c hc => by cases hc), (fun c hc => by cases hc), (fun c d hc => by cases hc), (fun c d hc => by cases hc), (fun c d hc => by cases hc)⟩
  have hS : True := trivial
  refine anyH_pure 0 _ ?_ rfl (by kernel_rfl) (by kernel_rfl) (by kernel_rfl) (fun _ _ _ h => h) rfl ?_ hS ?_
  rotate_left
  · (intro w'; go_simp; (try with_reducible rfl))
  (try simp only [Act.put, List.getElem_toArray, List.getElem_cons_zero, List.setIfInBounds_toArray, List.set_cons_zero, List.set_cons_succ])
  refine anyH_pure 2 _ ?_ rfl (by kernel_rfl) (by kernel_rfl) (by kernel_rfl) (fun _ _ _ h => h) rfl ?_ hS ?_
  rotate_left
  · (intro w'; go_simp; (try with_reducible rfl))
  (try simp only [Act.put, List.getElem_toArray, List.getElem_cons_zero, List.getElem_cons_succ, List.setIfInBounds_toArray, List.set_cons_zero, List.set_cons_succ])
  refine anyH_pure 4 _ ?_ rfl (by kernel_rfl) (by kernel_rfl) (by kernel_rfl) (fun _ _ _ h => h) rfl ?_ hS ?_
  rotate_left
  · (intro w'; go_simp; (try with_reducible rfl))
  (try simp only [Act.put, List.getElem_toArray, List.getElem_cons_zero, List.getElem_cons_succ, List.setIfInBounds_toArray, List.set_cons_zero, List.set_cons_succ])
  generalize w.drew = W1 at *
  refine anyH_all3 1 3 5 (by kernel_rfl) ?_ ?_ ?_
  · skip
    refine wpOp_run 1 _ _ _ rfl rfl (by go_simp; rw [run_row Try.underlying40 info4 rfl n h64 (by omega)]; rfl) ?_
    replace hF := hF.newS
    refine ⟨trivial, ?_⟩
    (try simp only [Act.put, List.getElem_toArray, List.getElem_cons_zero, List.getElem_cons_succ, List.setIfInBounds_toArray, List.set_cons_zero, List.set_cons_succ])
    generalize World.alloc W1 (.cells (rowV n fun _ => .bool false) 4) = W2 at *
    generalize W1.heap.size = sb at *
    refine anyH_all2 3 5 (by kernel_rfl) ?_ ?_
    · skip
      refine wpOp_run 3 _ _ _ rfl rfl (by go_simp; rw [run_row Try.underlying40 info4 rfl n h64 (by omega)]; rfl) ?_
      replace hF := hF.newK
      refine ⟨trivial, ?_⟩
      (try simp only [Act.put, List.getElem_toArray, List.getElem_cons_zero, List.getElem_cons_succ, List.setIfInBounds_toArray, List.set_cons_zero, List.set_cons_succ])
      generalize World.alloc W2 (.cells (rowV n fun _ => .bool false) 4) = W3 at *
      generalize W2.heap.size = kb at *
      refine anyH_all1 5 (by kernel_rfl) ?_
      refine wpOp_run 5 _ _ _ rfl rfl (by go_simp; rw [run_row Try.underlying42 info3 rfl n h64 (by omega)]; rfl) ?_
      replace hF := hF.newP
      refine ⟨trivial, ?_⟩
      (try simp only [Act.put, List.getElem_toArray, List.getElem_cons_zero, List.getElem_cons_succ, List.setIfInBounds_toArray, List.set_cons_zero, List.set_cons_succ])
      generalize World.alloc W3 (.cells (rowV n fun _ => .int .i64 0) 3) = W4 at *
      generalize W3.heap.size = pb at *
      refine anyH_pure 6 _ ?_ rfl (by kernel_rfl) (by kernel_rfl) (by kernel_rfl) (fun _ _ _ h => h) rfl ?_ hS ?_
      rotate_left
      · (intro w'; go_simp; (try with_reducible rfl))
      (try simp only [Act.put, List.getElem_toArray, List.getElem_cons_zero, List.getElem_cons_succ, List.setIfInBounds_toArray, List.set_cons_zero, List.set_cons_succ])
      obtain ⟨hC, hB, hL⟩ := hF.made h1 h64
      refine anyH_all1 7 (by kernel_rfl) ?_
      refine wpOp_run 7 _ _ _ rfl rfl (by go_simp; exact ⟨rfl, rfl⟩) ?_
      refine ⟨trivial, ?_⟩
      (try simp only [Act.put, List.getElem_toArray, List.getElem_cons_zero, List.getElem_cons_succ, List.setIfInBounds_toArray, List.set_cons_zero, List.set_cons_succ])
      refine anyH_pure 8 _ ?_ rfl (by kernel_rfl) (by kernel_rfl) (by kernel_rfl) (fun _ _ _ h => h) rfl ?_ hS ?_
      rotate_left
      · (intro w'; go_simp; (try with_reducible rfl))
      (try simp only [Act.put, List.getElem_toArray, List.getElem_cons_zero, List.getElem_cons_succ, List.setIfInBounds_toArray, List.set_cons_zero, List.set_cons_succ])
      refine wpAnyH_done (by kernel_rfl) ?_ _
      go_wp2_with fail
      go_ret
      exact ⟨⟨_, _, _, _⟩, rfl, hC, hB, hL⟩
    · skip
      refine wpOp_run 5 _ _ _ rfl rfl (by go_simp; rw [run_row Try.underlying42 info3 rfl n h64 (by omega)]; rfl) ?_
      replace hF := hF.newP
      refine ⟨trivial, ?_⟩
      (try simp only [Act.put, List.getElem_toArray, List.getElem_cons_zero, List.getElem_cons_succ, List.setIfInBounds_toArray, List.set_cons_zero, List.set_cons_succ])
      generalize World.alloc W2 (.cells (rowV n fun _ => .int .i64 0) 3) = W3 at *
      generalize W2.heap.size = pb at *
      refine anyH_all1 3 (by kernel_rfl) ?_
      refine wpOp_run 3 _ _ _ rfl rfl (by go_simp; rw [run_row Try.underlying40 info4 rfl n h64 (by omega)]; rfl) ?_
      replace hF := hF.newK
      refine ⟨trivial, ?_⟩
      (try simp only [Act.put, List.getElem_toArray, List.getElem_cons_zero, List.getElem_cons_succ, List.setIfInBounds_toArray, List.set_cons_zero, List.set_cons_succ])
      generalize World.alloc W3 (.cells (rowV n fun _ => .bool false) 4) = W4 at *
      generalize W3.heap.size = kb at *
      refine anyH_pure 6 _ ?_ rfl (by kernel_rfl) (by kernel_rfl) (by kernel_rfl) (fun _ _ _ h => h) rfl ?_ hS ?_
      rotate_left
      · (intro w'; go_simp; (try with_reducible rfl))
      (try simp only [Act.put, List.getElem_toArray, List.getElem_cons_zero, List.getElem_cons_succ, List.setIfInBounds_toArray, List.set_cons_zero, List.set_cons_succ])
      obtain ⟨hC, hB, hL⟩ := hF.made h1 h64
      refine anyH_all1 7 (by kernel_rfl) ?_
      refine wpOp_run 7 _ _ _ rfl rfl (by go_simp; exact ⟨rfl, rfl⟩) ?_
      refine ⟨trivial, ?_⟩
      (try simp only [Act.put, List.getElem_toArray, List.getElem_cons_zero, List.getElem_cons_succ, List.setIfInBounds_toArray, List.set_cons_zero, List.set_cons_succ])
      refine anyH_pure 8 _ ?_ rfl (by kernel_rfl) (by kernel_rfl) (by kernel_rfl) (fun _ _ _ h => h) rfl ?_ hS ?_
      rotate_left
      · (intro w'; go_simp; (try with_reducible rfl))
      (try simp only [Act.put, List.getElem_toArray, List.getElem_cons_zero, List.getElem_cons_succ, List.setIfInBounds_toArray, List.set_cons_zero, List.set_cons_succ])
      refine wpAnyH_done (by kernel_rfl) ?_ _
      go_wp2_with fail
      go_ret
      exact ⟨⟨_, _, _, _⟩, rfl, hC, hB, hL⟩
  · skip
    refine wpOp_run 3 _ _ _ rfl rfl (by go_simp; rw [run_row Try.underlying40 info4 rfl n h64 (by omega)]; rfl) ?_
    replace hF := hF.newK
    refine ⟨trivial, ?_⟩
    (try simp only [Act.put, List.getElem_toArray, List.getElem_cons_zero, List.getElem_cons_succ, List.setIfInBounds_toArray, List.set_cons_zero, List.set_cons_succ])
    generalize World.alloc W1 (.cells (rowV n fun _ => .bool false) 4) = W2 at *
    generalize W1.heap.size = kb at *
    refine anyH_all2 1 5 (by kernel_rfl) ?_ ?_
    · skip
      refine wpOp_run 1 _ _ _ rfl rfl (by go_simp; rw [run_row Try.underlying40 info4 rfl n h64 (by omega)]; rfl) ?_
      replace hF := hF.newS
      refine ⟨trivial, ?_⟩
      (try simp only [Act.put, List.getElem_toArray, List.getElem_cons_zero, List.getElem_cons_succ, List.setIfInBounds_toArray, List.set_cons_zero, List.set_cons_succ])
      generalize World.alloc W2 (.cells (rowV n fun _ => .bool false) 4) = W3 at *
      generalize W2.heap.size = sb at *
      refine anyH_all1 5 (by kernel_rfl) ?_
      refine wpOp_run 5 _ _ _ rfl rfl (by go_simp; rw [run_row Try.underlying42 info3 rfl n h64 (by omega)]; rfl) ?_
      replace hF := hF.newP
      refine ⟨trivial, ?_⟩
      (try simp only [Act.put, List.getElem_toArray, List.getElem_cons_zero, List.getElem_cons_succ, List.setIfInBounds_toArray, List.set_cons_zero, List.set_cons_succ])
      generalize World.alloc W3 (.cells (rowV n fun _ => .int .i64 0) 3) = W4 at *
      generalize W3.heap.size = pb at *
      refine anyH_pure 6 _ ?_ rfl (by kernel_rfl) (by kernel_rfl) (by kernel_rfl) (fun _ _ _ h => h) rfl ?_ hS ?_
      rotate_left
      · (intro w'; go_simp; (try with_reducible rfl))
      (try simp only [Act.put, List.getElem_toArray, List.getElem_cons_zero, List.getElem_cons_succ, List.setIfInBounds_toArray, List.set_cons_zero, List.set_cons_succ])
      obtain ⟨hC, hB, hL⟩ := hF.made h1 h64
      refine anyH_all1 7 (by kernel_rfl) ?_
      refine wpOp_run 7 _ _ _ rfl rfl (by go_simp; exact ⟨rfl, rfl⟩) ?_
      refine ⟨trivial, ?_⟩
      (try simp only [Act.put, List.getElem_toArray, List.getElem_cons_zero, List.getElem_cons_succ, List.setIfInBounds_toArray, List.set_cons_zero, List.set_cons_succ])
      refine anyH_pure 8 _ ?_ rfl (by kernel_rfl) (by kernel_rfl) (by kernel_rfl) (fun _ _ _ h => h) rfl ?_ hS ?_
      rotate_left
      · (intro w'; go_simp; (try with_reducible rfl))
      (try simp only [Act.put, List.getElem_toArray, List.getElem_cons_zero, List.getElem_cons_succ, List.setIfInBounds_toArray, List.set_cons_zero, List.set_cons_succ])
      refine wpAnyH_done (by kernel_rfl) ?_ _
      go_wp2_with fail
      go_ret
      exact ⟨⟨_, _, _, _⟩, rfl, hC, hB, hL⟩
    · skip
      refine wpOp_run 5 _ _ _ rfl rfl (by go_simp; rw [run_row Try.underlying42 info3 rfl n h64 (by omega)]; rfl) ?_
      replace hF := hF.newP
      refine ⟨trivial, ?_⟩
      (try simp only [Act.put, List.getElem_toArray, List.getElem_cons_zero, List.getElem_cons_succ, List.setIfInBounds_toArray, List.set_cons_zero, List.set_cons_succ])
      generalize World.alloc W2 (.cells (rowV n fun _ => .int .i64 0) 3) = W3 at *
      generalize W2.heap.size = pb at *
      refine anyH_all1 1 (by kernel_rfl) ?_
      refine wpOp_run 1 _ _ _ rfl rfl (by go_simp; rw [run_row Try.underlying40 info4 rfl n h64 (by omega)]; rfl) ?_
      replace hF := hF.newS
      refine ⟨trivial, ?_⟩
      (try simp only [Act.put, List.getElem_toArray, List.getElem_cons_zero, List.getElem_cons_succ, List.setIfInBounds_toArray, List.set_cons_zero, List.set_cons_succ])
      generalize World.alloc W3 (.cells (rowV n fun _ => .bool false) 4) = W4 at *
      generalize W3.heap.size = sb at *
      refine anyH_pure 6 _ ?_ rfl (by kernel_rfl) (by kernel_rfl) (by kernel_rfl) (fun _ _ _ h => h) rfl ?_ hS ?_
      rotate_left
      · (intro w'; go_simp; (try with_reducible rfl))
      (try simp only [Act.put, List.getElem_toArray, List.getElem_cons_zero, List.getElem_cons_succ, List.setIfInBounds_toArray, List.set_cons_zero, List.set_cons_succ])
      obtain ⟨hC, hB, hL⟩ := hF.made h1 h64
      refine anyH_all1 7 (by kernel_rfl) ?_
      refine wpOp_run 7 _ _ _ rfl rfl (by go_simp; exact ⟨rfl, rfl⟩) ?_
      refine ⟨trivial, ?_⟩
      (try simp only [Act.put, List.getElem_toArray, List.getElem_cons_zero, List.getElem_cons_succ, List.setIfInBounds_toArray, List.set_cons_zero, List.set_cons_succ])
      refine anyH_pure 8 _ ?_ rfl (by kernel_rfl) (by kernel_rfl) (by kernel_rfl) (fun _ _ _ h => h) rfl ?_ hS ?_
      rotate_left
      · (intro w'; go_simp; (try with_reducible rfl))
      (try simp only [Act.put, List.getElem_toArray, List.getElem_cons_zero, List.getElem_cons_succ, List.setIfInBounds_toArray, List.set_cons_zero, List.set_cons_succ])
      refine wpAnyH_done (by kernel_rfl) ?_ _
      go_wp2_with fail
      go_ret
      exact ⟨⟨_, _, _, _⟩, rfl, hC, hB, hL⟩
  · skip
    refine wpOp_run 5 _ _ _ rfl rfl (by go_simp; rw [run_row Try.underlying42 info3 rfl n h64 (by omega)]; rfl) ?_
    replace hF := hF.newP
    refine ⟨trivial, ?_⟩
    (try simp only [Act.put, List.getElem_toArray, List.getElem_cons_zero, List.getElem_cons_succ, List.setIfInBounds_toArray, List.set_cons_zero, List.set_cons_succ])
    generalize World.alloc W1 (.cells (rowV n fun _ => .int .i64 0) 3) = W2 at *
    generalize W1.heap.size = pb at *
    refine anyH_all2 1 3 (by kernel_rfl) ?_ ?_
    · skip
      refine wpOp_run 1 _ _ _ rfl rfl (by go_simp; rw [run_row Try.underlying40 info4 rfl n h64 (by omega)]; rfl) ?_
      replace hF := hF.newS
      refine ⟨trivial, ?_⟩
      (try simp only [Act.put, List.getElem_toArray, List.getElem_cons_zero, List.getElem_cons_succ, List.setIfInBounds_toArray, List.set_cons_zero, List.set_cons_succ])
      generalize World.alloc W2 (.cells (rowV n fun _ => .bool false) 4) = W3 at *
      generalize W2.heap.size = sb at *
      refine anyH_all1 3 (by kernel_rfl) ?_
      refine wpOp_run 3 _ _ _ rfl rfl (by go_simp; rw [run_row Try.underlying40 info4 rfl n h64 (by omega)]; rfl) ?_
      replace hF := hF.newK
      refine ⟨trivial, ?_⟩
      (try simp only [Act.put, List.getElem_toArray, List.getElem_cons_zero, List.getElem_cons_succ, List.setIfInBounds_toArray, List.set_cons_zero, List.set_cons_succ])
      generalize World.alloc W3 (.cells (rowV n fun _ => .bool false) 4) = W4 at *
      generalize W3.heap.size = kb at *
      refine anyH_pure 6 _ ?_ rfl (by kernel_rfl) (by kernel_rfl) (by kernel_rfl) (fun _ _ _ h => h) rfl ?_ hS ?_
      rotate_left
      · (intro w'; go_simp; (try with_reducible rfl))
      (try simp only [Act.put, List.getElem_toArray, List.getElem_cons_zero, List.getElem_cons_succ, List.setIfInBounds_toArray, List.set_cons_zero, List.set_cons_succ])
      obtain ⟨hC, hB, hL⟩ := hF.made h1 h64
      refine anyH_all1 7 (by kernel_rfl) ?_
      refine wpOp_run 7 _ _ _ rfl rfl (by go_simp; exact ⟨rfl, rfl⟩) ?_
      refine ⟨trivial, ?_⟩
      (try simp only [Act.put, List.getElem_toArray, List.getElem_cons_zero, List.getElem_cons_succ, List.setIfInBounds_toArray, List.set_cons_zero, List.set_cons_succ])
      refine anyH_pure 8 _ ?_ rfl (by kernel_rfl) (by kernel_rfl) (by kernel_rfl) (fun _ _ _ h => h) rfl ?_ hS ?_
      rotate_left
      · (intro w'; go_simp; (try with_reducible rfl))
      (try simp only [Act.put, List.getElem_toArray, List.getElem_cons_zero, List.getElem_cons_succ, List.setIfInBounds_toArray, List.set_cons_zero, List.set_cons_succ])
      refine wpAnyH_done (by kernel_rfl) ?_ _
      go_wp2_with fail
      go_ret
      exact ⟨⟨_, _, _, _⟩, rfl, hC, hB, hL⟩
    · skip
      refine wpOp_run 3 _ _ _ rfl rfl (by go_simp; rw [run_row Try.underlying40 info4 rfl n h64 (by omega)]; rfl) ?_
      replace hF := hF.newK
      refine ⟨trivial, ?_⟩
      (try simp only [Act.put, List.getElem_toArray, List.getElem_cons_zero, List.getElem_cons_succ, List.setIfInBounds_toArray, List.set_cons_zero, List.set_cons_succ])
      generalize World.alloc W2 (.cells (rowV n fun _ => .bool false) 4) = W3 at *
      generalize W2.heap.size = kb at *
      refine anyH_all1 1 (by kernel_rfl) ?_
      refine wpOp_run 1 _ _ _ rfl rfl (by go_simp; rw [run_row Try.underlying40 info4 rfl n h64 (by omega)]; rfl) ?_
      replace hF := hF.newS
      refine ⟨trivial, ?_⟩
      (try simp only [Act.put, List.getElem_toArray, List.getElem_cons_zero, List.getElem_cons_succ, List.setIfInBounds_toArray, List.set_cons_zero, List.set_cons_succ])
      generalize World.alloc W3 (.cells (rowV n fun _ => .bool false) 4) = W4 at *
      generalize W3.heap.size = sb at *
      refine anyH_pure 6 _ ?_ rfl (by kernel_rfl) (by kernel_rfl) (by kernel_rfl) (fun _ _ _ h => h) rfl ?_ hS ?_
      rotate_left
      · (intro w'; go_simp; (try with_reducible rfl))
      (try simp only [Act.put, List.getElem_toArray, List.getElem_cons_zero, List.getElem_cons_succ, List.setIfInBounds_toArray, List.set_cons_zero, List.set_cons_succ])
      obtain ⟨hC, hB, hL⟩ := hF.made h1 h64
      refine anyH_all1 7 (by kernel_rfl) ?_
      refine wpOp_run 7 _ _ _ rfl rfl (by go_simp; exact ⟨rfl, rfl⟩) ?_
      refine ⟨trivial, ?_⟩
      (try simp only [Act.put, List.getElem_toArray, List.getElem_cons_zero, List.getElem_cons_succ, List.setIfInBounds_toArray, List.set_cons_zero, List.set_cons_succ])
      refine anyH_pure 8 _ ?_ rfl (by kernel_rfl) (by kernel_rfl) (by kernel_rfl) (fun _ _ _ h => h) rfl ?_ hS ?_
      rotate_left
      · (intro w'; go_simp; (try with_reducible rfl))
      (try simp only [Act.put, List.getElem_toArray, List.getElem_cons_zero, List.getElem_cons_succ, List.setIfInBounds_toArray, List.set_cons_zero, List.set_cons_succ])
      refine wpAnyH_done (by kernel_rfl) ?_ _
      go_wp2_with fail
      go_ret
      exact ⟨⟨_, _, _, _⟩, rfl, hC, hB, hL⟩
theorem new_out (i : Int) (w : World) (h : i < 1 ∨ 64 < i) : Calls Try.prog 8 #[.int .i64 i] w fun e w' => e = .returned (.pointer none) ∧ w = w' := by
  rcases h with h | h
  · go_enter Try.func8, Try.ntmps8
    go_wp2_with fail
    go_ret
    exact ⟨rfl, rfl⟩
  · have h' : ¬ i < 1 := by omega
    have h'' : 1 ≤ i := by omega
    go_enter Try.func8, Try.ntmps8
    go_wp2_with fail
    go_ret
    exact ⟨rfl, rfl⟩
end Go.Proofs.Ytbibfoahlieccaa
