/- The walk of delta.Compose. -/
import Derived.Test.YtlnfolikociodaaClos23W
namespace Go.Proofs.Ytlnfolikociodaa
open Go.RowKit
set_option linter.unusedSimpArgs false
structure CoSt (w W : World) (b : Nat → BitVec 8) (T : Nat → Bool) : Prop where
  below : Below w.heap.size w W
  b : Blk W w.heap.size (row 64 b) 23
  m : ∃ m : BitVec 64, Blk W (w.heap.size + 1) #[.int .u64 (X m)] 49 ∧ ∀ j, j < 64 → m.getLsbD j = T j
theorem CoSt.start (w : World) : CoSt w ((w.alloc (.cells (row 64 fun _ => 0#8) 23)).alloc (.cells #[.int .u64 0] 49)) (fun _ => 0#8) (fun _ => false) where
  below := ((Below.refl _ _).alloc (Nat.le_refl _) _).alloc (by simp) _
  b := (Blk.alloc_new w _ _).alloc _
  m := by
    have h := Blk.alloc_new (w.alloc (.cells (row 64 fun _ => 0#8) 23)) #[.int .u64 0] 49
    rw [show (w.alloc (.cells (row 64 fun _ => 0#8) 23)).heap.size = w.heap.size + 1 by simp] at h
    exact ⟨0#64, h, fun j _ => by simp⟩
theorem CoSt.drewN {w W : World} {b : Nat → BitVec 8} {T : Nat → Bool} (h : CoSt w W b T) (n : Nat) : CoSt w (W.drewN n) b T := ⟨⟨h.below.os, h.below.tape, h.below.output, h.below.size, h.below.block⟩, h.b, h.m⟩
/-- What the closure keeps. -/
theorem co_clos {w W : World} {b : Nat → BitVec 8} {T : Nat → Bool} (h : CoSt w W b T) (a : Nat) (s : ByteArray) (h1 : 1 ≤ s.size) (h2 : a + s.size ≤ 64) :
    Calls Try.prog 23 #[.int .i64 a, .string s, .pointer (some ⟨w.heap.size, 0, none⟩), .pointer (some ⟨w.heap.size + 1, 0, none⟩)] W fun e w' => e = .returned (.tuple #[]) ∧ CoSt w w' (put b (a, bl s)) (mark T (a, bl s)) := by
  obtain ⟨m, hm, hT⟩ := h.m
  refine (clos23 a s w.heap.size (w.heap.size + 1) b m W h.b hm (by omega) h1 h2).mono fun e w' ⟨he, hw⟩ => ⟨he, ?_⟩
  rw [hw]
  have hb := below_setRow (below_setRow h.below (Nat.le_refl _) (row 64 (put b (a, bl s)))) (show w.heap.size ≤ w.heap.size + 1 by omega) #[.int .u64 (X (m ||| ones a s.size))]
  refine ⟨⟨hb.os, hb.tape, hb.output, hb.size, hb.block⟩, (h.b.setRow _).setRow_other (by omega) _, m ||| ones a s.size, (hm.setRow_other (by omega) _).setRow _, fun j hj => ?_⟩
  rw [BitVec.getLsbD_or, ones_bit h2 hj, hT j hj]
  unfold mark
  rw [bl_length]
  by_cases hc : a ≤ j ∧ j < a + s.size
  · rw [if_pos hc, decide_eq_true hc, Bool.or_true]
  · rw [if_neg hc, decide_eq_false hc, Bool.or_false]
/-- What Compose hands back. -/
def coT (d e : ByteArray) : Nat → Bool := marks (marks (fun _ => false) (read 0 (bl d)).1) (read 0 (bl e)).1
def coB (d e : ByteArray) : Nat → BitVec 8 := puts (puts (fun _ => 0#8) (read 0 (bl d)).1) (read 0 (bl e)).1
structure LpSt (w W : World) (b : Nat → BitVec 8) (m : BitVec 64) (l : List (BitVec 8)) (v : Value) : Prop where
  below : Below w.heap.size w W
  b : Blk W w.heap.size (row 64 b) 23
  m : Blk W (w.heap.size + 1) #[.int .u64 (X m)] 49
  own : W.ownsRow (w.heap.size + 2) 5 1 v l.length (l.map bv)
theorem LpSt.drew {w W : World} {b : Nat → BitVec 8} {m : BitVec 64} {l : List (BitVec 8)} {v : Value} (h : LpSt w W b m l v) : LpSt w W.drew b m l v :=
  ⟨⟨h.below.os, h.below.tape, h.below.output, h.below.size, h.below.block⟩, h.b, h.m, h.own⟩
structure LpRel (w W : World) (b : Nat → BitVec 8) (m : BitVec 64) (T : Nat → Bool) (i : Nat) (v : Value) : Prop where
  i64 : i ≤ 64
  st : ∃ l, LpSt w W b m l v ∧ l ++ pc T b i = pc T b 0 ∧ l.length ≤ 3 * i
theorem X_zero : (0 : Int) = X 0#64 := rfl
set_option maxRecDepth 100000 in
set_option maxHeartbeats 4000000 in
theorem compose_yes (d e : ByteArray) (hd : d.size ≤ 140737488351232) (he : e.size ≤ 140737488351232) (v1 : (read 0 (bl d)).2 = true) (v2 : (read 0 (bl e)).2 = true) (w : World) :
    Calls Try.prog 16 #[.string d, .string e] w fun r w' => r = .returned (.tuple #[.string (str (pc (coT d e) (coB d e) 0)), .int .i64 0]) ∧ Below w.heap.size w w' := by
  have hz23 := (zero_row info23).1
  have hmf : ∀ (fn : Fn) (first cap : Array Value) (w : World), (Instr.makeFunc fn first cap).run Try.prog w = .ok (.func fn first cap) w := fun _ _ _ _ => rfl
  obtain ⟨i5, hi5, hz5, hs5, hb5⟩ := info_parts info5
  have HE1 := hid ((each_23 ⟨w.heap.size, 0, none⟩ ⟨w.heap.size + 1, 0, none⟩ (fun ps W => CoSt w W (puts (fun _ => 0#8) ps) (marks (fun _ => false) ps)) (fun _ W n h => h.drewN n)
    (fun ps a s W h h1 h2 => (co_clos h a s h1 h2).mono fun e w' ⟨he, hw⟩ => ⟨he, by rw [puts_snoc, marks_snoc]; exact hw⟩) d hd [] _ (CoSt.start w)).mono
      (R' := fun r w' => r = .returned (.bool true) ∧ CoSt w w' (puts (fun _ => 0#8) (read 0 (bl d)).1) (marks (fun _ => false) (read 0 (bl d)).1)) fun r w' ⟨hr, ps, hs, hps⟩ => ⟨by rw [hr, v1], by rw [← hps v1]; simpa using hs⟩)
  have HE2 : Hid (∀ W, CoSt w W (puts (fun _ => 0#8) (read 0 (bl d)).1) (marks (fun _ => false) (read 0 (bl d)).1) → Calls Try.prog 19 #[.string e, .func (.func 23) #[] #[.pointer (some ⟨w.heap.size, 0, none⟩), .pointer (some ⟨w.heap.size + 1, 0, none⟩)]] W
      fun r w' => r = .returned (.bool true) ∧ CoSt w w' (coB d e) (coT d e)) := hid fun W hW =>
    (each_23 ⟨w.heap.size, 0, none⟩ ⟨w.heap.size + 1, 0, none⟩ (fun ps W => CoSt w W (puts (puts (fun _ => 0#8) (read 0 (bl d)).1) ps) (marks (marks (fun _ => false) (read 0 (bl d)).1) ps)) (fun _ W n h => h.drewN n)
    (fun ps a s W h h1 h2 => (co_clos h a s h1 h2).mono fun e w' ⟨he, hw⟩ => ⟨he, by rw [puts_snoc, marks_snoc]; exact hw⟩) e he [] W hW).mono fun r w' ⟨hr, ps, hs, hps⟩ => ⟨by rw [hr, v2], by rw [List.nil_append, hps v2] at hs; exact hs⟩
  clear v1 v2
  generalize coT d e = T at *
  generalize coB d e = b at *
  have t1 : True := trivial
  go_enter Try.func16, Try.ntmps16
  go_wp2_with (first
    | (go_at_call 19; have tok := hid t1; clear t1; refine HE1.out.mono ?_; rintro r w1 ⟨rfl, hs1⟩)
    | (go_at_call 19; refine (HE2.out _ hs1).mono ?_; rintro r w2 ⟨rfl, hs2⟩))

  obtain ⟨m, hm, hT⟩ := hs2.m
  replace hT := hid hT
  have hst := hid (⟨hs2.below, hs2.b, hm, World.ownsRow_nil _ _ _ _⟩ : LpSt w w2 b m [] (.slice none 0 0))
  clear hs1 hs2 hm HE1 HE2
  go_loopw [9, 10] (fun v i wr => ∃ k : Nat, i = .int .i64 k ∧ LpRel w wr b m T k v) (fun _ i _ => 64 - (intOf i).toNat)
  case atStart => exact ⟨0, rfl, by omega, [], hst.out, rfl, by simp⟩
  case round =>
    clear hst
    obtain ⟨i, rfl, hi, l, hs, hl, hll⟩ := hrel
    replace hll := hid hll
    replace hl := hid hl
    by_cases hlt : (i : Int) < 64
    · have hlt' : i < 64 := by omega
      have c1 : wr.cell? ⟨w.heap.size + 1, 0, none⟩ = some (.int .u64 (X m)) := by rw [hs.m.cell]; rfl
      have hbv := bit_val2 m i
      rw [hT.out i hlt'] at hbv
      cases hTi : T i with
      | false =>
        rw [hTi] at hbv
        simp only [Bool.false_eq_true, if_false] at hbv
        replace hTi := hid hTi
        go_wp2
        go_roundw
        case rel => exact ⟨i + 1, by go_num, by omega, l, hs, by rw [← hl.out, pc_no hTi.out], by have := hll.out; omega⟩
        case measure => simp [intOf]; omega
      | true =>
        rw [hTi] at hbv
        simp only [if_true] at hbv
        replace hTi := hid hTi
        go_wp2
        clear hbv c1
        go_loopw [11] (fun e wr' => ∃ E : Nat, e = .int .i64 E ∧ i ≤ E ∧ E ≤ 64 ∧ (∀ j, i ≤ j → j < E → T j = true) ∧ LpSt w wr' b m l u9) (fun e _ => 64 - (intOf e).toNat)
        case atStart => exact ⟨i, rfl, Nat.le_refl _, hi, fun j h1 h2 => by omega, hs⟩
        case round =>
          clear hs
          obtain ⟨E, rfl, hk1, hk2, hon, hs⟩ := hrel
          replace hon := hid hon
          have c1 : wr.cell? ⟨w.heap.size + 1, 0, none⟩ = some (.int .u64 (X m)) := by rw [hs.m.cell]; rfl
          have hstop : (E : Int) < 64 ∧ T E = true ∨ ((64 : Int) ≤ E ∨ ((E : Int) < 64 ∧ T E = false)) := by
            by_cases h : (E : Int) < 64
            · cases hTE : T E
              · exact .inr (.inr ⟨h, rfl⟩)
              · exact .inl ⟨h, rfl⟩
            · exact .inr (.inl (by omega))
          rcases hstop with ⟨hE, hTE⟩ | hstop
          · have hbv := bit_val2 m E
            rw [hT.out E (by omega), hTE] at hbv
            simp only [if_true] at hbv
            replace hTE := hid hTE
            go_wp2
            go_roundw
            case rel => exact ⟨E + 1, by go_num, by omega, by omega, fun j h1 h2 => by
                by_cases e : j = E
                · rw [e]; exact hTE.out
                · exact hon.out j h1 (by omega), hs⟩
            case measure => simp [intOf]; omega
          · have hsk := hid (stop_of hk2 (fun h => by rcases hstop with h' | ⟨_, h'⟩; · omega
                                                      · exact h') _ i rfl hk1 hon.out)
            have hgt : i < E := by
              have := stop_gt hlt' hTi.out
              rw [hsk.out] at this; exact this
            have hbv : (64 : Int) ≤ E ∨ ((E : Int) < 64 ∧ bits BinOp.and IntKind.u64 (X m / 2 ^ E) 1 = 0) := by
              rcases hstop with h | ⟨h, h'⟩
              · exact .inl h
              · refine .inr ⟨h, ?_⟩
                rw [bit_val2 m E, hT.out E (by omega), h']; rfl
            clear hstop
            rcases hbv with h1 | ⟨h1, hbv⟩
            all_goals
              go_wp2
              (try clear hbv)
              clear c1
              replace hs := hs.drew
              have hll2 := hll.out
              have hsl : ∀ w', (Instr.sliceAt 23 (.pointer (some ⟨w.heap.size, 0, none⟩)) (some (.int .i64 i)) (some (.int .i64 E)) none).run Try.prog w' = .ok (.slice (some ⟨w.heap.size, i, none⟩) (E - i) (64 - i)) w' :=
                fun w' => run_slice_lh (P := Try.prog) (n := 64) Try.underlying23 size5 rfl rfl (by omega) (by omega) (by omega) w'
              refine wp_region_held (S := (fun _ => True)) (by kernel_rfl) ?_
              change wpAnyH _ _ _ _ _ _ _ _ wr.drew
              generalize wr.drew = wd at *
              have own1 := hs.own.alloc (.cells #[.int .u8 i, .int .u8 (E - i)] 5)
              (try simp only [Act.put])
              have hS : True := trivial
              refine anyH_pure 0 _ ?_ rfl (by kernel_rfl) (by kernel_rfl) (by kernel_rfl) (fun _ _ _ h => h) rfl ?_ hS ?_
              rotate_left
              · (intro w'; go_simp; (try with_reducible rfl))
              (try simp only [Act.put, List.getElem_toArray, List.getElem_cons_zero, List.setIfInBounds_toArray, List.set_cons_zero, List.set_cons_succ])
              refine anyH_pure 1 _ ?_ rfl (by kernel_rfl) (by kernel_rfl) (by kernel_rfl) (fun _ _ _ h => h) rfl ?_ hS ?_
              rotate_left
              · (intro w'; go_simp; (try with_reducible rfl))
              (try simp only [Act.put, List.getElem_toArray, List.getElem_cons_zero, List.getElem_cons_succ, List.setIfInBounds_toArray, List.set_cons_zero, List.set_cons_succ])
              refine anyH_pure 2 _ ?_ rfl (by kernel_rfl) (by kernel_rfl) (by kernel_rfl) (fun _ _ _ h => h) rfl ?_ hS ?_
              rotate_left
              · (intro w'; go_simp; (try with_reducible rfl))
              (try simp only [Act.put, List.getElem_toArray, List.getElem_cons_zero, List.getElem_cons_succ, List.setIfInBounds_toArray, List.set_cons_zero, List.set_cons_succ])
              refine anyH_pure 3 _ ?_ rfl (by kernel_rfl) (by kernel_rfl) (by kernel_rfl) (fun _ _ _ h => h) rfl ?_ hS ?_
              rotate_left
              · (intro w'; go_simp; (try with_reducible rfl))
              (try simp only [Act.put, List.getElem_toArray, List.getElem_cons_zero, List.getElem_cons_succ, List.setIfInBounds_toArray, List.set_cons_zero, List.set_cons_succ])
              refine anyH_pure 4 _ ?_ rfl (by kernel_rfl) (by kernel_rfl) (by kernel_rfl) (fun _ _ _ h => h) rfl ?_ hS ?_
              rotate_left
              · (intro w'; go_simp; (try with_reducible rfl))
              (try simp only [Act.put, List.getElem_toArray, List.getElem_cons_zero, List.getElem_cons_succ, List.setIfInBounds_toArray, List.set_cons_zero, List.set_cons_succ])
              refine anyH_pure 5 _ ?_ rfl (by kernel_rfl) (by kernel_rfl) (by kernel_rfl) (fun _ _ _ h => h) rfl ?_ hS ?_
              rotate_left
              · (intro w'; go_simp; (try with_reducible rfl))
              (try simp only [Act.put, List.getElem_toArray, List.getElem_cons_zero, List.getElem_cons_succ, List.setIfInBounds_toArray, List.set_cons_zero, List.set_cons_succ])
              refine anyH_pure 6 _ ?_ rfl (by kernel_rfl) (by kernel_rfl) (by kernel_rfl) (fun _ _ _ h => h) rfl ?_ hS ?_
              rotate_left
              · (intro w'; go_simp; (try with_reducible rfl))
              (try simp only [Act.put, List.getElem_toArray, List.getElem_cons_zero, List.getElem_cons_succ, List.setIfInBounds_toArray, List.set_cons_zero, List.set_cons_succ])
              refine anyH_pure 9 _ ?_ rfl (by kernel_rfl) (by kernel_rfl) (by kernel_rfl) (fun _ _ _ h => h) rfl ?_ hS ?_
              rotate_left
              · (intro w'; go_simp; (try with_reducible rfl))
              (try simp only [Act.put, List.getElem_toArray, List.getElem_cons_zero, List.getElem_cons_succ, List.setIfInBounds_toArray, List.set_cons_zero, List.set_cons_succ])
              refine anyH_pure 10 _ ?_ rfl (by kernel_rfl) (by kernel_rfl) (by kernel_rfl) (fun _ _ _ h => h) rfl ?_ hS ?_
              rotate_left
              · (intro w'; go_simp; (try with_reducible rfl))
              (try simp only [Act.put, List.getElem_toArray, List.getElem_cons_zero, List.getElem_cons_succ, List.setIfInBounds_toArray, List.set_cons_zero, List.set_cons_succ])
              refine anyH_pure 11 _ ?_ rfl (by kernel_rfl) (by kernel_rfl) (by kernel_rfl) (fun _ _ _ h => h) rfl ?_ hS ?_
              rotate_left
              · (intro w'; go_simp; (try with_reducible rfl))
              (try simp only [Act.put, List.getElem_toArray, List.getElem_cons_zero, List.getElem_cons_succ, List.setIfInBounds_toArray, List.set_cons_zero, List.set_cons_succ])
              refine anyH_one 7 _ (by kernel_rfl) rfl rfl (wp_buildSlice 42 5 2 _ rfl #[.int .u8 i, .int .u8 (E - i)] i5 _ Try.underlying42 hi5 hz5 (by rw [hs5]; decide) (by rw [hs5]; decide) ?c1 ⟨trivial, ?_⟩)
              case c1 => (simp only [hs5]; go_simp; exact ⟨IntWalk.u8_in _ (by omega), by rw [IntWalk.i64_in _ (by omega)]; exact IntWalk.u8_in _ (by omega)⟩)
              (try simp only [Act.put, List.getElem_toArray, List.getElem_cons_zero, List.getElem_cons_succ, List.setIfInBounds_toArray, List.set_cons_zero, List.set_cons_succ])
              have hsrc : ∀ j u, [bv (BitVec.ofNat 8 i), bv (BitVec.ofNat 8 (E - i))][j]? = some u → (wd.alloc (.cells #[.int .u8 i, .int .u8 (E - i)] 5)).cell? ((⟨wd.heap.size, 0, none⟩ : Addr).add j) = some u := fun j u hu => by
                rw [add_at, (Blk.alloc_new wd _ _).cell, bv_ofNat (by omega), bv_ofNat (by omega)] at *
                rw [← hu, Int.ofNat_sub (by omega)]
                simp only [List.getElem?_toArray]
              refine anyH_one 8 _ (by kernel_rfl) rfl rfl (wp_append_own _ _ _ 42 rfl (w.heap.size + 2) 5 i5 _ 1 1 Try.underlying42 hi5 hz5 hs5 hb5 rfl (by decide) u9 l.length _ rfl own1 ⟨wd.heap.size, 0, none⟩ 2 2 [bv (BitVec.ofNat 8 i), bv (BitVec.ofNat 8 (E - i))] rfl rfl hsrc (bvs_one [BitVec.ofNat 8 i, BitVec.ofNat 8 (E - i)]) (by unfold maxLen; omega) (by omega) (by have := hs.below.size; have := hs.m.lt; simp; omega) ?_)
              intro v1 w1 own2 gr1 _
              refine ⟨trivial, ?_⟩
              (try simp only [Act.put, List.getElem_toArray, List.getElem_cons_zero, List.getElem_cons_succ, List.setIfInBounds_toArray, List.set_cons_zero, List.set_cons_succ])
              have hbl : some w.heap.size ≠ u9.ownBlock := fun e => by
                have := (hs.own.lt _ e.symm).1
                omega
              have hb1 : Blk w1 w.heap.size (row 64 b) 23 := (gr1.block _ (hs.b.alloc _).lt hbl).trans (hs.b.alloc _)
              have hsrc2 : ∀ j u, ((seg b i E).map bv)[j]? = some u → w1.cell? ((⟨w.heap.size, i, none⟩ : Addr).add j) = some u := fun j u hu => by
                have hj : j < E - i := by have := (List.getElem?_eq_some_iff.1 hu).1; simpa [seg_length] using this
                rw [List.getElem?_map, seg_get b hj] at hu
                have hadd : (⟨w.heap.size, i, none⟩ : Addr).add j = ⟨w.heap.size, i + j, none⟩ := by unfold Addr.add; split <;> simp_all
                rw [hadd, hb1.cell, row_get (by omega)]
                exact hu
              have hlen2 : l.length + 2 + (E - i) ≤ 300 := by have := hll.out; omega
              have hw1 := gr1.size
              refine anyH_one 12 _ (by kernel_rfl) rfl rfl (wp_append_own _ _ _ 42 rfl (w.heap.size + 2) 5 i5 _ 1 1 Try.underlying42 hi5 hz5 hs5 hb5 rfl (by decide) v1 (l.length + 2) _ rfl own2 ⟨w.heap.size, i, none⟩ (E - i) (64 - i) ((seg b i E).map bv) rfl (by simp [seg_length]) hsrc2 (bvs_one _) (by unfold maxLen; omega) (by omega) (by have := hs.below.size; have := hs.m.lt; simp at hw1; omega) ?_)
              intro v2 w2 own3 gr2 _
              refine ⟨trivial, ?_⟩
              (try simp only [Act.put, List.getElem_toArray, List.getElem_cons_zero, List.getElem_cons_succ, List.setIfInBounds_toArray, List.set_cons_zero, List.set_cons_succ])
              refine anyH_pure 13 _ ?_ rfl (by kernel_rfl) (by kernel_rfl) (by kernel_rfl) (fun _ _ _ h => h) rfl ?_ hS ?_
              rotate_left
              · (intro w'; go_simp; (try with_reducible rfl))
              (try simp only [Act.put, List.getElem_toArray, List.getElem_cons_zero, List.getElem_cons_succ, List.setIfInBounds_toArray, List.set_cons_zero, List.set_cons_succ])
              refine wpAnyH_done (by kernel_rfl) ?_ _
              have hfin : LpSt w w2 b m (l ++ [BitVec.ofNat 8 i, BitVec.ofNat 8 (E - i)] ++ seg b i E) v2 := by
                have hn : (l ++ [BitVec.ofNat 8 i, BitVec.ofNat 8 (E - i)] ++ seg b i E).length = l.length + 2 + (E - i) := by simp [seg_length]; omega
                have r2 : ∀ k, v1.ownBlock = some k → w.heap.size + 2 ≤ k := fun k hk => (own2.lt k hk).1
                refine ⟨below_grown (below_grown (hs.below.alloc hs.below.size _) gr1 fun k hk => by have := (hs.own.lt k hk).1; omega) gr2 fun k hk => by have := r2 k hk; omega, ?_, ?_, ?_⟩
                · exact (gr2.block _ hb1.lt (fun e => by have := r2 _ e.symm; omega)).trans hb1
                · have h1 : Blk w1 (w.heap.size + 1) #[.int .u64 (X m)] 49 := (gr1.block _ (hs.m.alloc _).lt (fun e => by have := (hs.own.lt _ e.symm).1; omega)).trans (hs.m.alloc _)
                  exact (gr2.block _ h1.lt (fun e => by have := r2 _ e.symm; omega)).trans h1
                · rw [hn, List.map_append, List.map_append]
                  exact own3
              go_wp2
              go_roundw
              case rel => exact ⟨E, rfl, hk2, _, hfin, by rw [← hl.out, pc_yes hlt' hTi.out, hsk.out]; simp, by have := hll.out; simp [seg_length]; omega⟩
              case measure => simp [intOf]; omega
    · have hi' : i = 64 := by omega
      have hcv := run_conv_own (P := Try.prog) (src := 42) (dst := 9) Try.underlying42 Try.underlying5 Try.underlying9 hs.own
      subst hi'
      go_wp2
      go_ret2
      refine ⟨?_, hs.below⟩
      show Ending.returned (.tuple #[.string (str l), .int .i64 0]) = _
      rw [← hl.out, pc_end _ _ (Nat.le_refl _), List.append_nil]
end Go.Proofs.Ytlnfolikociodaa
