/- The walk of delta.Make. -/
import Derived.Test.YtlnfolikociodaaProg
import Derived.Test.YtlnfolikociodaaReg
import Derived.Test.YtlnfolikociodaaPc
import Derived.Great.BuildSlice
import Derived.Laws.IdiomStrings
import Derived.Laws.AppendOwn
import Derived.Outline
import Derived.IntWalk
namespace Go.Proofs.Ytlnfolikociodaa
open Go.RowKit

theorem info23 : (Try.prog.info? 23).map (fun i => (i.zero, i.size)) = some (some (.agg (Array.replicate 64 (.int .u8 0))), 64) := by kernel_rfl
theorem info22 : (Try.prog.info? 22).map (fun i => (i.zero, i.size)) = some (some (.agg (Array.replicate 64 (.int .u8 0))), 64) := by kernel_rfl
theorem size5 : (Try.prog.info? 5).map (·.size) = some 1 := by kernel_rfl
theorem info5 : (Try.prog.info? 5).map (fun i => (i.zero, i.size, i.bytes)) = some (some (.int .u8 0), 1, 1) := by kernel_rfl

def str (l : List (BitVec 8)) : ByteArray := ⟨(l.map UInt8.ofBitVec).toArray⟩
theorem B_ofNat {n : Nat} (h : n < 256) : B (BitVec.ofNat 8 n) = (n : Int) := by unfold B; rw [BitVec.toNat_ofNat, Nat.mod_eq_of_lt h]
theorem bv_ofNat {n : Nat} (h : n < 256) : bv (BitVec.ofNat 8 n) = .int .u8 (n : Int) := by unfold bv; rw [B_ofNat h]
theorem bvs_one (l : List (BitVec 8)) : ∀ u ∈ l.map bv, u.oneCell' = true := by
  intro u hu
  obtain ⟨c, _, rfl⟩ := List.mem_map.1 hu
  rfl
structure MkSt (w wr : World) (f g : Nat → BitVec 8) (l : List (BitVec 8)) (v : Value) : Prop where
  below : Below w.heap.size w wr
  a : Blk wr w.heap.size (row 64 f) 23
  b : Blk wr (w.heap.size + 1) (row 64 g) 23
  own : wr.ownsRow (w.heap.size + 2) 5 1 v l.length (l.map bv)
theorem MkSt.start (w : World) (f g : Nat → BitVec 8) : MkSt w ((w.alloc (.cells (row 64 f) 23)).alloc (.cells (row 64 g) 23)) f g [] (.slice none 0 0) where
  below := ((Below.refl _ _).alloc (Nat.le_refl _) _).alloc (by simp) _
  a := (Blk.alloc_new w _ _).alloc _
  b := by
    have h := Blk.alloc_new (w.alloc (.cells (row 64 f) 23)) (row 64 g) 23
    rwa [show (w.alloc (.cells (row 64 f) 23)).heap.size = w.heap.size + 1 by simp] at h
  own := World.ownsRow_nil _ _ _ _
theorem MkSt.drewN {w wr : World} {f g : Nat → BitVec 8} {l : List (BitVec 8)} {v : Value} (h : MkSt w wr f g l v) (n : Nat) : MkSt w (wr.drewN n) f g l v :=
  ⟨⟨h.below.os, h.below.tape, h.below.output, h.below.size, h.below.block⟩, h.a, h.b, h.own⟩
theorem str_eq (l : List (BitVec 8)) : str l = ⟨(l.map UInt8.ofBitVec).toArray⟩ := rfl
theorem run_conv_own {P : Program} {w : World} {src dst e : TypeId} {base : Nat} {v : Value} {l : List (BitVec 8)} (hs : P.underlying src = some (.slice e)) (he : P.underlying e = some (.int .u8)) (hd : P.underlying dst = some .string)
    (h : w.ownsRow base e 1 v l.length (l.map bv)) : (convert src dst v).run P w = .ok (.string (str l)) w := by
  rcases h.2 with ⟨rfl, hn⟩ | ⟨g, cap, cur, rfl, hb, hg, hc, hm, hsz, htk⟩
  · obtain rfl : l = [] := List.eq_nil_of_length_eq_zero hn
    rw [run_convert_bytes_nil w src e hs he 0 0 dst hd]
    rfl
  · have hl : l.length = (l.map UInt8.ofBitVec).length := by simp
    have hcell := h.cells (g := g) rfl
    rw [show Value.slice (some ⟨g, 0, none⟩) l.length cap = Value.slice (some ⟨g, 0, none⟩) (l.map UInt8.ofBitVec).length cap by rw [← hl]]
    refine run_convert_bytes_back w src dst e ⟨g, 0, none⟩ cap (l.map UInt8.ofBitVec) hs he hd fun j hj => ?_
    have hj' : j < l.length := by rw [hl]; exact hj
    rw [hcell j (bv l[j]) (by simp [hj'])]
    simp [bv, B]
theorem MkSt.drew {w wr : World} {f g : Nat → BitVec 8} {l : List (BitVec 8)} {v : Value} (h : MkSt w wr f g l v) : MkSt w wr.drew f g l v :=
  ⟨⟨h.below.os, h.below.tape, h.below.output, h.below.size, h.below.block⟩, h.a, h.b, h.own⟩
def Eq1 (f g : Nat → BitVec 8) (j : Nat) : Bool := f j != g j
theorem below_grown {B : Nat} {w a a' : World} {r : Option Nat} (h : Below B w a) (g : a.grownBy a' r) (hr : ∀ k, r = some k → B ≤ k) (hB : B ≤ w.heap.size := by exact Nat.le_refl _) : Below B w a' :=
  ⟨g.os.trans h.os, g.tape.trans h.tape, g.output.trans h.output, Nat.le_trans h.size g.size, fun i hi => (g.block i (Nat.lt_of_lt_of_le (Nat.lt_of_lt_of_le hi hB) h.size) fun e => by have := hr i e.symm; omega).trans (h.block i hi)⟩
/-- What the outer loop of Make knows. -/
structure MkRel (w wr : World) (f g : Nat → BitVec 8) (i : Nat) (v : Value) : Prop where
  i64 : i ≤ 64
  stand : Stand (Eq1 f g) i
  st : ∃ l, MkSt w wr f g l v ∧ l ++ pc (tch (Eq1 f g)) g i = pc (tch (Eq1 f g)) g 0 ∧ l.length ≤ 3 * i
set_option maxRecDepth 100000 in
set_option maxHeartbeats 4000000 in
theorem make_any (f g : Nat → BitVec 8) (w : World) :
    Calls Try.prog 10 #[.agg (row 64 f), .agg (row 64 g)] w fun e w' => e = .returned (.string (str (pc (tch (Eq1 f g)) g 0))) ∧ Below w.heap.size w w' := by
  have hst := hid (MkSt.start w f g)
  obtain ⟨i5, hi5, hz5, hs5, hb5⟩ := info_parts info5
  go_enter Try.func10, Try.ntmps10
  go_wp2
  go_outline
  go_loopw [5, 6] (fun v i wr => ∃ k : Nat, i = .int .i64 k ∧ MkRel w wr f g k v) (fun _ i _ => 64 - (intOf i).toNat)
  case atStart => exact ⟨0, rfl, by omega, stand_zero _, [], hst.out, rfl, by simp⟩
  case round =>
    obtain ⟨i, rfl, hr⟩ := hrel
    obtain ⟨hi, hstand, l, hs, hl, hll⟩ := hr
    by_cases hlt : (i : Int) < 64
    · have hlt' : i < 64 := by omega
      have c1 := hs.a.byte hlt'
      have c2 := hs.b.byte hlt'
      have hll := hid hll
      by_cases hd : f i = g i
      · have he : (B (f i) == B (g i)) = true := by rw [hd]; simp
        have hpc := hid hl
        clear hl
        go_wp2
        go_quiet (fail)
        go_wp2
        go_roundw
        case rel => exact ⟨i + 1, by go_num, by omega, stand_next hlt' hstand (by simp [Eq1, hd]), l, hs.drewN _, by rw [← hpc.out, pc_no (hstand hlt' (by simp [Eq1, hd]))], by have := hll.out; omega⟩
        case measure => simp [intOf]; omega
      · have he : (B (f i) == B (g i)) = false := by
          rw [beq_eq_false_iff_ne]; exact fun h => hd (B_inj h)
        have hpc := hid hl
        have hD : Eq1 f g i = true := by simp [Eq1, hd]
        have hsk := seek_start hlt' hD
        replace hD := hid hD
        clear hl
        go_wp2
        go_quiet (fail)
        go_wp2
        have hs' := hs.drewN nq
        generalize wr.drewN nq = wi at hs' ⊢
        clear hs c1 c2
        go_loopw [7, 8] (fun e k wr' => ∃ E K : Nat, e = .int .i64 E ∧ k = .int .i64 K ∧ Seek (Eq1 f g) i E K ∧ MkSt w wr' f g l u5) (fun _ k _ => 64 - (intOf k).toNat)
        case atStart => exact ⟨i + 1, i + 1, by go_num, by go_num, hsk, hs'⟩
        case round =>
          clear hsk hs'
          obtain ⟨E, K, rfl, rfl, hk, hs⟩ := hrel
          have k1 := hk.ie
          have k2 := hk.e64
          have k3 := hk.ek
          have k4 := hk.k3
          by_cases hin : (K : Int) < 64 ∧ (K : Int) < (E : Int) + 3
          · obtain ⟨hin1, hin2⟩ := hin
            have hK : K < 64 := by omega
            have c1 := hs.a.byte hK
            have c2 := hs.b.byte hK
            by_cases hdk : f K = g K
            · have hek : (B (f K) != B (g K)) = false := by rw [hdk]; simp
              have hek' : (B (f K) == B (g K)) = true := by rw [hdk]; simp
              go_wp2
              go_quiet (fail)
              go_wp2
              go_roundw
              case rel => exact ⟨E, K + 1, rfl, by go_num, seek_no hk (by omega) (by simp [Eq1, hdk]), hs.drewN _⟩
              case measure => simp [intOf]; omega
            · have hek : (B (f K) != B (g K)) = true := by
                rw [bne_iff_ne]; exact fun h => hdk (B_inj h)
              have hek' : (B (f K) == B (g K)) = false := by
                rw [beq_eq_false_iff_ne]; exact fun h => hdk (B_inj h)
              go_wp2
              go_quiet (fail)
              go_wp2
              go_roundw
              case rel => exact ⟨K + 1, K + 1, by go_num, by go_num, seek_yes hk (by omega) hK (by simp [Eq1, hdk]), hs.drewN _⟩
              case measure => simp [intOf]; omega
          · have hsk := hid (seek_end hk (fun h => hin ⟨by omega, by omega⟩))
            have hor : (64 : Int) ≤ K ∨ ((K : Int) < 64 ∧ (E : Int) + 3 ≤ K) := by omega
            clear hin
            rcases hor with h1 | ⟨h1, h2⟩
            all_goals
              go_wp2
              replace hs := hs.drew
              have hsl : ∀ w', (Instr.sliceAt 23 (.pointer (some ⟨w.heap.size + 1, 0, none⟩)) (some (.int .i64 i)) (some (.int .i64 E)) none).run Try.prog w' = .ok (.slice (some ⟨w.heap.size + 1, i, none⟩) (E - i) (64 - i)) w' :=
                fun w' => run_slice_lh (P := Try.prog) (n := 64) Try.underlying23 size5 rfl rfl (by omega) (by omega) (by omega) w'
              refine wp_region_held (S := (fun _ => True)) (by kernel_rfl) ?_
              change wpAnyH _ _ _ _ _ _ _ _ wr.drew
              generalize wr.drew = wd at *
              have own1 := hs.own.alloc (.cells #[.int .u8 i, .int .u8 (E - i)] 5)
              (try simp only [Act.put])
              have hS : True := trivial
              refine anyH_pure 0 _ ?_ rfl (by kernel_rfl) (by kernel_rfl) (by kernel_rfl) (fun _ _ _ h => h) rfl ?_ hS ?_
              rotate_left
              · (intro w'; go_simp; (try with_reducible rfl))
              (try simp only [Act.put, List.getElem_toArray, List.getElem_cons_zero, List.setIfInBounds_toArray, List.set_cons_zero, List.set_cons_succ])
              refine anyH_pure 1 _ ?_ rfl (by kernel_rfl) (by kernel_rfl) (by kernel_rfl) (fun _ _ _ h => h) rfl ?_ hS ?_
              rotate_left
              · (intro w'; go_simp; (try with_reducible rfl))
              (try simp only [Act.put, List.getElem_toArray, List.getElem_cons_zero, List.getElem_cons_succ, List.setIfInBounds_toArray, List.set_cons_zero, List.set_cons_succ])
              refine anyH_pure 2 _ ?_ rfl (by kernel_rfl) (by kernel_rfl) (by kernel_rfl) (fun _ _ _ h => h) rfl ?_ hS ?_
              rotate_left
              · (intro w'; go_simp; (try with_reducible rfl))
              (try simp only [Act.put, List.getElem_toArray, List.getElem_cons_zero, List.getElem_cons_succ, List.setIfInBounds_toArray, List.set_cons_zero, List.set_cons_succ])
              refine anyH_pure 3 _ ?_ rfl (by kernel_rfl) (by kernel_rfl) (by kernel_rfl) (fun _ _ _ h => h) rfl ?_ hS ?_
              rotate_left
              · (intro w'; go_simp; (try with_reducible rfl))
              (try simp only [Act.put, List.getElem_toArray, List.getElem_cons_zero, List.getElem_cons_succ, List.setIfInBounds_toArray, List.set_cons_zero, List.set_cons_succ])
              refine anyH_pure 4 _ ?_ rfl (by kernel_rfl) (by kernel_rfl) (by kernel_rfl) (fun _ _ _ h => h) rfl ?_ hS ?_
              rotate_left
              · (intro w'; go_simp; (try with_reducible rfl))
              (try simp only [Act.put, List.getElem_toArray, List.getElem_cons_zero, List.getElem_cons_succ, List.setIfInBounds_toArray, List.set_cons_zero, List.set_cons_succ])
              refine anyH_pure 5 _ ?_ rfl (by kernel_rfl) (by kernel_rfl) (by kernel_rfl) (fun _ _ _ h => h) rfl ?_ hS ?_
              rotate_left
              · (intro w'; go_simp; (try with_reducible rfl))
              (try simp only [Act.put, List.getElem_toArray, List.getElem_cons_zero, List.getElem_cons_succ, List.setIfInBounds_toArray, List.set_cons_zero, List.set_cons_succ])
              refine anyH_pure 6 _ ?_ rfl (by kernel_rfl) (by kernel_rfl) (by kernel_rfl) (fun _ _ _ h => h) rfl ?_ hS ?_
              rotate_left
              · (intro w'; go_simp; (try with_reducible rfl))
              (try simp only [Act.put, List.getElem_toArray, List.getElem_cons_zero, List.getElem_cons_succ, List.setIfInBounds_toArray, List.set_cons_zero, List.set_cons_succ])
              refine anyH_pure 9 _ ?_ rfl (by kernel_rfl) (by kernel_rfl) (by kernel_rfl) (fun _ _ _ h => h) rfl ?_ hS ?_
              rotate_left
              · (intro w'; go_simp; (try with_reducible rfl))
              (try simp only [Act.put, List.getElem_toArray, List.getElem_cons_zero, List.getElem_cons_succ, List.setIfInBounds_toArray, List.set_cons_zero, List.set_cons_succ])
              refine anyH_pure 10 _ ?_ rfl (by kernel_rfl) (by kernel_rfl) (by kernel_rfl) (fun _ _ _ h => h) rfl ?_ hS ?_
              rotate_left
              · (intro w'; go_simp; (try with_reducible rfl))
              (try simp only [Act.put, List.getElem_toArray, List.getElem_cons_zero, List.getElem_cons_succ, List.setIfInBounds_toArray, List.set_cons_zero, List.set_cons_succ])
              refine anyH_pure 11 _ ?_ rfl (by kernel_rfl) (by kernel_rfl) (by kernel_rfl) (fun _ _ _ h => h) rfl ?_ hS ?_
              rotate_left
              · (intro w'; go_simp; (try with_reducible rfl))
              (try simp only [Act.put, List.getElem_toArray, List.getElem_cons_zero, List.getElem_cons_succ, List.setIfInBounds_toArray, List.set_cons_zero, List.set_cons_succ])
              refine anyH_one 7 _ (by kernel_rfl) rfl rfl (wp_buildSlice 42 5 2 _ rfl #[.int .u8 i, .int .u8 (E - i)] i5 _ Try.underlying42 hi5 hz5 (by rw [hs5]; decide) (by rw [hs5]; decide) ?c1 ⟨trivial, ?_⟩)
              case c1 => (simp only [hs5]; go_simp; exact ⟨IntWalk.u8_in _ (by omega), by rw [IntWalk.i64_in _ (by omega)]; exact IntWalk.u8_in _ (by omega)⟩)
              (try simp only [Act.put, List.getElem_toArray, List.getElem_cons_zero, List.getElem_cons_succ, List.setIfInBounds_toArray, List.set_cons_zero, List.set_cons_succ])
              have hsrc : ∀ j u, [bv (BitVec.ofNat 8 i), bv (BitVec.ofNat 8 (E - i))][j]? = some u → (wd.alloc (.cells #[.int .u8 i, .int .u8 (E - i)] 5)).cell? ((⟨wd.heap.size, 0, none⟩ : Addr).add j) = some u := fun j u hu => by
                rw [add_at, (Blk.alloc_new wd _ _).cell, bv_ofNat (by omega), bv_ofNat (by omega)] at *
                rw [← hu, Int.ofNat_sub (by omega)]
                simp only [List.getElem?_toArray]
              refine anyH_one 8 _ (by kernel_rfl) rfl rfl (wp_append_own _ _ _ 42 rfl (w.heap.size + 2) 5 i5 _ 1 1 Try.underlying42 hi5 hz5 hs5 hb5 rfl (by decide) u5 l.length _ rfl own1 ⟨wd.heap.size, 0, none⟩ 2 2 [bv (BitVec.ofNat 8 i), bv (BitVec.ofNat 8 (E - i))] rfl rfl hsrc (bvs_one [BitVec.ofNat 8 i, BitVec.ofNat 8 (E - i)]) (by unfold maxLen; omega) (by omega) (by have := hs.below.size; have := hs.b.lt; simp; omega) ?_)
              intro v1 w1 own2 gr1 _
              refine ⟨trivial, ?_⟩
              (try simp only [Act.put, List.getElem_toArray, List.getElem_cons_zero, List.getElem_cons_succ, List.setIfInBounds_toArray, List.set_cons_zero, List.set_cons_succ])
              have hbl : some (w.heap.size + 1) ≠ u5.ownBlock := fun e => by
                have := (hs.own.lt _ e.symm).1
                omega
              have hb1 : Blk w1 (w.heap.size + 1) (row 64 g) 23 := (gr1.block _ (hs.b.alloc _).lt hbl).trans (hs.b.alloc _)
              have hsrc2 : ∀ j u, ((seg g i E).map bv)[j]? = some u → w1.cell? ((⟨w.heap.size + 1, i, none⟩ : Addr).add j) = some u := fun j u hu => by
                have hj : j < E - i := by have := (List.getElem?_eq_some_iff.1 hu).1; simpa [seg_length] using this
                rw [List.getElem?_map, seg_get g hj] at hu
                have hadd : (⟨w.heap.size + 1, i, none⟩ : Addr).add j = ⟨w.heap.size + 1, i + j, none⟩ := by unfold Addr.add; split <;> simp_all
                rw [hadd, hb1.cell, row_get (by omega)]
                exact hu
              have hlen2 : l.length + 2 + (E - i) ≤ 300 := by have := hll.out; omega
              have hw1 := gr1.size
              refine anyH_one 12 _ (by kernel_rfl) rfl rfl (wp_append_own _ _ _ 42 rfl (w.heap.size + 2) 5 i5 _ 1 1 Try.underlying42 hi5 hz5 hs5 hb5 rfl (by decide) v1 (l.length + 2) _ rfl own2 ⟨w.heap.size + 1, i, none⟩ (E - i) (64 - i) ((seg g i E).map bv) rfl (by simp [seg_length]) hsrc2 (bvs_one _) (by unfold maxLen; omega) (by omega) (by have := hs.below.size; have := hs.b.lt; simp at hw1; omega) ?_)
              intro v2 w2 own3 gr2 _
              refine ⟨trivial, ?_⟩
              (try simp only [Act.put, List.getElem_toArray, List.getElem_cons_zero, List.getElem_cons_succ, List.setIfInBounds_toArray, List.set_cons_zero, List.set_cons_succ])
              refine anyH_pure 13 _ ?_ rfl (by kernel_rfl) (by kernel_rfl) (by kernel_rfl) (fun _ _ _ h => h) rfl ?_ hS ?_
              rotate_left
              · (intro w'; go_simp; (try with_reducible rfl))
              (try simp only [Act.put, List.getElem_toArray, List.getElem_cons_zero, List.getElem_cons_succ, List.setIfInBounds_toArray, List.set_cons_zero, List.set_cons_succ])
              refine wpAnyH_done (by kernel_rfl) ?_ _
              have hfin : MkSt w w2 f g (l ++ [BitVec.ofNat 8 i, BitVec.ofNat 8 (E - i)] ++ seg g i E) v2 := by
                have hn : (l ++ [BitVec.ofNat 8 i, BitVec.ofNat 8 (E - i)] ++ seg g i E).length = l.length + 2 + (E - i) := by simp [seg_length]; omega
                have r2 : ∀ k, v1.ownBlock = some k → w.heap.size + 2 ≤ k := fun k hk => (own2.lt k hk).1
                refine ⟨below_grown (below_grown (hs.below.alloc hs.below.size _) gr1 fun k hk => by have := (hs.own.lt k hk).1; omega) gr2 fun k hk => by have := r2 k hk; omega, ?_, ?_, ?_⟩
                · have h1 : Blk w1 w.heap.size (row 64 f) 23 := (gr1.block _ (hs.a.alloc _).lt (fun e => by have := (hs.own.lt _ e.symm).1; omega)).trans (hs.a.alloc _)
                  exact (gr2.block _ h1.lt (fun e => by have := r2 _ e.symm; omega)).trans h1
                · exact (gr2.block _ hb1.lt (fun e => by have := r2 _ e.symm; omega)).trans hb1
                · rw [hn, List.map_append, List.map_append]
                  exact own3
              go_wp2
              go_roundw
              case rel => exact ⟨E, rfl, k2, hsk.out.2, _, hfin, by rw [← hpc.out, pc_yes hlt' ((tch_iff _ _).2 (.inl hD.out)), hsk.out.1]; simp, by have := hll.out; simp [seg_length]; omega⟩
              case measure => simp [intOf]; omega
    · have hi' : i = 64 := by omega
      have hcv := run_conv_own (P := Try.prog) (src := 42) (dst := 9) Try.underlying42 Try.underlying5 Try.underlying9 hs.own
      have hfin := hid hl
      clear hl
      subst hi'
      go_wp2
      go_ret
      refine ⟨?_, hs.below⟩
      show Ending.returned (.string (str l)) = _
      rw [← hfin.out, pc_end _ _ (Nat.le_refl _), List.append_nil]
