/- The walk of the document's pieces. -/
import Derived.Test.YtlnfolikociodaaMakeW
import Derived.Test.YtlnfolikociodaaBool
namespace Go.Proofs.Ytlnfolikociodaa
open Go.RowKit

structure PcSt (w wr : World) (b : Nat → BitVec 8) (T : Nat → Bool) : Prop where
  below : Below w.heap.size w wr
  b : Blk wr w.heap.size (row 64 b) 22
  t : Blk wr (w.heap.size + 1) (rowT 64 T) 43
theorem PcSt.start (w : World) (b : Nat → BitVec 8) (T : Nat → Bool) : PcSt w ((w.alloc (.cells (row 64 b) 22)).alloc (.cells (rowT 64 T) 43)) b T where
  below := ((Below.refl _ _).alloc (Nat.le_refl _) _).alloc (by simp) _
  b := (Blk.alloc_new w _ _).alloc _
  t := by
    have h := Blk.alloc_new (w.alloc (.cells (row 64 b) 22)) (rowT 64 T) 43
    rwa [show (w.alloc (.cells (row 64 b) 22)).heap.size = w.heap.size + 1 by simp] at h
theorem PcSt.alloc {w wr : World} {b : Nat → BitVec 8} {T : Nat → Bool} (h : PcSt w wr b T) (o : Obj) : PcSt w (wr.alloc o) b T :=
  ⟨h.below.alloc h.below.size _, h.b.alloc _, h.t.alloc _⟩
/-- What is still to be told at i. -/
def rest (T : Nat → Bool) (b : Nat → BitVec 8) (i : Nat) : List (BitVec 8) := if 0 < i ∧ T (i - 1) = true then pc T b (stop T i) else pc T b i
theorem rest_zero (T : Nat → Bool) (b : Nat → BitVec 8) : rest T b 0 = pc T b 0 := by simp [rest]
theorem rest_end (T : Nat → Bool) (b : Nat → BitVec 8) : rest T b 64 = [] := by
  unfold rest; split
  · rw [stop_end T (Nat.le_refl _), pc_end T b (Nat.le_refl _)]
  · exact pc_end T b (Nat.le_refl _)
theorem rest_no {T : Nat → Bool} {b : Nat → BitVec 8} {i : Nat} (h : T i = false) : rest T b i = rest T b (i + 1) := by
  have h2 : rest T b (i + 1) = pc T b (i + 1) := by unfold rest; rw [if_neg (by simp [h])]
  rw [h2, ← pc_no h]
  unfold rest; split
  · rw [stop_no h]
  · rfl
theorem rest_in {T : Nat → Bool} {b : Nat → BitVec 8} {i : Nat} (hi : i < 64) (h0 : 0 < i) (h1 : T (i - 1) = true) (h : T i = true) : rest T b i = rest T b (i + 1) := by
  have h2 : rest T b (i + 1) = pc T b (stop T (i + 1)) := by unfold rest; rw [if_pos ⟨by omega, by simpa using h⟩]
  have h3 : rest T b i = pc T b (stop T i) := by unfold rest; rw [if_pos ⟨h0, h1⟩]
  rw [h2, h3, stop_yes hi h]
theorem rest_new {T : Nat → Bool} {b : Nat → BitVec 8} {i : Nat} (hi : i < 64) (h1 : ¬ (0 < i ∧ T (i - 1) = true)) (h : T i = true) :
    rest T b i = BitVec.ofNat 8 i :: BitVec.ofNat 8 (stop T i - i) :: (seg b i (stop T i) ++ rest T b (i + 1)) := by
  have h2 : rest T b (i + 1) = pc T b (stop T (i + 1)) := by unfold rest; rw [if_pos ⟨by omega, by simpa using h⟩]
  have h3 : rest T b i = pc T b i := by unfold rest; rw [if_neg h1]
  rw [h2, h3, pc_yes hi h, stop_yes hi h]
theorem str_append (l m : List (BitVec 8)) : str l ++ str m = str (l ++ m) := by
  apply ByteArray.ext
  simp [str, ByteArray.data_append]
theorem str_size (l : List (BitVec 8)) : (str l).size = l.length := by simp [str, ByteArray.size]
theorem run_conv_new {P : Program} {src dst e : TypeId} (hs : P.underlying src = some (.slice e)) (he : P.underlying e = some (.int .u8)) (hd : P.underlying dst = some .string) (l : List (BitVec 8)) (W : World) :
    (convert src dst (.slice (some ⟨W.heap.size, 0, none⟩) l.length l.length)).run P (W.alloc (.cells (l.map bv).toArray e)) = .ok (.string (str l)) (W.alloc (.cells (l.map bv).toArray e)) := by
  rw [show Value.slice (some ⟨W.heap.size, 0, none⟩) l.length l.length = Value.slice (some ⟨W.heap.size, 0, none⟩) (l.map UInt8.ofBitVec).length l.length by simp]
  refine run_convert_bytes_back _ src dst e ⟨W.heap.size, 0, none⟩ l.length (l.map UInt8.ofBitVec) hs he hd fun j hj => ?_
  have hj' : j < l.length := by simpa using hj
  rw [add_at, (Blk.alloc_new W _ _).cell]
  simp [hj', bv, B]
structure PcRel (w wr : World) (b : Nat → BitVec 8) (T : Nat → Bool) (i : Nat) (v : Value) : Prop where
  i64 : i ≤ 64
  st : PcSt w wr b T
  told : ∃ l, v = .string (str l) ∧ l ++ rest T b i = pc T b 0 ∧ l.length ≤ 66 * i
structure InRel (w wr : World) (b : Nat → BitVec 8) (T : Nat → Bool) (i k : Nat) (n s : Value) : Prop where
  ik : i ≤ k
  k64 : k ≤ 64
  on : ∀ j, i ≤ j → j < k → T j = true
  st : PcSt w wr b T
  n : n = .int .i64 ((k - i : Nat) : Int)
  s : s = .string (str (seg b i k))
set_option maxRecDepth 100000 in
set_option maxHeartbeats 4000000 in
theorem pieces_any (b : Nat → BitVec 8) (T : Nat → Bool) (w : World) :
    Calls Try.prog 18 #[.agg (row 64 b), .agg (rowT 64 T)] w fun e w' => e = .returned (.string (str (pc T b 0))) ∧ Below w.heap.size w w' := by
  have hst := hid (PcSt.start w b T)
  obtain ⟨i5, hi5, hz5, hs5, hb5⟩ := info_parts info5
  have hcv1 : ∀ (W : World) (c : BitVec 8), (convert 42 9 (.slice (some ⟨W.heap.size, 0, none⟩) 1 1)).run Try.prog (W.alloc (.cells #[.int .u8 (B c)] 5)) = .ok (.string (str [c])) (W.alloc (.cells #[.int .u8 (B c)] 5)) :=
    fun W c => run_conv_new (P := Try.prog) (src := 42) (dst := 9) Try.underlying42 Try.underlying5 Try.underlying9 [c] W
  have hcv2 : ∀ (W : World) (c d : Nat), c < 256 → d < 256 → (convert 42 9 (.slice (some ⟨W.heap.size, 0, none⟩) 2 2)).run Try.prog (W.alloc (.cells #[.int .u8 c, .int .u8 d] 5)) = .ok (.string (str [BitVec.ofNat 8 c, BitVec.ofNat 8 d])) (W.alloc (.cells #[.int .u8 c, .int .u8 d] 5)) := by
    intro W c d hc hd
    have h := run_conv_new (P := Try.prog) (src := 42) (dst := 9) Try.underlying42 Try.underlying5 Try.underlying9 [BitVec.ofNat 8 c, BitVec.ofNat 8 d] W
    simp only [List.map_cons, List.map_nil, bv_ofNat hc, bv_ofNat hd] at h
    exact h
  replace hcv2 := hid hcv2
  go_enter Try.func18, Try.ntmps18
  go_wp2
  go_loopw [5, 6] (fun v i wr => ∃ k : Nat, i = .int .i64 k ∧ PcRel w wr b T k v) (fun _ i _ => 64 - (intOf i).toNat)
  case atStart => exact ⟨0, rfl, by omega, hst.out, [], rfl, by simp [rest_zero], by simp⟩
  case round =>
    obtain ⟨i, rfl, hr⟩ := hrel
    obtain ⟨hi, hs, l, rfl, hl, hll⟩ := hr
    replace hl := hid hl
    replace hll := hid hll
    by_cases hlt : (i : Int) < 64
    · have hlt' : i < 64 := by omega
      have c1 := hs.t.bit hlt'
      cases hT : T i with
      | false =>
        rw [hT] at c1
        replace hT := hid hT
        go_wp2
        go_roundw
        case rel => exact ⟨i + 1, by go_num, by omega, hs, l, rfl, by rw [← hl.out, rest_no hT.out], by have := hll.out; omega⟩
        case measure => simp [intOf]; omega
      | true =>
        rw [hT] at c1
        replace hT := hid hT
        by_cases h0 : 0 < i ∧ T (i - 1) = true
        · obtain ⟨h0, h1⟩ := h0
          have c2 := hs.t.bit (j := i - 1) (by omega)
          rw [h1] at c2
          have hx : ((i : Int) - 1).toNat = i - 1 := by omega
          replace h1 := hid h1
          have h00 : 0 < (i : Int) := by omega
          go_wp2
          go_roundw
          case rel => exact ⟨i + 1, by go_num, by omega, hs, l, rfl, by rw [← hl.out, rest_in hlt' h0 h1.out hT.out], by have := hll.out; omega⟩
          case measure => simp [intOf]; omega
        · have hpc := hid (rest_new (b := b) hlt' h0 hT.out)
          have hor : (i : Int) ≤ 0 ∨ (0 < (i : Int) ∧ wr.cell? ⟨w.heap.size + 1, i - 1, none⟩ = some (.bool false)) := by
            by_cases hz : 0 < i
            · refine .inr ⟨by omega, ?_⟩
              have c2 := hs.t.bit (j := i - 1) (by omega)
              cases h1 : T (i - 1) with
              | false => rw [c2, h1]
              | true => exact absurd ⟨hz, h1⟩ h0
            · exact .inl (by omega)
          clear h0
          have hx : ((i : Int) - 1).toNat = i - 1 := by omega
          rcases hor with h1 | ⟨h1, c2⟩
          all_goals
            go_wp2
            (try clear c2)
            clear c1 hx
            go_loopw [7, 8, 9] (fun n s k wr' => ∃ K : Nat, k = .int .i64 K ∧ InRel w wr' b T i K n s) (fun _ _ k _ => 64 - (intOf k).toNat)
            case atStart => exact ⟨i, rfl, Nat.le_refl _, hi, fun j h1 h2 => by omega, hs, by simp, by simp [seg_nil]; rfl⟩
            case round =>
              clear hs
              obtain ⟨K, rfl, hk1, hk2, hon, hs, rfl, rfl⟩ := hrel
              replace hon := hid hon
              by_cases hK : (K : Int) < 64
              · have hK' : K < 64 := by omega
                have c3 := hs.t.bit hK'
                cases hTK : T K with
                | true =>
                  rw [hTK] at c3
                  replace hTK := hid hTK
                  have c4 := hs.b.byte hK'
                  have hz2 : (str [b K]).size ≤ 1 := by rw [str_size]; exact Nat.le_refl 1
                  have hz3 : (str (seg b i K)).size ≤ 64 := by rw [str_size, seg_length]; omega
                  go_wp2
                  go_wp2
                  go_roundw
                  case rel => exact ⟨K + 1, by go_num, by omega, by omega, fun j h1 h2 => by
                      by_cases e : j = K
                      · rw [e]; exact hTK.out
                      · exact hon.out j h1 (by omega), hs.alloc _, by rw [show K + 1 - i = (K - i) + 1 by omega]; go_num, by rw [str_append, seg_snoc b hk1]⟩
                  case measure => simp [intOf]; omega
                | false =>
                  rw [hTK] at c3
                  replace hTK := hid hTK
                  go_wp2
                  have hz1 : (str l).size ≤ 5000 := by rw [str_size]; have := hll.out; omega
                  have hz2 : (str [BitVec.ofNat 8 i, BitVec.ofNat 8 (K - i)]).size ≤ 2 := by rw [str_size]; exact Nat.le_refl 2
                  have hz3 : (str (seg b i K)).size ≤ 64 := by rw [str_size, seg_length]; omega
                  have hsp := hid (stop_of hk2 (fun _ => hTK.out) _ i rfl hk1 hon.out)
                  have hcv3 := hcv2.out wr i (K - i) (by omega) (by omega)
                  go_wp2
                  go_wp2
                  rw [hcv3]
                  go_wp2
                  go_roundw
                  case rel => exact ⟨i + 1, by go_num, by omega, hs.alloc _, l ++ ([BitVec.ofNat 8 i, BitVec.ofNat 8 (K - i)] ++ seg b i K), by rw [str_append, str_append], by rw [← hl.out, hpc.out, hsp.out]; simp, by have := hll.out; simp [seg_length]; omega⟩
                  case measure => simp [intOf]; omega
              · have hK64 : (64 : Int) ≤ K := by omega
                clear hK
                have hz1 : (str l).size ≤ 5000 := by rw [str_size]; have := hll.out; omega
                have hz2 : (str [BitVec.ofNat 8 i, BitVec.ofNat 8 (K - i)]).size ≤ 2 := by rw [str_size]; exact Nat.le_refl 2
                have hz3 : (str (seg b i K)).size ≤ 64 := by rw [str_size, seg_length]; omega
                have hsp := hid (stop_of hk2 (fun h => absurd h (by omega)) _ i rfl hk1 hon.out)
                have hcv3 := hcv2.out wr i (K - i) (by omega) (by omega)
                go_wp2
                go_roundw
                case rel => exact ⟨i + 1, by go_num, by omega, hs.alloc _, l ++ ([BitVec.ofNat 8 i, BitVec.ofNat 8 (K - i)] ++ seg b i K), by rw [str_append, str_append], by rw [← hl.out, hpc.out, hsp.out]; simp, by have := hll.out; simp [seg_length]; omega⟩
                case measure => simp [intOf]; omega
    · have hi' : i = 64 := by omega
      subst hi'
      go_wp2
      go_ret
      refine ⟨?_, hs.below⟩
      show Ending.returned (.string (str l)) = _
      rw [← hl.out, rest_end, List.append_nil]
end Go.Proofs.Ytlnfolikociodaa
