/- For any text, any place and any bits: of two texts that differ, but only within 32 bits side by side, the sums differ; the arguments read behind the call as they did. No condition. -/
import Derived.Test.YtkhlgfmldpgebaaRows
import Derived.Test.YtkhlgfmldpgebaaWalks
import Derived.WalkKit
import Derived.ProofKit
import Derived.OpenShut
import Derived.ShutString
import Derived.Carry
import Derived.Lib.ConvBytes
import Derived.Laws.BytesArg
namespace Go.Proofs.Ytkhlgfmldpgebaa.crcTurned
open Crc
open Go.ChangeShapes Go.WideShapes Go.ChangeAt Go.RowKit
open Go.ChangeMaps (open_string shut_string)
set_option linter.unusedVariables false

theorem own : ownKnob Try.prog.godebug = none := by kernel_rfl
theorem laidOut : laidOutB Try.prog = true := by kernel_rfl
theorem int_U {x : Int} (h : (Lit.int .u32 x).wf = true) : ∃ b : BitVec 32, x = U b := ⟨BitVec.ofInt 32 x, by
  simp [Lit.wf, IntKind.min, IntKind.max, IntKind.signed, IntKind.bits] at h
  unfold U; rw [BitVec.toNat_ofInt]; omega⟩
/-- A byte's number. -/
def B (c : BitVec 8) : Int := (c.toNat : Int)
/-- Byte j behind k rounds. -/
def cur (l : List (BitVec 8)) (bits : BitVec 32) (A k j : Nat) : BitVec 8 :=
  if A / 8 ≤ j ∧ j < A / 8 + k then l.getD j 0#8 ^^^ piece bits (A % 8) (j - A / 8) else l.getD j 0#8
/-- What the round leans on: the text's bytes, as they stand behind k rounds. -/
structure Row (w : World) (n : Nat) (f : Nat → BitVec 8) (wr : World) : Prop where
  below : Below w.heap.size w wr
  cell : ∀ j, j < n → wr.cell? ⟨w.heap.size, j, none⟩ = some (.int .u8 (B (f j)))
  free : ∀ j, j < n → wr.frozen? ⟨w.heap.size, j, none⟩ = false
theorem Row.step {w : World} {n : Nat} {f g : Nat → BitVec 8} {wr : World} (h : Row w n f wr) (m : Nat) (hm : m < n) (v : Value) (hv : v = .int .u8 (B (g m))) (hg : ∀ j, j ≠ m → g j = f j) :
    Row w n g (wr.setCell ⟨w.heap.size, m, none⟩ v).drew where
  below := (h.below.setCell (Nat.le_refl _) v).drew
  cell := fun j hj => by
    show (wr.setCell ⟨w.heap.size, m, none⟩ v).cell? _ = _
    by_cases e : j = m
    · subst e; rw [World.cell?_setCell_same _ _ _ (h.cell j hj), hv]
    · rw [World.cell?_setCell_other _ _ _ _ (fun h => e (by simpa using (congrArg Addr.off h).symm)), h.cell j hj, hg j e]
  free := fun j hj => by
    show (wr.setCell ⟨w.heap.size, m, none⟩ v).frozen? _ = _
    rw [World.frozen?_setCell]; exact h.free j hj
theorem bs_get (s : ByteArray) (j : Nat) (h : j < s.size) : ((s.data.toList.getD j 0).toNat : Int) = B ((bs s).getD j 0#8) := by
  unfold B bs
  have h' : j < s.data.toList.length := by simpa using h
  rw [List.getD_eq_getElem?_getD, List.getD_eq_getElem?_getD, List.getElem?_map, List.getElem?_eq_getElem h']
  rfl
theorem Row.start (w : World) (s : ByteArray) (bits : BitVec 32) (A : Nat) : Row w s.size (cur (bs s) bits A 0) (Lib.bytesWorld w 5 s) where
  below := ⟨rfl, rfl, rfl, by rw [Lib.bytesWorld_size]; omega, fun k hk => Lib.bytesWorld_at_old w 5 s k hk⟩
  cell := fun j hj => by
    rw [Lib.bytesWorld_cell w 5 s j hj, bs_get s j hj]
    unfold cur
    rw [if_neg (by omega)]
  free := fun j hj => by
    unfold World.frozen?
    rw [Lib.bytesWorld_at_new]
    simp [Lib.bytesCells]
    try omega
theorem shift_val (b : BitVec 32) (s k : Nat) (hs : s < 8) (c : BitVec 8) :
    bits .xor .u8 (B c) (IntKind.u64.wrap (IntKind.u64.wrap (U b) * 2 ^ s) / 2 ^ (8 * k) % 256) = B (c ^^^ piece b s k) := by
  have hp : IntKind.u64.wrap (IntKind.u64.wrap (U b) * 2 ^ s) / 2 ^ (8 * k) % 256 = B (piece b s k) := by
    have hb := b.isLt
    have h1 : IntKind.u64.wrap (U b) = (b.toNat : Int) := by
      unfold U; simp [IntKind.wrap, IntKind.bits, IntKind.signed]; omega
    have h2 : IntKind.u64.wrap ((b.toNat : Int) * 2 ^ s) = ((b.toNat * 2 ^ s % 18446744073709551616 : Nat) : Int) := by
      rw [show IntKind.u64.wrap ((b.toNat : Int) * 2 ^ s) = ((b.toNat : Int) * 2 ^ s) % 18446744073709551616 from rfl]
      rw [Int.natCast_emod, Int.natCast_mul, Int.natCast_pow]
      rfl
    rw [h1, h2]
    unfold B piece
    simp only [BitVec.truncate_eq_setWidth, BitVec.toNat_setWidth, BitVec.toNat_ushiftRight, BitVec.toNat_shiftLeft, Nat.shiftLeft_eq, Nat.shiftRight_eq_div_pow]
    rw [Nat.mod_eq_of_lt (show b.toNat < 2 ^ 64 by omega)]
    show ((b.toNat * 2 ^ s % 18446744073709551616 : Nat) : Int) / 2 ^ (8 * k) % 256 = ((b.toNat * 2 ^ s % 18446744073709551616 / 2 ^ (8 * k) % 256 : Nat) : Int)
    generalize b.toNat * 2 ^ s % 18446744073709551616 = z
    rw [Int.natCast_emod, Int.natCast_ediv, Int.natCast_pow]
    rfl
  rw [hp]
  have hB : ∀ c : BitVec 8, BitVec.ofInt 8 (B c) = c := fun c => by unfold B; rw [BitVec.ofInt_natCast]; simp
  show IntKind.u8.wrap (((BitVec.ofInt 8 (B c) ^^^ BitVec.ofInt 8 (B (piece b s k))).toNat : Nat) : Int) = _
  rw [hB, hB]
  unfold B
  have := (c ^^^ piece b s k).isLt
  generalize (c ^^^ piece b s k).toNat = z at *
  rw [show IntKind.u8.wrap (z : Int) = (z : Int) % 256 from rfl]
  omega
theorem cur_next (l : List (BitVec 8)) (bits : BitVec 32) (A k j : Nat) (h : j ≠ A / 8 + k) : cur l bits A (k + 1) j = cur l bits A k j := by
  unfold cur
  by_cases h1 : A / 8 ≤ j ∧ j < A / 8 + k
  · rw [if_pos h1, if_pos (by omega)]
  · rw [if_neg h1, if_neg (by omega)]
theorem cur_here (l : List (BitVec 8)) (bits : BitVec 32) (A k : Nat) : cur l bits A (k + 1) (A / 8 + k) = cur l bits A k (A / 8 + k) ^^^ piece bits (A % 8) k := by
  unfold cur
  rw [if_pos (by omega), if_neg (by omega), show A / 8 + k - A / 8 = k by omega]
/-- The text that comes out. -/
def outText (s : ByteArray) (b : BitVec 32) (A : Nat) : ByteArray := strOfNums ((List.range s.size).map fun j => B (cur (bs s) b A 5 j))
theorem outText_size (s : ByteArray) (b : BitVec 32) (A : Nat) : (outText s b A).size = s.size := by simp [outText, strOfNums_size]
theorem outText_bs (s : ByteArray) (b : BitVec 32) (A : Nat) : bs (outText s b A) = (List.range s.size).map (cur (bs s) b A 5) := by
  unfold bs outText
  rw [strOfNums_data, List.map_map, List.map_map]
  refine List.map_congr_left fun j _ => ?_
  simp only [Function.comp]
  apply BitVec.eq_of_toNat_eq
  have := (cur (List.map (fun x => x.toBitVec) s.data.toList) b A 5 j).isLt
  show (UInt8.ofNat (B (cur (bs s) b A 5 j)).toNat).toNat = _
  simp [B, bs]
theorem out_split (l : List (BitVec 8)) (b : BitVec 32) (A : Nat) (h : A / 8 + 5 ≤ l.length) : ∃ p q c0 c1 c2 c3 c4,
    l = p ++ [c0, c1, c2, c3, c4] ++ q ∧ (List.range l.length).map (cur l b A 5) = p ++ [c0 ^^^ piece b (A % 8) 0, c1 ^^^ piece b (A % 8) 1, c2 ^^^ piece b (A % 8) 2, c3 ^^^ piece b (A % 8) 3, c4 ^^^ piece b (A % 8) 4] ++ q := by
  obtain ⟨p, r, hl, hp⟩ : ∃ p r, l = p ++ r ∧ p.length = A / 8 := ⟨l.take (A / 8), l.drop (A / 8), (List.take_append_drop _ _).symm, by rw [List.length_take]; omega⟩
  subst hl
  have hr : 5 ≤ r.length := by rw [List.length_append] at h; omega
  match r, hr with
  | c0 :: c1 :: c2 :: c3 :: c4 :: q, _ =>
    refine ⟨p, q, c0, c1, c2, c3, c4, by simp, ?_⟩
    have hg : ∀ j, (p ++ c0 :: c1 :: c2 :: c3 :: c4 :: q).getD j 0#8 = if j < A / 8 then p.getD j 0#8 else (c0 :: c1 :: c2 :: c3 :: c4 :: q).getD (j - A / 8) 0#8 := fun j => by
      rw [List.getD_eq_getElem?_getD, List.getElem?_append, hp]
      split <;> rw [List.getD_eq_getElem?_getD]
    apply List.ext_getElem?
    intro j
    rw [List.getElem?_map, List.append_assoc]
    rcases Nat.lt_or_ge j (A / 8) with hj | hj
    · rw [List.getElem?_append_left (by omega), List.getElem?_range (by simp; omega)]
      simp only [Option.map_some, cur, hg]
      rw [if_neg (by omega), if_pos hj, List.getD_eq_getElem?_getD, List.getElem?_eq_getElem (by omega)]
      rfl
    · obtain ⟨i, rfl⟩ : ∃ i, j = A / 8 + i := ⟨j - A / 8, by omega⟩
      rw [List.getElem?_append_right (by omega), hp, show A / 8 + i - A / 8 = i by omega]
      rcases Nat.lt_or_ge i 5 with hi | hi
      · rw [List.getElem?_range (by simp; omega)]
        simp only [Option.map_some, cur, hg]
        rw [if_pos (by omega), if_neg (by omega), show A / 8 + i - A / 8 = i by omega]
        rcases i with _ | _ | _ | _ | _ | i
        · rfl
        · rfl
        · rfl
        · rfl
        · rfl
        · omega
      · obtain ⟨m, rfl⟩ : ∃ m, i = m + 5 := ⟨i - 5, by omega⟩
        show _ = q[m]?
        rcases Nat.lt_or_ge m q.length with hm | hm
        · rw [List.getElem?_range (by simp; omega)]
          simp only [Option.map_some, cur, hg]
          rw [if_neg (by omega), if_neg (by omega), show A / 8 + (m + 5) - A / 8 = m + 5 by omega]
          show some (q.getD m 0#8) = _
          rw [List.getD_eq_getElem?_getD, List.getElem?_eq_getElem hm]
          rfl
        · rw [List.getElem?_eq_none hm, List.getElem?_eq_none (by simp; omega)]
          rfl
theorem sums_differ (s : ByteArray) (b : BitVec 32) (A : Nat) (h : A / 8 + 5 ≤ s.size) (hb : ¬ U b = 0) : (U (sum (bs (outText s b A))) != U (sum (bs s))) = true := by
  have hb' : b ≠ 0#32 := fun e => hb (by rw [e]; rfl)
  rw [outText_bs]
  obtain ⟨p, q, c0, c1, c2, c3, c4, e1, e2⟩ := out_split (bs s) b A (by rw [bs_length]; exact h)
  rw [bs_length] at e2
  rw [e2]
  have hne := sum_turned p q c0 c1 c2 c3 c4 b (A % 8) (by omega) hb'
  rw [← e1] at hne
  rw [bne_iff_ne]
  intro h
  apply hne
  apply BitVec.eq_of_toNat_eq
  unfold U at h
  omega
theorem out_conv (w wr : World) (s : ByteArray) (b : BitVec 32) (A cap : Nat) (h : Row w s.size (cur (bs s) b A 5) wr) :
    (convert 32 9 (.slice (some ⟨w.heap.size, 0, none⟩) s.size cap)).run Try.prog wr = .ok (.string (outText s b A)) wr :=
  run_convert_bytes_arg wr 32 5 Try.underlying32 Try.underlying5 w.heap.size 0 s.size cap _ (by simp) (fun i hi => by
    rw [Nat.zero_add, h.cell i hi]
    simp [List.getD_eq_getElem?_getD, hi]) 9 Try.underlying9

/-! ### The walk -/
set_option maxRecDepth 100000 in
set_option maxHeartbeats 4000000 in
theorem walk (a0 : ByteArray) (a1 : Int) (a2 : Int) (w : World) (w0 : a0.size ≤ maxLen) (w1 : (Lit.int .i64 a1).wf = true) (w2 : (Lit.int .u32 a2).wf = true) :
    Calls Try.prog 7 #[.string a0, .int .i64 a1, .int .u32 a2] w fun e w' => e = .returned (.bool true) ∧ Below w.heap.size w w' := by
  by_cases h1 : a0.size ≤ 65536
  · by_cases h2 : 5 ≤ a0.size
    · by_cases h3 : a2 = 0
      · have h3' : (a2 == 0) = true := by simp [h3]
        clear w0 w1 w2
        go_enter Try.func7, Try.ntmps7
        go_wp2_with (go_at_call 9; refine (awake_any _).mono ?_; rintro e w' ⟨rfl, rfl⟩)
        go_ret
        exact ⟨rfl, Below.refl _ _⟩
      · obtain ⟨b, rfl⟩ := int_U w2
        have h3' : (U b == 0) = false := by simp [h3]
        have hk : ∀ w : World, (convert 9 32 (.string a0)).run Try.prog w = .ok (.slice (some ⟨w.heap.size, 0, none⟩) a0.size (grownCap w a0.size 0 5)) (Lib.bytesWorld w 5 a0) :=
          fun w => Lib.run_convert_string_bytes w 9 32 5 a0 Try.underlying9 Try.underlying32 Try.underlying5
        obtain ⟨A, hA, hAl⟩ : ∃ A : Nat, wrap64 ((IntKind.u64.wrap a1).tmod (8 * (↑a0.size - 4))) = (A : Int) ∧ A < 8 * (a0.size - 4) := by
          have hw : 0 ≤ IntKind.u64.wrap a1 := by simp [IntKind.wrap, IntKind.bits, IntKind.signed]; omega
          have hm := Int.emod_lt_of_pos (IntKind.u64.wrap a1) (show (0 : Int) < 8 * (↑a0.size - 4) by omega)
          have hm0 := Int.emod_nonneg (IntKind.u64.wrap a1) (show (8 * (↑a0.size - 4) : Int) ≠ 0 by omega)
          rw [Int.tmod_eq_emod_of_nonneg hw]
          generalize IntKind.u64.wrap a1 % (8 * (↑a0.size - 4)) = z at *
          refine ⟨z.toNat, ?_, by omega⟩
          unfold wrap64; omega
        have hA8 : A / 8 + 5 ≤ a0.size := by omega
        have hA7 : A % 8 < 8 := by omega
        have HW0 := hid w0
        have hne := sums_differ a0 b A hA8 h3
        have HNE := hid hne
        have hsz : (outText a0 b A).size ≤ maxLen := by rw [outText_size]; exact w0
        have HSZ := hid hsz
        clear w0 w1 w2 hne hsz
        go_enter Try.func7, Try.ntmps7
        go_wp2_with fail
        clear hk
        rw [hA]
        clear hA
        generalize hX : IntKind.u64.wrap (IntKind.u64.wrap (U b) * 2 ^ (A % 8)) = X
        have HX := hid hX; clear hX
        go_loopw [9] (fun i wr => ∃ k : Nat, k ≤ 5 ∧ i = .int .i64 k ∧ Row w a0.size (cur (bs a0) b A k) wr) (fun i _ => 5 - (intOf i).toNat)
        case atStart => exact ⟨0, Nat.zero_le _, rfl, Row.start w a0 b A⟩
        case round =>
          obtain ⟨k, hk, rfl, hR⟩ := hrel
          by_cases hlt : k < 5
          · have hc := hR.cell (A / 8 + k) (by omega)
            have hf := hR.free (A / 8 + k) (by omega)
            have i0 : (0 : Int) ≤ (A : Int) / 8 + k := by omega
            have i1 : (A : Int) / 8 + k < a0.size := by omega
            have i2 : ((A : Int) / 8 + k).toNat = A / 8 + k := by omega
            go_wp2_with fail
            go_region
            go_wp2_with fail
            go_roundw
            case rel =>
              refine ⟨k + 1, by omega, by go_num, hR.step (A / 8 + k) (by omega) _ ?_ (fun j hj => cur_next _ _ _ _ _ hj)⟩
              rw [← HX.out, shift_val b (A % 8) k hA7, cur_here]
            case measure => simp [intOf]; omega
          · obtain rfl : k = 5 := by omega
            have hcv := out_conv w wr a0 b A (grownCap w a0.size 0 5) hR
            have hne := HNE.out
            go_wp2_with (go_at_call 10; refine (sum_any _ (by first | exact HW0.out | exact HSZ.out) _).mono ?_; rintro e w' ⟨rfl, rfl⟩)
            go_ret
            exact ⟨rfl, hR.below⟩
    · clear w0 w1 w2
      go_enter Try.func7, Try.ntmps7
      go_wp2_with (go_at_call 9; refine (awake_any _).mono ?_; rintro e w' ⟨rfl, rfl⟩)
      go_ret
      exact ⟨rfl, Below.refl _ _⟩
  · clear w0 w1 w2
    go_enter Try.func7, Try.ntmps7
    go_wp2_with (go_at_call 9; refine (awake_any _).mono ?_; rintro e w' ⟨rfl, rfl⟩)
    go_ret
    exact ⟨rfl, Below.refl _ _⟩

/-! ### The row's step -/
set_option maxRecDepth 100000 in
theorem lifted (os : Os) (started : os.Started) (H : Type) (enc : TypeId × Value → H) :
    ReturnsInHanded {} Try.checked os 7 .any (Rows.crcTurnedSpec.pre6 enc Try.prog Try.f7 Rows.crcTurnedRow.domain false) (Rows.crcTurnedSpec.post enc Try.prog Try.f7 false true false false) := by
  refine returnsInHanded_of_change (C := Try.checked) own started (by kernel_rfl) Try.func7
    (ChangeSpec.witness6 (enc := enc) (C := Try.checked) false ⟨#[], #[.string ByteArray.empty, .int .i64 0, .int .u32 0], []⟩ 8 (by kernel_rfl) (by kernel_rfl) (by kernel_rfl) (by kernel_rfl)) ?_
  intro W base args ds gs before hval0 hW hcnd _
  have hval : ∀ (j : Nat) t v, Try.f7.params[j]? = some t → args[j]? = some v → Value.okWide Try.prog W .any base t v := hval0
  have hW' := hW
  obtain ⟨p, q, hA0, hV, rfl, hfz, hnd⟩ := hW
  have hA : DataW.TrodAll enc Try.prog W 0 (fun _ => true) true Try.f7.params.toList args.toList ds p := hA0
  rw [Try.params7] at hA hval
  obtain ⟨v0, vs0, d0, ds0, p0, q0, hargs, rfl, rfl, h0, r0⟩ := trodAll_cons hA
  obtain ⟨v1, vs1, d1, ds1, p1, q1, rfl, rfl, rfl, h1, r1⟩ := trodAll_cons r0
  obtain ⟨v2, vs2, d2, ds2, p2, q2, rfl, rfl, rfl, h2, r2⟩ := trodAll_cons r1
  obtain ⟨rfl, rfl, rfl⟩ := trodAll_nil r2
  obtain rfl : args = #[v0, v1, v2] := by cases args; simp_all
  obtain ⟨rfl, rfl⟩ := trodVars_none hV
  obtain ⟨a0, rfl, rfl, rfl, w0⟩ := open_string Try.underlying9 (hval 0 9 v0 rfl rfl) h0
  obtain ⟨a1, rfl, rfl, rfl, w1⟩ := open_int Try.underlying3 (hval 1 3 v1 rfl rfl) h1
  obtain ⟨a2, rfl, rfl, rfl, w2⟩ := open_int Try.underlying22 (hval 2 22 v2 rfl rfl) h2
  clear hA0 hval0
  refine (walk a0 a1 a2 W w0 w1 w2).mono fun e W' ⟨he, bel⟩ => ?_
  subst he
  exact ⟨_, rfl, _, _, _, [], _, [], hW', trodAll_mk1 (shut_bool Try.underlying4 _), (trodAll_cons_mk (shut_string Try.underlying9 w0) (trodAll_cons_mk (shut_int Try.underlying3 w1) (trodAll_cons_mk (shut_int Try.underlying22 w2) trodAll_mk0))), rfl, bel.frame _, fun h => by cases h⟩

theorem over : Rows.crcTurnedRow.holds Try.pinned (OpenSpec.ofChange Rows.crcTurnedSpec) :=
  OpenClaim.holds_of_wide 7 Try.f7 rfl rfl rfl rfl rfl rfl rfl ⟨rfl, rfl, rfl, rfl, rfl⟩ rfl rfl rfl rfl rfl (by kernel_rfl) Try.func7 (by kernel_rfl)
    (of_decide_eq_true (by kernel_rfl)) (by unfold Func.isWrapper; first | (rw [if_pos (by decide +kernel)]; kernel_rfl) | (rw [if_neg (by decide +kernel)]; exact ⟨rfl, rfl⟩))
    (fun os started H enc _ => lifted os started H enc)

/-- The statement. -/
theorem proved : Rows.CrcTurnedSaid := over
#print axioms proved
end Go.Proofs.Ytkhlgfmldpgebaa.crcTurned
