/- For any three texts: of the first bytes of each, as many as the shortest has (65536 at most), and the text whose bits are those that an odd number of them has, the sums go together likewise; the arguments read behind the call as they did. No condition. -/
import Derived.Test.YtkhlgfmldpgebaaRows
import Derived.Test.YtkhlgfmldpgebaaWalks
import Derived.WalkKit
import Derived.ProofKit
import Derived.OpenShut
import Derived.ShutString
import Derived.Carry
import Derived.Lib.ConvBytes
import Derived.Laws.BytesArg
import Derived.BigQuiet
import Derived.WalkLawsBesides
namespace Go.Proofs.Ytkhlgfmldpgebaa.crcEven
open Crc
open Go.ChangeShapes Go.WideShapes Go.ChangeAt Go.RowKit
open Go.ChangeMaps (open_string shut_string)
set_option linter.unusedVariables false

theorem own : ownKnob Try.prog.godebug = none := by kernel_rfl
theorem laidOut : laidOutB Try.prog = true := by kernel_rfl
theorem run_min4 (a b c d : Nat) (w : World) : (Builtin.min_ #[3, 3, 3, 3] 3 #[.int .i64 (a : Int), .int .i64 (b : Int), .int .i64 (c : Int), .int .i64 (d : Int)]).run Try.prog w = .ok (.int .i64 ((min (min (min a b) c) d : Nat) : Int)) w := by
  simp only [Builtin.min_, Builtin.min2, List.foldlM, bind, Sem.bind, pure, Sem.run]
  congr 2
  split <;> split <;> split <;> omega
/-- A byte's number. -/
def B (c : BitVec 8) : Int := (c.toNat : Int)
/-- What the round leans on: the text's bytes, as they stand behind k rounds. -/
structure Row (w : World) (n : Nat) (f : Nat → BitVec 8) (wr : World) : Prop where
  below : Below w.heap.size w wr
  cell : ∀ j, j < n → wr.cell? ⟨w.heap.size, j, none⟩ = some (.int .u8 (B (f j)))
  free : ∀ j, j < n → wr.frozen? ⟨w.heap.size, j, none⟩ = false
theorem Row.step {w : World} {n : Nat} {f g : Nat → BitVec 8} {wr : World} (h : Row w n f wr) (m : Nat) (hm : m < n) (v : Value) (hv : v = .int .u8 (B (g m))) (hg : ∀ j, j ≠ m → g j = f j) :
    Row w n g (wr.setCell ⟨w.heap.size, m, none⟩ v).drew where
  below := (h.below.setCell (Nat.le_refl _) v).drew
  cell := fun j hj => by
    show (wr.setCell ⟨w.heap.size, m, none⟩ v).cell? _ = _
    by_cases e : j = m
    · subst e; rw [World.cell?_setCell_same _ _ _ (h.cell j hj), hv]
    · rw [World.cell?_setCell_other _ _ _ _ (fun h => e (by simpa using (congrArg Addr.off h).symm)), h.cell j hj, hg j e]
  free := fun j hj => by
    show (wr.setCell ⟨w.heap.size, m, none⟩ v).frozen? _ = _
    rw [World.frozen?_setCell]; exact h.free j hj
theorem infoB : (Try.prog.info? 5).map (fun i => (i.zero, i.size, i.bytes)) = some (some (.int .u8 0), 1, 1) := by kernel_rfl
/-- The byte at j of three texts: that of an odd number of them. -/
def tri (a b c : List (BitVec 8)) (k j : Nat) : BitVec 8 := if j < k then a.getD j 0#8 ^^^ b.getD j 0#8 ^^^ c.getD j 0#8 else 0#8
theorem Row.start {w w1 : World} {n : Nat} (f : Nat → BitVec 8) (hf : ∀ j, f j = 0#8) (hown : w1.ownsRow w.heap.size 5 1 (.slice (some ⟨w.heap.size, 0, none⟩) n n) n (madeCells #[.int .u8 0] n).toList) (hg : w.grownBy w1 none) : Row w n f w1 := by
  obtain ⟨_, h | ⟨g, cap, cur, hv, _, hb, _, _, _, hx⟩⟩ := hown
  · cases h.1
  · simp only [Value.slice.injEq, Option.some.injEq, Addr.mk.injEq] at hv
    obtain ⟨⟨rfl, _⟩, _, _⟩ := hv
    refine ⟨(Below.refl _ _).grown hg (Nat.le_refl _) (fun k e => by cases e), fun j hj => ?_, fun j hj => by simp [World.frozen?, hb]⟩
    have h1 : cur[j]? = some (.int .u8 0) := by
      have h2 := congrArg (fun l => l[j]?) hx
      simp only [Nat.mul_one] at h2
      rw [List.getElem?_take_of_lt hj] at h2
      rw [← Array.getElem?_toList, h2]
      simp [madeCells, hj, Nat.mod_one]
    simp only [World.cell?, hb, Option.isSome_none, Bool.false_eq_true, if_false, h1, hf j]
    rfl
theorem byte_val (s : ByteArray) (k : Nat) (h : k < s.size) : ((s[k].toNat : Nat) : Int) = B ((bs s).getD k 0#8) := by
  unfold B bs
  have h' : k < s.data.toList.length := by simpa using h
  rw [List.getD_eq_getElem?_getD, List.getElem?_map, List.getElem?_eq_getElem h']
  rfl
theorem B_xor (c d : BitVec 8) : bits .xor .u8 (B c) (B d) = B (c ^^^ d) := by
  have hB : ∀ c : BitVec 8, BitVec.ofInt 8 (B c) = c := fun c => by unfold B; rw [BitVec.ofInt_natCast]; simp
  show IntKind.u8.wrap (((BitVec.ofInt 8 (B c) ^^^ BitVec.ofInt 8 (B d)).toNat : Nat) : Int) = _
  rw [hB, hB]
  unfold B
  have := (c ^^^ d).isLt
  generalize (c ^^^ d).toNat = z at *
  rw [show IntKind.u8.wrap (z : Int) = (z : Int) % 256 from rfl]
  omega
theorem tri_here (x y z : ByteArray) (k : Nat) (hx : k < x.size) (hy : k < y.size) (hz : k < z.size) :
    bits .xor .u8 (bits .xor .u8 (x[k].toNat : Int) (y[k].toNat : Int)) (z[k].toNat : Int) = B (tri (bs x) (bs y) (bs z) (k + 1) k) := by
  rw [byte_val x k hx, byte_val y k hy, byte_val z k hz, B_xor, B_xor, tri, if_pos (by omega)]
theorem tri_next (a b c : List (BitVec 8)) (k j : Nat) (h : j ≠ k) : tri a b c (k + 1) j = tri a b c k j := by
  unfold tri
  by_cases h1 : j < k
  · rw [if_pos h1, if_pos (by omega)]
  · rw [if_neg h1, if_neg (by omega)]
def triText (x y z : ByteArray) (n : Nat) : ByteArray := strOfNums ((List.range n).map fun j => B (tri (bs x) (bs y) (bs z) n j))
theorem triText_size (x y z : ByteArray) (n : Nat) : (triText x y z n).size = n := by simp [triText, strOfNums_size]
theorem triText_bs (x y z : ByteArray) (n : Nat) : bs (triText x y z n) = (List.range n).map (tri (bs x) (bs y) (bs z) n) := by
  unfold triText
  show (strOfNums _).data.toList.map _ = _
  rw [strOfNums_data, List.map_map, List.map_map]
  refine List.map_congr_left fun j _ => ?_
  simp only [Function.comp]
  apply BitVec.eq_of_toNat_eq
  have := (tri (bs x) (bs y) (bs z) n j).isLt
  show (UInt8.ofNat (B (tri (bs x) (bs y) (bs z) n j)).toNat).toNat = _
  simp [B]
theorem xor3_get : ∀ (a b c : List (BitVec 8)) (j : Nat), j < a.length → a.length = b.length → b.length = c.length → (xor3 a b c)[j]? = some (a.getD j 0#8 ^^^ b.getD j 0#8 ^^^ c.getD j 0#8)
  | a :: l, b :: m, c :: n, 0, _, _, _ => by simp [xor3]
  | a :: l, b :: m, c :: n, j + 1, h, h1, h2 => by
    simp only [xor3, List.getElem?_cons_succ, List.getD_cons_succ]
    exact xor3_get l m n j (by simpa using h) (by simpa using h1) (by simpa using h2)
theorem xor3_length : ∀ (a b c : List (BitVec 8)), a.length = b.length → b.length = c.length → (xor3 a b c).length = a.length
  | [], [], [], _, _ => rfl
  | a :: l, b :: m, c :: n, h1, h2 => by simp only [xor3, List.length_cons]; rw [xor3_length l m n (by simpa using h1) (by simpa using h2)]
theorem tri_xor3 (x y z : ByteArray) (n : Nat) (hx : n ≤ x.size) (hy : n ≤ y.size) (hz : n ≤ z.size) :
    (List.range n).map (tri (bs x) (bs y) (bs z) n) = xor3 ((bs x).take n) ((bs y).take n) ((bs z).take n) := by
  have lx : ((bs x).take n).length = n := by rw [List.length_take, bs_length]; omega
  have ly : ((bs y).take n).length = n := by rw [List.length_take, bs_length]; omega
  have lz : ((bs z).take n).length = n := by rw [List.length_take, bs_length]; omega
  apply List.ext_getElem?
  intro j
  rcases Nat.lt_or_ge j n with hj | hj
  · rw [xor3_get _ _ _ j (by omega) (by omega) (by omega), List.getElem?_map, List.getElem?_range hj]
    simp only [Option.map_some, tri, if_pos hj, List.getD_eq_getElem?_getD, List.getElem?_take_of_lt hj]
  · rw [List.getElem?_eq_none (by simp; omega), List.getElem?_eq_none (by rw [xor3_length _ _ _ (by omega) (by omega)]; omega)]
theorem cut_bs (x : ByteArray) (n : Nat) : bs (x.extract 0 n) = (bs x).take n := by
  unfold bs
  rw [ByteArray.data_extract, Array.toList_extract]
  simp [List.map_take]
theorem sums_even (x y z : ByteArray) (n : Nat) (hx : n ≤ x.size) (hy : n ≤ y.size) (hz : n ≤ z.size) :
    (U (sum (bs (triText x y z n))) == bits .xor .u32 (bits .xor .u32 (U (sum (bs (x.extract 0 n)))) (U (sum (bs (y.extract 0 n))))) (U (sum (bs (z.extract 0 n))))) = true := by
  rw [U_xor, U_xor, triText_bs, tri_xor3 x y z n hx hy hz, cut_bs, cut_bs, cut_bs, sum_xor3 _ _ _ (by simp [bs_length]; omega) (by simp [bs_length]; omega)]
  simp
theorem out_conv (w wr : World) (x y z : ByteArray) (n cap : Nat) (h : Row w n (tri (bs x) (bs y) (bs z) n) wr) (q : Nat) :
    (convert 32 9 (.slice (some ⟨w.heap.size, 0, none⟩) n cap)).run Try.prog (wr.drewN q) = .ok (.string (triText x y z n)) (wr.drewN q) :=
  run_convert_bytes_arg (wr.drewN q) 32 5 Try.underlying32 Try.underlying5 w.heap.size 0 n cap _ (by simp) (fun i hi => by
    rw [Nat.zero_add]
    show wr.cell? _ = _
    rw [h.cell i hi]
    simp [List.getD_eq_getElem?_getD, hi]) 9 Try.underlying9

/-! ### The walk -/
set_option maxRecDepth 100000 in
set_option maxHeartbeats 4000000 in
theorem walk (a0 : ByteArray) (a1 : ByteArray) (a2 : ByteArray) (w : World) (w0 : a0.size ≤ maxLen) (w1 : a1.size ≤ maxLen) (w2 : a2.size ≤ maxLen) :
    Calls Try.prog 8 #[.string a0, .string a1, .string a2] w fun e w' => e = .returned (.bool true) ∧ Below w.heap.size w w' := by
  unfold maxLen at w0 w1 w2
  have hmin : ∀ w : World, (Builtin.min_ #[3, 3, 3, 3] 3 #[.int .i64 (a0.size : Int), .int .i64 (a1.size : Int), .int .i64 (a2.size : Int), .int .i64 65536]).run Try.prog w = .ok (.int .i64 ((min (min (min a0.size a1.size) a2.size) 65536 : Nat) : Int)) w := fun w => run_min4 a0.size a1.size a2.size 65536 w
  generalize hn : min (min (min a0.size a1.size) a2.size) 65536 = n at *
  have hn0 : n ≤ a0.size := by omega
  have hn1 : n ≤ a1.size := by omega
  have hn2 : n ≤ a2.size := by omega
  have hn3 : n ≤ 65536 := by omega
  have Hw0 := hid w0
  clear hn w0 w1 w2
  obtain ⟨i0, hi, hz0, hz1, hz2⟩ := info_parts infoB
  go_enter Try.func8, Try.ntmps8
  go_wp2_with (first | (at_make; refine wpList_make_full _ rfl _ _ 32 rfl w.heap.size 5 i0 (.int .u8 0) 1 Try.underlying32 hi hz0 hz1 _ _ _ _ n rfl rfl rfl rfl (by rw [hz2]; omega) (by unfold maxLen; omega) (Nat.le_refl _) ?_))
  intro w1 hown hgr
  go_wp2_with fail
  clear hmin hi hz0 hz1 hz2
  have hst := Row.start (tri (bs a0) (bs a1) (bs a2) 0) (fun j => by unfold tri; rw [if_neg (by omega)]) hown hgr
  clear hown hgr
  go_loopw [21] (fun i wr => ∃ k : Nat, k ≤ n ∧ i = .int .i64 k ∧ Row w n (tri (bs a0) (bs a1) (bs a2) k) wr) (fun i _ => n - (intOf i).toNat)
  case atStart => exact ⟨0, Nat.zero_le _, rfl, hst⟩
  case round =>
    clear hst
    obtain ⟨k, hk, rfl, hR⟩ := hrel
    by_cases hlt : k < n
    · have hc := hR.cell k hlt
      have hf := hR.free k hlt
      have j0 : k < a0.size := by omega
      have j1 : k < a1.size := by omega
      have j2 : k < a2.size := by omega
      go_wp2_with fail
      go_region
      go_wp2_with fail
      go_roundw
      case rel => exact ⟨k + 1, by omega, by go_num, hR.step k hlt _ (congrArg (Value.int .u8) (tri_here a0 a1 a2 k j0 j1 j2)) (fun j hj => tri_next _ _ _ _ _ hj)⟩
      case measure => simp [intOf]; omega
    · obtain rfl : k = n := by omega
      have hcv := out_conv w wr a0 a1 a2 k k hR
      have hev := sums_even a0 a1 a2 k hn0 hn1 hn2
      have hm0 : (a0.extract 0 k).size ≤ maxLen := by rw [ByteArray.size_extract]; unfold maxLen; omega
      have hm1 : (a1.extract 0 k).size ≤ maxLen := by rw [ByteArray.size_extract]; unfold maxLen; omega
      have hm2 : (a2.extract 0 k).size ≤ maxLen := by rw [ByteArray.size_extract]; unfold maxLen; omega
      have hm3 : (triText a0 a1 a2 k).size ≤ maxLen := by rw [triText_size]; unfold maxLen; omega
      have Hm0 := hid hm0
      have Hm1 := hid hm1
      have Hm2 := hid hm2
      have Hm3 := hid hm3
      clear hm0 hm1 hm2 hm3
      go_wp2_with fail
      go_quiet ((first
        | (go_at_call 10; exact Calls.quiet_of_same ((sum_any _ (by first | exact Hm0.out | exact Hm1.out | exact Hm2.out | exact Hm3.out) _).mono fun e w' h => ⟨h.1, h.2.symm⟩))
        | (go_at_call 9; exact Calls.quiet_of_same ((awake_any _).mono fun e w' h => ⟨h.1, h.2.symm⟩))))
      go_wp2_with fail
      go_ret
      exact ⟨rfl, below_drewN hR.below nq⟩

/-! ### The row's step -/
set_option maxRecDepth 100000 in
theorem lifted (os : Os) (started : os.Started) (H : Type) (enc : TypeId × Value → H) :
    ReturnsInHanded {} Try.checked os 8 .any (Rows.crcEvenSpec.pre6 enc Try.prog Try.f8 Rows.crcEvenRow.domain false) (Rows.crcEvenSpec.post enc Try.prog Try.f8 false true false false) := by
  refine returnsInHanded_of_change (C := Try.checked) own started (by kernel_rfl) Try.func8
    (ChangeSpec.witness6 (enc := enc) (C := Try.checked) false ⟨#[], #[.string ByteArray.empty, .string ByteArray.empty, .string ByteArray.empty], []⟩ 8 (by kernel_rfl) (by kernel_rfl) (by kernel_rfl) (by kernel_rfl)) ?_
  intro W base args ds gs before hval0 hW hcnd _
  have hval : ∀ (j : Nat) t v, Try.f8.params[j]? = some t → args[j]? = some v → Value.okWide Try.prog W .any base t v := hval0
  have hW' := hW
  obtain ⟨p, q, hA0, hV, rfl, hfz, hnd⟩ := hW
  have hA : DataW.TrodAll enc Try.prog W 0 (fun _ => true) true Try.f8.params.toList args.toList ds p := hA0
  rw [Try.params8] at hA hval
  obtain ⟨v0, vs0, d0, ds0, p0, q0, hargs, rfl, rfl, h0, r0⟩ := trodAll_cons hA
  obtain ⟨v1, vs1, d1, ds1, p1, q1, rfl, rfl, rfl, h1, r1⟩ := trodAll_cons r0
  obtain ⟨v2, vs2, d2, ds2, p2, q2, rfl, rfl, rfl, h2, r2⟩ := trodAll_cons r1
  obtain ⟨rfl, rfl, rfl⟩ := trodAll_nil r2
  obtain rfl : args = #[v0, v1, v2] := by cases args; simp_all
  obtain ⟨rfl, rfl⟩ := trodVars_none hV
  obtain ⟨a0, rfl, rfl, rfl, w0⟩ := open_string Try.underlying9 (hval 0 9 v0 rfl rfl) h0
  obtain ⟨a1, rfl, rfl, rfl, w1⟩ := open_string Try.underlying9 (hval 1 9 v1 rfl rfl) h1
  obtain ⟨a2, rfl, rfl, rfl, w2⟩ := open_string Try.underlying9 (hval 2 9 v2 rfl rfl) h2
  clear hA0 hval0
  refine (walk a0 a1 a2 W w0 w1 w2).mono fun e W' ⟨he, bel⟩ => ?_
  subst he
  exact ⟨_, rfl, _, _, _, [], _, [], hW', trodAll_mk1 (shut_bool Try.underlying4 _), (trodAll_cons_mk (shut_string Try.underlying9 w0) (trodAll_cons_mk (shut_string Try.underlying9 w1) (trodAll_cons_mk (shut_string Try.underlying9 w2) trodAll_mk0))), rfl, bel.frame _, fun h => by cases h⟩

theorem over : Rows.crcEvenRow.holds Try.pinned (OpenSpec.ofChange Rows.crcEvenSpec) :=
  OpenClaim.holds_of_wide 8 Try.f8 rfl rfl rfl rfl rfl rfl rfl ⟨rfl, rfl, rfl, rfl, rfl⟩ rfl rfl rfl rfl rfl (by kernel_rfl) Try.func8 (by kernel_rfl)
    (of_decide_eq_true (by kernel_rfl)) (by unfold Func.isWrapper; first | (rw [if_pos (by decide +kernel)]; kernel_rfl) | (rw [if_neg (by decide +kernel)]; exact ⟨rfl, rfl⟩))
    (fun os started H enc _ => lifted os started H enc)

/-- The statement. -/
theorem proved : Rows.CrcEvenSaid := over
#print axioms proved
end Go.Proofs.Ytkhlgfmldpgebaa.crcEven
