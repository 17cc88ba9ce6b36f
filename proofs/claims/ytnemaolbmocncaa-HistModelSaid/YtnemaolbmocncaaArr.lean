/- Rows of bytes in memory: what an array of bytes is, read, written, copied, compared; over any program. -/
import Derived.WalkKit
import Derived.KernelRfl
import Derived.DeepKeys
import Derived.Laws.CopyOwn
import Derived.Deep.WholeRow
import Derived.OpenShut
import Derived.WideShapes
import Derived.Lib.ConvBytes
import Derived.Laws.BytesArg
import Derived.WalkSmall
namespace Go.Proofs.Ytnemaolbmocncaa
open Go.RowKit
/-! The slots' frame in normal form: short names, for the printed walks. -/
theorem Z1 {α : Type} {a : List α} {i : Nat} (h : i < a.toArray.size) : a.toArray[i] = a[i]'(by simpa using h) := rfl
theorem Z2 {α : Type} {a : α} {l : List α} (h : 0 < (a :: l).length) : (a :: l)[0] = a := rfl
theorem Z3 {α : Type} {a : α} {l : List α} {i : Nat} (h : i + 1 < (a :: l).length) : (a :: l)[i + 1] = l[i]'(Nat.lt_of_succ_lt_succ h) := rfl
theorem Z4 {α : Type} {l : List α} {i : Nat} {a : α} : l.toArray.setIfInBounds i a = (l.set i a).toArray := by simp
theorem Z5 {α : Type} {a b : α} {l : List α} : (a :: l).set 0 b = b :: l := rfl
theorem Z6 {α : Type} {a b : α} {l : List α} {n : Nat} : (a :: l).set (n + 1) b = a :: l.set n b := rfl

theorem hid {p : Prop} (h : p) : Hid p := h
/-- A byte's number. -/
def B (c : BitVec 8) : Int := (c.toNat : Int)
theorem B_lo (c : BitVec 8) : 0 ≤ B c := by unfold B; omega
theorem B_hi (c : BitVec 8) : B c < 256 := by unfold B; have := c.isLt; omega
theorem B_inj {c d : BitVec 8} (h : B c = B d) : c = d := by
  unfold B at h
  exact BitVec.eq_of_toNat_eq (by omega)
theorem B_of_wf {x : Int} (h : (Lit.int .u8 x).wf = true) : ∃ c : BitVec 8, x = B c := ⟨BitVec.ofInt 8 x, by
  simp [Lit.wf, IntKind.min, IntKind.max, IntKind.signed, IntKind.bits] at h
  unfold B; rw [BitVec.toNat_ofInt]; omega⟩
theorem B_wf (c : BitVec 8) : (Lit.int .u8 (B c)).wf = true := by
  have h0 := B_lo c
  have h1 := B_hi c
  simp [Lit.wf, IntKind.min, IntKind.max, IntKind.signed, IntKind.bits]
  omega

/-- A byte's cell. -/
def bv (c : BitVec 8) : Value := .int .u8 (B c)
theorem bv_inj {c d : BitVec 8} (h : bv c = bv d) : c = d := by
  unfold bv at h
  injection h with _ h
  exact B_inj h
/-- The cells of n bytes. -/
def rowL (n : Nat) (f : Nat → BitVec 8) : List Value := (List.range n).map fun j => bv (f j)
def row (n : Nat) (f : Nat → BitVec 8) : Array Value := (rowL n f).toArray
theorem rowL_length (n : Nat) (f : Nat → BitVec 8) : (rowL n f).length = n := by simp [rowL]
theorem row_size (n : Nat) (f : Nat → BitVec 8) : (row n f).size = n := by simp [row, rowL_length]
theorem rowL_get {n : Nat} {f : Nat → BitVec 8} {j : Nat} (h : j < n) : (rowL n f)[j]? = some (bv (f j)) := by simp [rowL, h]
theorem row_get {n : Nat} {f : Nat → BitVec 8} {j : Nat} (h : j < n) : (row n f)[j]? = some (bv (f j)) := by
  unfold row; rw [List.getElem?_toArray]; exact rowL_get h
theorem rowL_congr {n : Nat} {f g : Nat → BitVec 8} (h : ∀ j, j < n → f j = g j) : rowL n f = rowL n g := by
  unfold rowL
  refine List.map_congr_left fun j hj => ?_
  rw [h j (by simpa using hj)]
theorem row_congr {n : Nat} {f g : Nat → BitVec 8} (h : ∀ j, j < n → f j = g j) : row n f = row n g := by
  unfold row; rw [rowL_congr h]
theorem rowL_inj {n : Nat} {f g : Nat → BitVec 8} (h : rowL n f = rowL n g) : ∀ j, j < n → f j = g j := fun j hj => by
  have := congrArg (fun l => l[j]?) h
  simp only [rowL_get hj, Option.some.injEq] at this
  exact bv_inj this
theorem row_inj {n : Nat} {f g : Nat → BitVec 8} (h : row n f = row n g) : ∀ j, j < n → f j = g j :=
  rowL_inj (by simpa [row] using h)
theorem row_iff {n : Nat} {f g : Nat → BitVec 8} : row n f = row n g ↔ ∀ j, j < n → f j = g j := ⟨row_inj, row_congr⟩
/-- One byte turned. -/
def upd (f : Nat → BitVec 8) (i : Nat) (c : BitVec 8) : Nat → BitVec 8 := fun j => if j = i then c else f j
theorem row_set {n : Nat} {f : Nat → BitVec 8} {i : Nat} (c : BitVec 8) : (row n f).setIfInBounds i (bv c) = row n (upd f i c) := by
  apply Array.ext_getElem?
  intro j
  rw [Array.getElem?_setIfInBounds]
  by_cases hj : j < n
  · by_cases e : i = j
    · subst e; rw [if_pos rfl, if_pos (by rw [row_size]; exact hj), row_get hj]; simp [upd]
    · rw [if_neg e, row_get hj, row_get hj]; simp [upd, Ne.symm e]
  · rw [Array.getElem?_eq_none (xs := row n (upd f i c)) (by rw [row_size]; omega)]
    split
    · rw [if_neg (by rw [row_size]; omega)]
    · rw [Array.getElem?_eq_none (by rw [row_size]; omega)]
theorem rowL_one (n : Nat) (f : Nat → BitVec 8) : ∀ v ∈ rowL n f, v.oneCell' = true := by
  intro v hv
  simp only [rowL, List.mem_map] at hv
  obtain ⟨j, _, rfl⟩ := hv
  rfl
theorem row_one (n : Nat) (f : Nat → BitVec 8) : (row n f).all (·.oneCell') = true :=
  Array.all_eq_true_iff_forall_mem.2 fun v hv => rowL_one n f v (by simpa [row] using hv)
/-- m bytes of g, from its place s on, laid into f from its place o on. -/
def lay (f : Nat → BitVec 8) (o m : Nat) (g : Nat → BitVec 8) (s : Nat) : Nat → BitVec 8 := fun j => if o ≤ j ∧ j < o + m then g (s + (j - o)) else f j
theorem rowL_splice {n : Nat} {f : Nat → BitVec 8} {o m : Nat} {g : Nat → BitVec 8} {s : Nat} (h : o + m ≤ n) :
    (rowL n f).take o ++ (rowL m (fun j => g (s + j)) ++ (rowL n f).drop (o + m)) = rowL n (lay f o m g s) := by
  apply List.ext_getElem?
  intro j
  rw [List.getElem?_append, List.length_take, rowL_length, show min o n = o by omega]
  by_cases h1 : j < o
  · rw [if_pos h1, List.getElem?_take_of_lt h1, rowL_get (by omega), rowL_get (by omega)]
    simp [lay, show ¬ o ≤ j by omega]
  · rw [if_neg h1, List.getElem?_append, rowL_length]
    by_cases h2 : j - o < m
    · rw [if_pos h2, rowL_get h2, rowL_get (by omega)]
      simp [lay, show o ≤ j by omega, show j < o + m by omega]
    · rw [if_neg h2, List.getElem?_drop, show o + m + (j - o - m) = j by omega]
      by_cases h3 : j < n
      · rw [rowL_get h3, rowL_get h3]; simp [lay, show ¬ j < o + m by omega]
      · rw [List.getElem?_eq_none (by rw [rowL_length]; omega), List.getElem?_eq_none (by rw [rowL_length]; omega)]

/-! ### Memory -/
/-- Block b holds the cells cs. -/
def Blk (w : World) (b : Nat) (cs : Array Value) (t : TypeId) : Prop := w.heap[b]? = some (.cells cs t (0, 0))
theorem Blk.lt {w : World} {b : Nat} {cs : Array Value} {t : TypeId} (h : Blk w b cs t) : b < w.heap.size := (Array.getElem?_eq_some_iff.1 h).1
theorem Blk.cell {w : World} {b : Nat} {cs : Array Value} {t : TypeId} (h : Blk w b cs t) (j : Nat) : w.cell? ⟨b, j, none⟩ = cs[j]? := cell_of_row w b j cs t _ h
theorem Blk.byte {w : World} {b n : Nat} {f : Nat → BitVec 8} {t : TypeId} (h : Blk w b (row n f) t) {j : Nat} (hj : j < n) : w.cell? ⟨b, j, none⟩ = some (.int .u8 (B (f j))) := by
  rw [h.cell, row_get hj]; rfl
theorem Blk.free {w : World} {b : Nat} {cs : Array Value} {t : TypeId} (h : Blk w b cs t) (j : Nat) : w.frozen? ⟨b, j, none⟩ = false := frozen_of_row w b j cs t h
theorem Blk.alloc_new (w : World) (cs : Array Value) (t : TypeId) : Blk (w.alloc (.cells cs t)) w.heap.size cs t := heap_alloc_new w _
theorem Blk.alloc {w : World} {b : Nat} {cs : Array Value} {t : TypeId} (h : Blk w b cs t) (o : Obj) : Blk (w.alloc o) b cs t := (Below.heap_alloc w o b h.lt).trans h
theorem Blk.below {w w' : World} {b : Nat} {cs : Array Value} {t : TypeId} (h : Blk w b cs t) (hb : Below w.heap.size w w') : Blk w' b cs t := (hb.block b h.lt).trans h
theorem Blk.setRow {w : World} {b : Nat} {cs : Array Value} {t : TypeId} (h : Blk w b cs t) (cs' : Array Value) : Blk (w.setRow b cs') b cs' t := setRow_heap w b cs cs' t _ h
theorem Blk.setRow_other {w : World} {b b' : Nat} {cs : Array Value} {t : TypeId} (h : Blk w b cs t) (hne : b ≠ b') (cs' : Array Value) : Blk (w.setRow b' cs') b cs t := (Go.setRow_other w b' b cs' hne).trans h
theorem Blk.setCell {w : World} {b : Nat} {cs : Array Value} {t : TypeId} (h : Blk w b cs t) (i : Nat) (v : Value) : w.setCell ⟨b, i, none⟩ v = w.setRow b (cs.setIfInBounds i v) := setCell_eq_setRow w b i cs t _ v h
theorem Blk.drew {w : World} {b : Nat} {cs : Array Value} {t : TypeId} (h : Blk w b cs t) : Blk w.drew b cs t := h
theorem Blk.drewN {w : World} {b : Nat} {cs : Array Value} {t : TypeId} (h : Blk w b cs t) (n : Nat) : Blk (w.drewN n) b cs t := h

section
variable {P : Program}
/-- An array of n bytes as an argument. -/
theorem open_row {H : Type} {enc : TypeId × Value → H} {w : World} {base : Nat} {r : Reach} {b0 : Nat} {spare : Nat → Bool} {held : Bool} {t e : TypeId} {n : Nat} {v : Value} {d : DataW H} {p : List MemPlace}
    (ht : P.underlying t = some (.array n e)) (he : P.underlying e = some (.int .u8)) (hce : P.cellsOf e = 1) (hct : P.cellsOf t = n)
    (hv : Value.okWide P w r b0 t v) (h : DataW.Trod enc P w base spare held t v d p) : ∃ f : Nat → BitVec 8, v = .agg (row n f) := by
  simp only [Value.okWide, ht] at hv
  obtain ⟨cs, rfl, hsz, _⟩ := hv
  obtain ⟨fuel, hf⟩ := h
  obtain ⟨xs, m, _, _, hlen, hxs, hget⟩ := DataW.trod_array ht hf
  have hone : ∀ i, i < n → ∃ c : BitVec 8, cs[i]? = some (bv c) := fun i hi => by
    have h1 := hget i hi
    rw [hce, Nat.mul_one] at h1
    have hxi : xs[i]? = some xs[i] := List.getElem?_eq_getElem (by omega)
    rw [hxi] at h1
    have hci : i < cs.size := by rw [hsz, hct]; exact hi
    have h2 : ((Value.agg cs).cells.toList.drop i).take 1 = [cs[i]] := by
      show (cs.toList.drop i).take 1 = [cs[i]]
      rw [List.drop_eq_getElem_cons (by simpa using hci)]
      simp
    rw [h2] at h1
    obtain ⟨x, hx, _, hwf⟩ := DataW.trod_int he h1
    simp only [List.cons.injEq, and_true] at hx
    obtain ⟨c, rfl⟩ := B_of_wf hwf
    exact ⟨c, by rw [Array.getElem?_eq_getElem hci, hx]; rfl⟩
  refine ⟨fun i => if h : i < n then Classical.choose (hone i h) else 0#8, ?_⟩
  congr 1
  apply Array.ext_getElem?
  intro j
  by_cases hj : j < n
  · rw [row_get hj, dif_pos hj]
    exact Classical.choose_spec (hone j hj)
  · rw [Array.getElem?_eq_none (by rw [hsz, hct]; omega), Array.getElem?_eq_none (by rw [row_size]; omega)]

/-! ### Comparing -/
theorem keyLits_byte {e : TypeId} {D : Nat} (he : P.underlying e = some (.int .u8)) (c : BitVec 8) : P.keyLits (D + 1) e [bv c] = some [.int .u8 (B c)] := by
  simp [Program.keyLits, he, bv, B_wf]
theorem mapM_some_of {α β : Type} {g : α → Option β} {h : α → β} : ∀ {l : List α}, (∀ x ∈ l, g x = some (h x)) → l.mapM g = some (l.map h)
  | [], _ => rfl
  | x :: l, hx => by
    rw [List.mapM_cons, hx x (by simp), mapM_some_of (fun y hy => hx y (by simp [hy]))]
    rfl
theorem keyLits_row {t e : TypeId} {D n : Nat} (ht : P.underlying t = some (.array n e)) (he : P.underlying e = some (.int .u8)) (hce : P.cellsOf e = 1) (hct : P.cellsOf t = n) (f : Nat → BitVec 8) :
    P.keyLits (D + 2) t (rowL n f) = some ((List.range n).map fun j => Lit.int .u8 (B (f j))) := by
  unfold Program.keyLits
  rw [ht]
  simp only [rowL_length, hct, if_true, hce, Nat.mul_one]
  rw [mapM_some_of (h := fun i => [Lit.int .u8 (B (f i))]) (fun i hi => by
    have hi' : i < n := by simpa using hi
    have h1 : ((rowL n f).drop i).take 1 = [bv (f i)] := by
      rw [List.drop_eq_getElem_cons (by rw [rowL_length]; exact hi')]
      have h2 := rowL_get (f := f) hi'
      rw [List.getElem?_eq_getElem (by rw [rowL_length]; exact hi')] at h2
      simp only [List.take_succ_cons, List.take_zero]
      rw [Option.some.inj h2]
    rw [h1]
    exact keyLits_byte he (f i))]
  simp only [Option.map_some, Option.some.injEq]
  rw [← List.flatMap_def]
  exact List.map_eq_flatMap.symm
/-- '==' of two arrays of bytes. -/
theorem run_eql_row {t e : TypeId} {n : Nat} (ht : P.underlying t = some (.array n e)) (he : P.underlying e = some (.int .u8)) (hce : P.cellsOf e = 1) (hct : P.cellsOf t = n)
    (hk : P.keyTypeAt 2 t = true) (f g : Nat → BitVec 8) (w : World) :
    ∃ r : Bool, (Op.equalIn 10000 t (.agg (row n f)) (.agg (row n g))).run P w = .ok r w ∧ (r = true ↔ ∀ j, j < n → f j = g j) := by
  obtain ⟨r, hr, hiff⟩ := run_equalIn_deep (P := P) 9998 2 t hk w 2 2 (.agg (row n f)) (.agg (row n g)) _ _
    (by simp [Value.formed, ht, row_size, hct]) (by simp [Value.formed, ht, row_size, hct])
    (by show P.keyLits 2 t (rowL n f) = _; exact keyLits_row ht he hce hct f) (by show P.keyLits 2 t (rowL n g) = _; exact keyLits_row ht he hce hct g)
  refine ⟨r, hr, ?_⟩
  rw [hiff]
  constructor
  · intro h j hj
    have := congrArg (fun l => l[j]?) h
    simp [hj] at this
    exact B_inj this
  · intro h
    refine List.map_congr_left fun j hj => ?_
    rw [h j (by simpa using hj)]
theorem run_eql_yes {t e : TypeId} {n : Nat} (ht : P.underlying t = some (.array n e)) (he : P.underlying e = some (.int .u8)) (hce : P.cellsOf e = 1) (hct : P.cellsOf t = n)
    (hk : P.keyTypeAt 2 t = true) {f g : Nat → BitVec 8} (h : ∀ j, j < n → f j = g j) (w : World) : (Op.equalIn 10000 t (.agg (row n f)) (.agg (row n g))).run P w = .ok true w := by
  obtain ⟨r, hr, hiff⟩ := run_eql_row ht he hce hct hk f g w
  rw [hr, hiff.2 h]
theorem run_eql_no {t e : TypeId} {n : Nat} (ht : P.underlying t = some (.array n e)) (he : P.underlying e = some (.int .u8)) (hce : P.cellsOf e = 1) (hct : P.cellsOf t = n)
    (hk : P.keyTypeAt 2 t = true) {f g : Nat → BitVec 8} (h : ¬ ∀ j, j < n → f j = g j) (w : World) : (Op.equalIn 10000 t (.agg (row n f)) (.agg (row n g))).run P w = .ok false w := by
  obtain ⟨r, hr, hiff⟩ := run_eql_row ht he hce hct hk f g w
  rw [hr]
  cases r with
  | false => rfl
  | true => exact absurd (hiff.1 rfl) h

/-! ### copy -/
/-- 'copy(dst, src)', both of bytes in rows of the call's own: the world behind it. -/
theorem wpList_copy_row {w : World} {ops : Array Oper} {rest : List Oper} {o : Oper} {a : Act} {Q : Exit → Act → World → Prop} (hgd : o.guard = none) (d s : Operand) (dT sT : TypeId)
    (ho : o.op = .call { callee := .builtin .copy, args := #[d, s], argTypes := #[dT, sT] }) (elem : TypeId) (hu : P.underlying dT = some (.slice elem)) (hsz : (P.info? elem).map (·.size) = some 1)
    (g off dLen dCap b src sLen sCap : Nat) (hd : a.eval d = .slice (some ⟨g, off, none⟩) dLen dCap) (hs : a.eval s = .slice (some ⟨b, src, none⟩) sLen sCap)
    (n n' : Nat) (f f' : Nat → BitVec 8) (t t' : TypeId) (hg : Blk w g (row n f) t) (hb : Blk w b (row n' f') t') (m : Nat) (hm : m = Nat.min sLen dLen) (hfit : off + m ≤ n) (hfit' : src + m ≤ n')
    (h : wpList P ops Q rest (a.put o.dst (goInt m)) (w.setRow g (row n (lay f off m f' src)))) : wpList P ops Q (o :: rest) a w := by
  have hcs : (rowL m (fun j => f' (src + j))).length = m := rowL_length _ _
  refine wpList_copy_own hgd d s dT sT ho elem hu hsz g off dLen dCap ⟨b, src, none⟩ sLen sCap hd hs (row n f) t hg (rowL m (fun j => f' (src + j))) (by rw [hcs, hm]) (fun j v hv => ?_)
    (by rw [hcs, row_size]; exact hfit) (rowL_one _ _) ?_
  · have hj : j < m := by
      rcases Nat.lt_or_ge j m with h | h
      · exact h
      · rw [List.getElem?_eq_none (by rw [hcs]; exact h)] at hv; cases hv
    rw [rowL_get hj] at hv
    have hadd : (⟨b, src, none⟩ : Addr).add j = ⟨b, src + j, none⟩ := by unfold Addr.add; split <;> simp_all
    rw [hadd, hb.cell, row_get (by omega)]
    exact hv
  · rw [hcs, show ((row n f).toList.take off ++ (rowL m (fun j => f' (src + j)) ++ (row n f).toList.drop (off + m))).toArray = row n (lay f off m f' src) by
      show ((rowL n f).take off ++ (rowL m (fun j => f' (src + j)) ++ (rowL n f).drop (off + m))).toArray = _
      rw [rowL_splice hfit]; rfl]
    exact h

/-! ### Slices of an array -/
theorem bound_in {k : IntKind} {x : Int} {y z : Nat} {code : BoundsCode} {w : World} (h : x = (z : Int)) (hz : z ≤ y) : (Instr.sliceBound (.int k x) y code).run P w = .ok z w := by
  rw [run_sliceBound w k x y code (by omega) (by omega)]
  congr 1; omega
theorem add_at (b n : Nat) : (⟨b, 0, none⟩ : Addr).add n = ⟨b, n, none⟩ := by unfold Addr.add; split <;> simp_all
/-- 'arr[lo:hi]'. -/
theorem run_slice_lh {t e : TypeId} {n : Nat} (ht : P.underlying t = some (.array n e)) (hs : (P.info? e).map (·.size) = some 1) {b lo hi : Nat} {kl kh : IntKind} {L H : Int} (hL : L = (lo : Int)) (hH : H = (hi : Int)) (h1 : lo ≤ hi) (h2 : hi ≤ n) (h3 : lo < n) (w : World) :
    (Instr.sliceAt t (.pointer (some ⟨b, 0, none⟩)) (some (.int kl L)) (some (.int kh H)) none).run P w = .ok (.slice (some ⟨b, lo, none⟩) (hi - lo) (n - lo)) w := by
  obtain ⟨i, hi', hz⟩ := Option.map_eq_some_iff.1 hs
  have e1 := fun code w => bound_in (P := P) (k := kh) (y := n) (code := code) (w := w) hH h2
  have e2 := fun code w => bound_in (P := P) (k := kl) (y := hi) (code := code) (w := w) hL h1
  have hne : ¬ n = lo := by omega
  simp [Instr.sliceAt, Instr.sureAddr, Instr.sliceBounds, run_underlying ht, e1, e2, sizeOf, typeInfo, hi', hz, add_at, hne]
/-- 'arr[lo:]'. -/
theorem run_slice_l {t e : TypeId} {n : Nat} (ht : P.underlying t = some (.array n e)) (hs : (P.info? e).map (·.size) = some 1) {b lo : Nat} {kl : IntKind} {L : Int} (hL : L = (lo : Int)) (h3 : lo < n) (w : World) :
    (Instr.sliceAt t (.pointer (some ⟨b, 0, none⟩)) (some (.int kl L)) none none).run P w = .ok (.slice (some ⟨b, lo, none⟩) (n - lo) (n - lo)) w := by
  obtain ⟨i, hi', hz⟩ := Option.map_eq_some_iff.1 hs
  have e2 := fun code w => bound_in (P := P) (k := kl) (y := n) (code := code) (w := w) hL (Nat.le_of_lt h3)
  have hne : ¬ n = lo := by omega
  simp [Instr.sliceAt, Instr.sureAddr, Instr.sliceBounds, run_underlying ht, e2, sizeOf, typeInfo, hi', hz, add_at, hne]
/-- 'arr[:]'. -/
theorem run_slice_all {t e : TypeId} {n : Nat} (ht : P.underlying t = some (.array n e)) (hs : (P.info? e).map (·.size) = some 1) {b : Nat} (w : World) :
    (Instr.sliceAt t (.pointer (some ⟨b, 0, none⟩)) none none none).run P w = .ok (.slice (some ⟨b, 0, none⟩) n n) w := by
  obtain ⟨i, hi', _⟩ := Option.map_eq_some_iff.1 hs
  simp [Instr.sliceAt, Instr.sureAddr, Instr.sliceBounds, run_underlying ht, sizeOf, typeInfo, hi', add_at]

/-! ### Whole rows, made, read, written, handed back -/
theorem row_zero (n : Nat) : row n (fun _ => 0#8) = Array.replicate n (.int .u8 0) := by
  apply Array.ext_getElem?
  intro j
  by_cases hj : j < n
  · rw [row_get hj]; simp [hj, bv, B]
  · rw [Array.getElem?_eq_none (by rw [row_size]; omega), Array.getElem?_eq_none (by simp; omega)]
theorem zero_row {t : TypeId} {n : Nat} (h : (P.info? t).map (fun i => (i.zero, i.size)) = some (some (.agg (Array.replicate n (.int .u8 0))), n)) :
    (∀ w, (zeroValue t).run P w = .ok (.agg (row n (fun _ => 0#8))) w) ∧ (P.info? t).map (·.size) = some n := by
  rw [row_zero]; exact zero_of_info h
theorem wpList_load_blk {w : World} {ops : Array Oper} {rest : List Oper} {o : Oper} {a : Act} {Q : Exit → Act → World → Prop} (hgd : o.guard = none) (ty : TypeId) (x : Operand) (ho : o.op = .load ty x)
    (g n : Nat) (f : Nat → BitVec 8) (t : TypeId) (hb : Blk w g (row n f) t) (hx : a.eval x = .pointer (some ⟨g, 0, none⟩)) (e : TypeId)
    (hu : P.underlying ty = some (.array n e)) (hi : (P.info? ty).map (·.size) = some n)
    (h : wpList P ops Q rest (a.put o.dst (.agg (row n f))) w) : wpList P ops Q (o :: rest) a w :=
  wpList_load_row hgd ty x ho g hx t (row n f) (0, 0) _ hb hu rfl (by rw [row_size]; exact hi) h
theorem wpList_store_blk {w : World} {ops : Array Oper} {rest : List Oper} {o : Oper} {a : Act} {Q : Exit → Act → World → Prop} (hgd : o.guard = none) (ty : TypeId) (x y : Operand) (ho : o.op = .store ty x y)
    (g n : Nat) (f f' : Nat → BitVec 8) (t : TypeId) (hb : Blk w g (row n f) t) (hx : a.eval x = .pointer (some ⟨g, 0, none⟩)) (hy : a.eval y = .agg (row n f'))
    (hi : (P.info? ty).map (·.size) = some n)
    (h : wpList P ops Q rest (a.put o.dst undef) (w.setRow g (row n f'))) : wpList P ops Q (o :: rest) a w :=
  wpList_store_row hgd ty x y ho g (row n f') hx hy t (row n f) hb (by rw [row_size]; exact hi) (by rw [row_size, row_size]) (row_one n f') h
end
end Go.Proofs.Ytnemaolbmocncaa
