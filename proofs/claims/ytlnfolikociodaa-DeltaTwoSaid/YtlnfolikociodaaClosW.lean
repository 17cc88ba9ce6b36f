/- The walks of delta's closures, Check and Apply. -/
import Derived.Test.YtlnfolikociodaaEachW
import Derived.Lib.BufferWrite
namespace Go.Proofs.Ytlnfolikociodaa
open Go.RowKit
section
variable {P : Program}
theorem results_c2 {fn : Func} {p q : Tmp} {ty : TypeId} (h : fn.results = #[.cell p ty, .tmp q]) (tmps : Array Value) (w : World) (g : Nat) (t : TypeId) (cs : Array Value) (fr : Nat × Nat) (d : TypeDesc)
    (hp : tmps.getD p undef = .pointer (some ⟨g, 0, none⟩)) (hg : w.heap[g]? = some (.cells cs t fr))
    (hu : P.underlying ty = some d) (hd : (match d with | .struct _ | .array _ _ => true | _ => false) = true) (hi : (P.info? ty).map (·.size) = some cs.size) :
    (results fn tmps).run P w = .ok (.tuple #[.agg cs, tmps.getD q undef]) w := by
  have hp' : tmps[p]?.getD undef = .pointer (some ⟨g, 0, none⟩) := by simpa using hp
  simp [results, h, hp', asAddr, run_loadVar_row w g t ty cs fr d hg hu hd hi]
end
theorem put_lay (b : Nat → BitVec 8) (a : Nat) (l : List (BitVec 8)) : put b (a, l) = lay b a l.length (fun j => l.getD j 0#8) 0 := by
  funext j
  simp [put, lay]
theorem byteCells_row (s : ByteArray) : Lib.byteCells s.data.toList = rowL s.size (fun j => (bl s).getD j 0#8) := by
  apply List.ext_getElem?
  intro j
  by_cases hj : j < s.size
  · have h' : j < s.data.toList.length := by rw [Array.length_toList]; exact hj
    rw [rowL_get hj, List.getD_eq_getElem?_getD, bl_get s hj]
    simp only [Lib.byteCells, List.getElem?_map, List.getElem?_eq_getElem h', Option.map_some, Option.getD_some]
    rfl
  · rw [List.getElem?_eq_none (by rw [Lib.byteCells_length, Array.length_toList]; exact Nat.le_of_not_lt hj), List.getElem?_eq_none (by rw [rowL_length]; omega)]
theorem run_copy_put {dT sT ty elem : TypeId} {w : World} {g a n : Nat} {s : ByteArray} {b : Nat → BitVec 8} {t : TypeId}
    (hu : Try.prog.underlying dT = some (.slice elem)) (hs : (Try.prog.info? elem).map (·.size) = some 1) (hg : Blk w g (row 64 b) t) (h : a + s.size ≤ 64) :
    (Builtin.copy_ #[dT, sT] ty #[.slice (some ⟨g, a, none⟩) (64 - a) n, .string s]).run Try.prog w = .ok (goInt s.size) (w.setRow g (row 64 (put b (a, bl s)))) := by
  rw [Lib.run_copy_row_string w dT sT ty elem g a (64 - a) n s (row 64 b) t hu hs hg (by omega) (by rw [row_size]; omega)]
  congr 2
  rw [put_lay, byteCells_row, bl_length, List.append_assoc]
  show ((rowL 64 b).take a ++ (rowL s.size _ ++ (rowL 64 b).drop (a + s.size))).toArray = _
  have := rowL_splice (n := 64) (f := b) (o := a) (m := s.size) (g := fun j => (bl s).getD j 0#8) (s := 0) h
  simp only [Nat.zero_add] at this
  rw [this]
  rfl
set_option maxRecDepth 100000 in
theorem clos22 (a : Value) (s : Value) (w : World) : Calls Try.prog 22 #[a, s] w fun e w' => e = .returned (.tuple #[]) ∧ w' = w := by
  go_enter Try.func22, Try.ntmps22
  go_wp2
  go_end0
  exact ⟨rfl, rfl⟩
set_option maxRecDepth 100000 in
set_option maxHeartbeats 1000000 in
theorem clos20 (a : Nat) (s : ByteArray) (g : Nat) (b : Nat → BitVec 8) (w : World) (hb : Blk w g (row 64 b) 23) (h1 : 1 ≤ s.size) (h : a + s.size ≤ 64) :
    Calls Try.prog 20 #[.int .i64 a, .string s, .pointer (some ⟨g, 0, none⟩)] w fun e w' => e = .returned (.tuple #[]) ∧ w' = w.setRow g (row 64 (put b (a, bl s))) := by
  have hsl := fun w' => run_slice_l (P := Try.prog) Try.underlying23 size5 (b := g) (lo := a) (kl := .i64) (L := (a : Int)) rfl (by omega) w'
  have hcp := run_copy_put (dT := 42) (sT := 9) (ty := 3) (n := 64 - a) Try.underlying42 size5 hb h
  go_enter Try.func20, Try.ntmps20
  go_wp2
  go_end0
  exact ⟨rfl, rfl⟩
/-- Check: whether it is one. -/
theorem check_any (d : ByteArray) (hd : d.size ≤ 140737488351232) (w : World) :
    Calls Try.prog 15 #[.string d] w fun e w' => e = .returned (.bool (read 0 (bl d)).2) ∧ Below w.heap.size w w' := by
  have H := hid (each_22 (fun _ W => Below w.heap.size w W) (fun _ W n h => ⟨h.os, h.tape, h.output, h.size, h.block⟩) (fun ps a s W h _ _ => (clos22 _ _ W).mono fun e w' ⟨he, hw⟩ => ⟨he, by rw [hw]; exact h⟩) d hd [] w (Below.refl _ _))
  go_enter Try.func15, Try.ntmps15
  go_wp2_with (go_at_call 19; refine H.out.mono ?_; rintro e w' ⟨rfl, ⟨ps, hb, _⟩⟩)
  go_ret
  exact ⟨rfl, hb⟩
structure ApSt (w W : World) (b o : Nat → BitVec 8) : Prop where
  below : Below w.heap.size w W
  res : Blk W (w.heap.size + 1) (row 64 fun _ => 0#8) 23
  out : Blk W (w.heap.size + 1 + 1) (row 64 o) 23
theorem ApSt.start (w : World) (b : Nat → BitVec 8) : ApSt w ((((w.alloc (.cells (row 64 b) 23)).alloc (.cells (row 64 fun _ => 0#8) 23)).alloc (.cells (row 64 fun _ => 0#8) 23)).setRow (w.heap.size + 1 + 1) (row 64 b)) b b := by
  have h1 := Blk.alloc_new (w.alloc (.cells (row 64 b) 23)) (row 64 fun _ => 0#8) 23
  rw [show (w.alloc (.cells (row 64 b) 23)).heap.size = w.heap.size + 1 by simp] at h1
  have h2 := Blk.alloc_new ((w.alloc (.cells (row 64 b) 23)).alloc (.cells (row 64 fun _ => 0#8) 23)) (row 64 fun _ => 0#8) 23
  rw [show ((w.alloc (.cells (row 64 b) 23)).alloc (.cells (row 64 fun _ => 0#8) 23)).heap.size = w.heap.size + 1 + 1 by simp] at h2
  exact ⟨below_setRow ((((Below.refl _ _).alloc (Nat.le_refl _) _).alloc (by simp) _).alloc (by simp; omega) _) (by omega) _, (h1.alloc _).setRow_other (by omega) _, h2.setRow _⟩
theorem ApSt.drewN {w W : World} {b o : Nat → BitVec 8} (h : ApSt w W b o) (n : Nat) : ApSt w (W.drewN n) b o := ⟨⟨h.below.os, h.below.tape, h.below.output, h.below.size, h.below.block⟩, h.res, h.out⟩
theorem ApSt.set {w W : World} {b o : Nat → BitVec 8} (h : ApSt w W b o) (o' : Nat → BitVec 8) : ApSt w (W.setRow (w.heap.size + 1 + 1) (row 64 o')) b o' :=
  ⟨below_setRow h.below (by omega) _, h.res.setRow_other (by omega) _, h.out.setRow _⟩
/-- What Apply hands back. -/
def apV (b : Nat → BitVec 8) (d : ByteArray) : Value := .tuple #[.agg (row 64 (if (read 0 (bl d)).2 = true then puts b (read 0 (bl d)).1 else fun _ => 0#8)), .int .i64 (if (read 0 (bl d)).2 = true then 0 else 2)]
theorem built23 : Try.prog.built 23 [] = some (row 64 fun _ => 0#8) := by rw [row_zero]; kernel_rfl
set_option maxRecDepth 100000 in
set_option maxHeartbeats 2000000 in
theorem apply_any (b : Nat → BitVec 8) (d : ByteArray) (hd : d.size ≤ 140737488351232) (w : World) :
    Calls Try.prog 13 #[.agg (row 64 b), .string d] w fun e w' => e = .returned (apV b d) ∧ Below w.heap.size w w' := by
  have hz23 := (zero_row info23).1
  have hmf : ∀ (fn : Fn) (first cap : Array Value) (w : World), (Instr.makeFunc fn first cap).run Try.prog w = .ok (.func fn first cap) w := fun _ _ _ _ => rfl
  have hst := hid (ApSt.start w b)
  have hb0 : Blk ((w.alloc (.cells (row 64 b) 23)).alloc (.cells (row 64 fun _ => 0#8) 23)) w.heap.size (row 64 b) 23 := (Blk.alloc_new w _ _).alloc _
  have hb2 : Blk (((w.alloc (.cells (row 64 b) 23)).alloc (.cells (row 64 fun _ => 0#8) 23)).alloc (.cells (row 64 fun _ => 0#8) 23)) (w.heap.size + 1 + 1) (row 64 fun _ => 0#8) 23 := by
    have h2 := Blk.alloc_new ((w.alloc (.cells (row 64 b) 23)).alloc (.cells (row 64 fun _ => 0#8) 23)) (row 64 fun _ => 0#8) 23
    rwa [show ((w.alloc (.cells (row 64 b) 23)).alloc (.cells (row 64 fun _ => 0#8) 23)).heap.size = w.heap.size + 1 + 1 by simp] at h2
  have HE := hid (each_20 ⟨w.heap.size + 1 + 1, 0, none⟩ (fun ps W => ApSt w W b (puts b ps)) (fun _ W n h => h.drewN n) (fun ps a s W h h1 h2 =>
    (clos20 a s _ _ W h.out h1 h2).mono fun e w' ⟨he, hw⟩ => ⟨he, by rw [hw, puts_snoc]; exact h.set _⟩) d hd [] _ (ApSt.start w b))
  cases hv : (read 0 (bl d)).2 with
  | true =>
    have HE1 := hid (HE.out.mono (R' := fun e w' => e = .returned (.bool true) ∧ ApSt w w' b (puts b (read 0 (bl d)).1)) fun e w' ⟨he, ps, hs, hps⟩ => ⟨by rw [he, hv], by rw [← hps hv]; exact hs⟩)
    have hV : apV b d = .tuple #[.agg (row 64 (puts b (read 0 (bl d)).1)), .int .i64 0] := by simp [apV, hv]
    replace hV := hid hV
    clear HE hst hv
    go_enter Try.func13, Try.ntmps13
    go_wp2_with (first
      | (refine wpList_load_g 23 _ w.heap.size 64 b 23 5 hb0 Try.underlying23 (zero_row info23).2 rfl rfl rfl ?_)
      | (refine wpList_store_blk rfl 23 _ _ rfl _ 64 (fun _ => 0#8) b 23 hb2 rfl rfl (zero_row info23).2 ?_)
      | (go_at_call 19; refine HE1.out.mono ?_; rintro e w1 ⟨rfl, hs⟩)
      | (refine wpList_load_g 23 _ (w.heap.size + 1 + 1) 64 (puts b (read 0 (bl d)).1) 23 5 hs.out Try.underlying23 (zero_row info23).2 rfl rfl rfl ?_)
      | (refine wpList_store_blk rfl 23 _ _ rfl _ 64 (fun _ => 0#8) (puts b (read 0 (bl d)).1) 23 hs.res rfl rfl (zero_row info23).2 ?_))
    refine bodyPost_ret (v := apV b d) ?_ rfl ⟨rfl, below_setRow hs.below (by omega) _⟩
    rw [hV.out]
    refine results_c2 (p := 4) (q := 5) (ty := 23) rfl _ _ (w.heap.size + 1) 23 (row 64 (puts b (read 0 (bl d)).1)) (0, 0) _ ?_ (hs.res.setRow _) Try.underlying23 rfl (by rw [row_size]; exact (zero_row info23).2)
    rfl
  | false =>
    have HE1 := hid (HE.out.mono (R' := fun e w' => e = .returned (.bool false) ∧ ∃ o, ApSt w w' b o) fun e w' ⟨he, ps, hs, hps⟩ => ⟨by rw [he, hv], _, hs⟩)
    have hV : apV b d = .tuple #[.agg (row 64 fun _ => 0#8), .int .i64 2] := by simp [apV, hv]
    replace hV := hid hV
    clear HE hst hv
    have hb23 := built23
    go_enter Try.func13, Try.ntmps13
    go_wp2_with (first
      | (refine wpList_load_g 23 _ w.heap.size 64 b 23 5 hb0 Try.underlying23 (zero_row info23).2 rfl rfl rfl ?_)
      | (refine wpList_store_blk rfl 23 _ _ rfl _ 64 (fun _ => 0#8) b 23 hb2 rfl rfl (zero_row info23).2 ?_)
      | (go_at_call 19; refine HE1.out.mono ?_; rintro e w1 ⟨rfl, o, hs⟩)
      | (refine wpList_build0 rfl 23 rfl _ built23 ?_)
      | (refine wpList_store_blk rfl 23 _ _ rfl _ 64 (fun _ => 0#8) (fun _ => 0#8) 23 hs.res rfl rfl (zero_row info23).2 ?_))
    refine bodyPost_ret (v := apV b d) ?_ rfl ⟨rfl, below_setRow hs.below (by omega) _⟩
    rw [hV.out]
    refine results_c2 (p := 4) (q := 5) (ty := 23) rfl _ _ (w.heap.size + 1) 23 (row 64 fun _ => 0#8) (0, 0) _ ?_ (hs.res.setRow _) Try.underlying23 rfl (by rw [row_size]; exact (zero_row info23).2)
    rfl
end Go.Proofs.Ytlnfolikociodaa
