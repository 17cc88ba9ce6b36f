/- The walk of the document's Read. -/
import Derived.Test.YtlnfolikociodaaClosW
namespace Go.Proofs.Ytlnfolikociodaa
open Go.RowKit
set_option linter.unusedSimpArgs false
section
variable {P : Program}
theorem results_cc1 {fn : Func} {p p2 q : Tmp} {ty ty2 : TypeId} (h : fn.results = #[.cell p ty, .cell p2 ty2, .tmp q]) (tmps : Array Value) (w : World) (g g2 : Nat) (t t2 : TypeId) (cs cs2 : Array Value) (d d2 : TypeDesc)
    (hp : tmps.getD p undef = .pointer (some ⟨g, 0, none⟩)) (hg : Blk w g cs t) (hu : P.underlying ty = some d) (hd : (match d with | .struct _ | .array _ _ => true | _ => false) = true) (hi : (P.info? ty).map (·.size) = some cs.size)
    (hp2 : tmps.getD p2 undef = .pointer (some ⟨g2, 0, none⟩)) (hg2 : Blk w g2 cs2 t2) (hu2 : P.underlying ty2 = some d2) (hd2 : (match d2 with | .struct _ | .array _ _ => true | _ => false) = true) (hi2 : (P.info? ty2).map (·.size) = some cs2.size) :
    (results fn tmps).run P w = .ok (.tuple #[.agg cs, .agg cs2, tmps.getD q undef]) w := by
  have hp' : tmps[p]?.getD undef = .pointer (some ⟨g, 0, none⟩) := by simpa using hp
  have hp2' : tmps[p2]?.getD undef = .pointer (some ⟨g2, 0, none⟩) := by simpa using hp2
  simp [results, h, hp', hp2', asAddr, run_loadVar_row w g t ty cs (0, 0) d hg hu hd hi, run_loadVar_row w g2 t2 ty2 cs2 (0, 0) d2 hg2 hu2 hd2 hi2]
theorem wpList_store_rowT {w : World} {ops : Array Oper} {rest : List Oper} {o : Oper} {a : Act} {Q : Exit → Act → World → Prop} (hgd : o.guard = none) (ty : TypeId) (x y : Operand) (ho : o.op = .store ty x y)
    (g n : Nat) (f f' : Nat → Bool) (t : TypeId) (hb : Blk w g (rowT n f) t) (hx : a.eval x = .pointer (some ⟨g, 0, none⟩)) (hy : a.eval y = .agg (rowT n f'))
    (hi : (P.info? ty).map (·.size) = some n)
    (h : wpList P ops Q rest (a.put o.dst undef) (w.setRow g (rowT n f'))) : wpList P ops Q (o :: rest) a w :=
  wpList_store_row hgd ty x y ho g (rowT n f') hx hy t (rowT n f) hb (by rw [rowT_size]; exact hi) (by rw [rowT_size, rowT_size]) (rowT_one n f') h
theorem anyH_store_rowT {ops : Array Oper} {Q : Exit → Act → World → Prop} {S : World → Prop} {fuel : Nat} {listed : Array Bool} {a : Act} {w : World} (i : Nat) (o : Oper) (ty : TypeId) (x y : Operand) (g n : Nat) (f f' : Nat → Bool) (t : TypeId) (hb : Blk w g (rowT n f) t) (hsz : (P.info? ty).map (·.size) = some n)
    (hr : Region.ready .any ops listed = [i]) (hi : ops[i]? = some o) (ho : o.op = .store ty x y) (hx : a.eval x = .pointer (some ⟨g, 0, none⟩)) (hy : a.eval y = .agg (rowT n f')) (hw : Region.wanted o (yielded ops a.tmps) = true)
    (hS : S (w.setRow g (rowT n f'))) (h : wpAnyH P .any ops Q S fuel (listed.setIfInBounds i true) (a.put o.dst undef) (w.setRow g (rowT n f'))) : wpAnyH P .any ops Q S (fuel + 1) listed a w :=
  anyH_one i o hr hi hw (wp_store_row ty x y ho g (rowT n f') hx hy t (rowT n f) hb (by rw [rowT_size]; exact hsz) (by rw [rowT_size, rowT_size]) (rowT_one n f') ⟨hS, h⟩)
end
theorem built22 : Try.prog.built 22 [] = some (row 64 fun _ => 0#8) := by rw [row_zero]; kernel_rfl
theorem built43 : Try.prog.built 43 [] = some (rowT 64 fun _ => false) := by rw [rowT_zero]; kernel_rfl
structure RdSt (w W : World) (b : Nat → BitVec 8) (T : Nat → Bool) : Prop where
  below : Below w.heap.size w W
  r1 : ∃ f, Blk W w.heap.size (row 64 f) 22
  r2 : ∃ U, Blk W (w.heap.size + 1) (rowT 64 U) 43
  b : Blk W (w.heap.size + 1 + 1) (row 64 b) 22
  t : Blk W (w.heap.size + 1 + 1 + 1) (rowT 64 T) 43
theorem RdSt.start (w : World) : RdSt w ((((w.alloc (.cells (row 64 fun _ => 0#8) 22)).alloc (.cells (rowT 64 fun _ => false) 43)).alloc (.cells (row 64 fun _ => 0#8) 22)).alloc (.cells (rowT 64 fun _ => false) 43)) (fun _ => 0#8) (fun _ => false) where
  below := ((((Below.refl _ _).alloc (Nat.le_refl _) _).alloc (by simp) _).alloc (by simp; omega) _).alloc (by simp; omega) _
  r1 := ⟨_, (((Blk.alloc_new w _ _).alloc _).alloc _).alloc _⟩
  r2 := by
    have h := Blk.alloc_new (w.alloc (.cells (row 64 fun _ => 0#8) 22)) (rowT 64 fun _ => false) 43
    rw [show (w.alloc (.cells (row 64 fun _ => 0#8) 22)).heap.size = w.heap.size + 1 by simp] at h
    exact ⟨_, (h.alloc _).alloc _⟩
  b := by
    have h := Blk.alloc_new ((w.alloc (.cells (row 64 fun _ => 0#8) 22)).alloc (.cells (rowT 64 fun _ => false) 43)) (row 64 fun _ => 0#8) 22
    rw [show ((w.alloc (.cells (row 64 fun _ => 0#8) 22)).alloc (.cells (rowT 64 fun _ => false) 43)).heap.size = w.heap.size + 1 + 1 by simp] at h
    exact h.alloc _
  t := by
    have h := Blk.alloc_new (((w.alloc (.cells (row 64 fun _ => 0#8) 22)).alloc (.cells (rowT 64 fun _ => false) 43)).alloc (.cells (row 64 fun _ => 0#8) 22)) (rowT 64 fun _ => false) 43
    rwa [show (((w.alloc (.cells (row 64 fun _ => 0#8) 22)).alloc (.cells (rowT 64 fun _ => false) 43)).alloc (.cells (row 64 fun _ => 0#8) 22)).heap.size = w.heap.size + 1 + 1 + 1 by simp] at h
section
variable {w W : World} {b : Nat → BitVec 8} {T : Nat → Bool}
theorem RdSt.drew (h : RdSt w W b T) : RdSt w W.drew b T := ⟨⟨h.below.os, h.below.tape, h.below.output, h.below.size, h.below.block⟩, h.r1, h.r2, h.b, h.t⟩
theorem RdSt.drewN (h : RdSt w W b T) (n : Nat) : RdSt w (W.drewN n) b T := ⟨⟨h.below.os, h.below.tape, h.below.output, h.below.size, h.below.block⟩, h.r1, h.r2, h.b, h.t⟩
theorem RdSt.setB (h : RdSt w W b T) (i : Nat) (c : BitVec 8) : RdSt w (W.setCell ⟨w.heap.size + 1 + 1, i, none⟩ (.int .u8 (B c))) (upd b i c) T := by
  rw [h.b.setCell, show (row 64 b).setIfInBounds i (.int .u8 (B c)) = row 64 (upd b i c) from row_set c]
  obtain ⟨f, h1⟩ := h.r1
  obtain ⟨U, h2⟩ := h.r2
  exact ⟨below_setRow h.below (by omega) _, ⟨f, h1.setRow_other (by omega) _⟩, ⟨U, h2.setRow_other (by omega) _⟩, h.b.setRow _, h.t.setRow_other (by omega) _⟩
theorem RdSt.setT (h : RdSt w W b T) (i : Nat) (c : Bool) : RdSt w (W.setCell ⟨w.heap.size + 1 + 1 + 1, i, none⟩ (.bool c)) b (updT T i c) := by
  rw [h.t.setCell]
  obtain ⟨f, h1⟩ := h.r1
  obtain ⟨U, h2⟩ := h.r2
  exact ⟨below_setRow h.below (by omega) _, ⟨f, h1.setRow_other (by omega) _⟩, ⟨U, h2.setRow_other (by omega) _⟩, h.b.setRow_other (by omega) _, by rw [rowT_set]; exact h.t.setRow _⟩
theorem RdSt.set1 (h : RdSt w W b T) (f : Nat → BitVec 8) : RdSt w (W.setRow w.heap.size (row 64 f)) b T := by
  obtain ⟨g, h1⟩ := h.r1
  obtain ⟨U, h2⟩ := h.r2
  exact ⟨below_setRow h.below (by omega) _, ⟨f, h1.setRow _⟩, ⟨U, h2.setRow_other (by omega) _⟩, h.b.setRow_other (by omega) _, h.t.setRow_other (by omega) _⟩
theorem RdSt.set2 (h : RdSt w W b T) (U : Nat → Bool) : RdSt w (W.setRow (w.heap.size + 1) (rowT 64 U)) b T := by
  obtain ⟨f, h1⟩ := h.r1
  obtain ⟨V, h2⟩ := h.r2
  exact ⟨below_setRow h.below (by omega) _, ⟨f, h1.setRow_other (by omega) _⟩, ⟨U, h2.setRow _⟩, h.b.setRow_other (by omega) _, h.t.setRow_other (by omega) _⟩
end
theorem put_step (b : Nat → BitVec 8) (a k : Nat) (r : List (BitVec 8)) (c : BitVec 8) (h : r[k]? = some c) : upd (put b (a, r.take k)) (a + k) c = put b (a, r.take (k + 1)) := by
  have hk : k < r.length := (List.getElem?_eq_some_iff.1 h).1
  funext j
  simp only [upd, put, List.length_take, show min k r.length = k by omega, show min (k + 1) r.length = k + 1 by omega]
  by_cases e : j = a + k
  · subst e
    rw [if_pos rfl, if_pos ⟨by omega, by omega⟩, show a + k - a = k by omega, List.getD_eq_getElem?_getD, List.getElem?_take_of_lt (by omega), h]
    rfl
  · rw [if_neg e]
    by_cases h1 : a ≤ j ∧ j < a + k
    · rw [if_pos h1, if_pos ⟨h1.1, by omega⟩]
      simp only [List.getD_eq_getElem?_getD]
      rw [List.getElem?_take_of_lt (by omega), List.getElem?_take_of_lt (by omega)]
    · rw [if_neg h1, if_neg (by omega)]
theorem mark_step (T : Nat → Bool) (a k : Nat) (r : List (BitVec 8)) (h : k < r.length) : updT (mark T (a, r.take k)) (a + k) true = mark T (a, r.take (k + 1)) := by
  funext j
  simp only [updT, mark, List.length_take, show min k r.length = k by omega, show min (k + 1) r.length = k + 1 by omega]
  by_cases e : j = a + k
  · rw [if_pos e, if_pos ⟨by omega, by omega⟩]
  · rw [if_neg e]
    by_cases h1 : a ≤ j ∧ j < a + k
    · rw [if_pos h1, if_pos ⟨h1.1, by omega⟩]
    · rw [if_neg h1, if_neg (by omega)]
theorem put_nil (b : Nat → BitVec 8) (a : Nat) : put b (a, []) = b := by funext j; simp [put]; omega
theorem mark_nil (T : Nat → Bool) (a : Nat) : mark T (a, []) = T := by funext j; simp [mark]; omega
/-- What Read hands back. -/
def rdV (d : ByteArray) : Value :=
  .tuple #[.agg (row 64 (if (read 0 (bl d)).2 = true then puts (fun _ => 0#8) (read 0 (bl d)).1 else fun _ => 0#8)), .agg (rowT 64 (if (read 0 (bl d)).2 = true then marks (fun _ => false) (read 0 (bl d)).1 else fun _ => false)), .bool (read 0 (bl d)).2]
theorem rdV_no {d : ByteArray} (h : (read 0 (bl d)).2 = false) : rdV d = .tuple #[.agg (row 64 fun _ => 0#8), .agg (rowT 64 fun _ => false), .bool false] := by simp [rdV, h]
theorem rdV_yes {d : ByteArray} (h : (read 0 (bl d)).2 = true) : rdV d = .tuple #[.agg (row 64 (puts (fun _ => 0#8) (read 0 (bl d)).1)), .agg (rowT 64 (marks (fun _ => false) (read 0 (bl d)).1)), .bool true] := by simp [rdV, h]
def strLen : Value → Nat
  | .string s => s.size
  | _ => 0
structure RdRel (w wr : World) (d s : ByteArray) (nx : Nat) : Prop where
  s_le : s.size ≤ d.size
  nx_le : nx ≤ 65
  st : ∃ ps, RdSt w wr (puts (fun _ => 0#8) ps) (marks (fun _ => false) ps) ∧ read 0 (bl d) = (ps ++ (read nx (bl s)).1, (read nx (bl s)).2)
theorem run_ixc (d : ByteArray) {i : Nat} {x : Int} (hx : x = (i : Int)) (h : i < d.size) (W : World) : (Instr.index 9 (.string d) (.int .i64 x)).run Try.prog W = .ok (.int .u8 (d[i].toNat : Int)) W := by
  have e : x.toNat = i := by omega
  rw [run_index_string W 9 d .i64 _ Try.underlying9, dif_pos ⟨by omega, by omega⟩]
  simp only [e]
set_option maxRecDepth 100000 in
set_option maxHeartbeats 4000000 in
theorem read_any (d : ByteArray) (hd : d.size ≤ 140737488351232) (w : World) :
    Calls Try.prog 21 #[.string d] w fun e w' => e = .returned (rdV d) ∧ Below w.heap.size w w' := by
  have hst := hid (RdSt.start w)
  have hz22 := (zero_row info22).1
  have hz43 := (zero_rowT info43).1
  go_enter Try.func21, Try.ntmps21
  go_wp2
  clear hz22 hz43
  go_loopw [0, 7] (fun s e wr => ∃ (S : ByteArray) (nx : Nat), s = .string S ∧ e = .int .i64 ((nx : Int) - 1) ∧ RdRel w wr d S nx) (fun s _ _ => strLen s)
  case atStart => exact ⟨d, 0, rfl, rfl, Nat.le_refl _, by omega, [], hst.out, by simp⟩
  case round =>
    clear hst
    obtain ⟨s, nx, rfl, rfl, hsd, hnx, ps, hs, hrd⟩ := hrel
    replace hrd := hid hrd
    by_cases h0 : 0 < s.size
    · have h0' : (0 : Int) < s.size := by omega
      by_cases h2 : s.size < 2
      · have h2' : (s.size : Int) < 2 := by omega
        have hrd2 := hid (hrd.out.trans (by rw [← List.drop_zero (l := bl s), bl_drop s h0, List.drop_eq_nil_of_le (by rw [bl_length]; omega), read_one]))
        have hV := hid (rdV_no (d := d) (by rw [hrd2.out]))
        obtain ⟨f1, hf1⟩ := hs.r1
        obtain ⟨U1, hU1⟩ := (hs.set1 fun _ => 0#8).r2
        have hbel := ((hs.set1 fun _ => 0#8).set2 fun _ => false).below
        go_wp2_with (first
          | (refine wpList_build0 rfl 22 rfl _ built22 ?_)
          | (refine wpList_build0 rfl 43 rfl _ built43 ?_)
          | (refine wpList_store_blk rfl 22 _ _ rfl _ 64 f1 (fun _ => 0#8) 22 hf1 rfl rfl (zero_row info22).2 ?_)
          | (refine wpList_store_rowT rfl 43 _ _ rfl _ 64 U1 (fun _ => false) 43 hU1 rfl rfl (zero_rowT info43).2 ?_))
        refine bodyPost_ret (v := rdV d) ?_ rfl ⟨rfl, hbel⟩
        rw [hV.out]
        refine results_cc1 (p := 2) (p2 := 3) (q := 4) (ty := 22) (ty2 := 43) rfl _ _ w.heap.size (w.heap.size + 1) 22 43 (row 64 fun _ => 0#8) (rowT 64 fun _ => false) _ _ ?_ ((hf1.setRow _).setRow_other (by omega) _) Try.underlying22 rfl (by rw [row_size]; exact (zero_row info22).2) ?_ (hU1.setRow _) Try.underlying43 rfl (by rw [rowT_size]; exact (zero_rowT info43).2)
        · rfl
        · rfl
      · have h2' : (2 : Int) ≤ s.size := by omega
        have h1 : 1 < s.size := by omega
        have hdr1 := hid ((congrArg (bl s |>.drop ·) rfl).trans ((bl_drop s h0).trans (by rw [bl_drop s h1])) : (bl s).drop 0 = _)
        have i0 := run_ixc s (i := 0) (x := 0) rfl h0
        have i1 := run_ixc s (i := 1) (x := 1) rfl h1
        have a256 : s[0].toNat < 256 := by have := s[0].toBitVec.isLt; exact this
        have n256 : s[1].toNat < 256 := by have := s[1].toBitVec.isLt; exact this
        by_cases hbad : Bad nx s[0].toBitVec s[1].toBitVec ((bl s).drop 2)
        · have hb2 : (s[1].toNat : Int) = 0 ∨ ((s[1].toNat : Int) ≠ 0 ∧ ((s.size : Int) - 2 < s[1].toNat ∨ ((s[1].toNat : Int) ≤ (s.size : Int) - 2 ∧ ((64 : Int) < (s[0].toNat : Int) + s[1].toNat ∨ ((s[0].toNat : Int) + s[1].toNat ≤ 64 ∧ (s[0].toNat : Int) ≤ (nx : Int) - 1))))) := by
            unfold Bad at hbad
            rw [List.length_drop, bl_length] at hbad
            change s[1].toNat < 1 ∨ s[0].toNat < nx ∨ 64 < s[0].toNat + s[1].toNat ∨ s.size - 2 < s[1].toNat at hbad
            omega
          have hrd2 := hid (hrd.out.trans (by rw [← List.drop_zero (l := bl s), hdr1.out, read_bad hbad]))
          clear hbad hdr1
          have hV := hid (rdV_no (d := d) (by rw [hrd2.out]))
          have hb3 : (((s[1].toNat : Int) == 0) = true ∨ (((s[1].toNat : Int) == 0) = false ∧ ((s.size : Int) - 2 < s[1].toNat ∨ ((s[1].toNat : Int) ≤ (s.size : Int) - 2 ∧ ((64 : Int) < (s[0].toNat : Int) + s[1].toNat ∨ ((s[0].toNat : Int) + s[1].toNat ≤ 64 ∧ (s[0].toNat : Int) ≤ (nx : Int) - 1)))))) := by
            rcases hb2 with h | ⟨h, h'⟩
            · exact .inl (by rw [h]; rfl)
            · exact .inr ⟨by rw [beq_eq_false_iff_ne]; exact h, h'⟩
          clear hb2
          rcases hb3 with h3 | ⟨h3, h4 | ⟨h4, h5 | ⟨h5, h6⟩⟩⟩
          all_goals
            go_wp2
            go_quiet (fail)
            replace hs := hs.drewN nq
            generalize wr.drewN nq = wq at *
            clear i0 i1
            obtain ⟨f1, hf1⟩ := hs.r1
            obtain ⟨U1, hU1⟩ := (hs.set1 fun _ => 0#8).r2
            have hbel := ((hs.set1 fun _ => 0#8).set2 fun _ => false).below
            go_wp2_with (first
              | (refine wpList_build0 rfl 22 rfl _ built22 ?_)
              | (refine wpList_build0 rfl 43 rfl _ built43 ?_)
              | (refine wpList_store_blk rfl 22 _ _ rfl _ 64 f1 (fun _ => 0#8) 22 hf1 rfl rfl (zero_row info22).2 ?_)
              | (refine wpList_store_rowT rfl 43 _ _ rfl _ 64 U1 (fun _ => false) 43 hU1 rfl rfl (zero_rowT info43).2 ?_))
            refine bodyPost_ret (v := rdV d) ?_ rfl ⟨rfl, hbel⟩
            rw [hV.out]
            refine results_cc1 (p := 2) (p2 := 3) (q := 4) (ty := 22) (ty2 := 43) rfl _ _ w.heap.size (w.heap.size + 1) 22 43 (row 64 fun _ => 0#8) (rowT 64 fun _ => false) _ _ ?_ ((hf1.setRow _).setRow_other (by omega) _) Try.underlying22 rfl (by rw [row_size]; exact (zero_row info22).2) ?_ (hU1.setRow _) Try.underlying43 rfl (by rw [rowT_size]; exact (zero_rowT info43).2)
            · rfl
            · rfl
        · have hg : ((s[1].toNat : Int) == 0) = false ∧ (s[1].toNat : Int) ≤ (s.size : Int) - 2 ∧ (s[0].toNat : Int) + s[1].toNat ≤ 64 ∧ (nx : Int) - 1 < s[0].toNat := by
            unfold Bad at hbad
            rw [List.length_drop, bl_length] at hbad
            change ¬ (s[1].toNat < 1 ∨ s[0].toNat < nx ∨ 64 < s[0].toNat + s[1].toNat ∨ s.size - 2 < s[1].toNat) at hbad
            exact ⟨by rw [beq_eq_false_iff_ne]; omega, by omega, by omega, by omega⟩
          obtain ⟨h3, h4, h5, h6⟩ := hg
          have hrd2 := hid (hrd.out.trans (by rw [← List.drop_zero (l := bl s), hdr1.out, read_good hbad]))
          clear hbad hdr1
          go_wp2
          go_quiet (fail)
          replace hs := hs.drewN nq
          generalize wr.drewN nq = wq at *
          clear i0 i1
          go_wp2
          have hN : s[1].toNat ≤ ((bl s).drop 2).length := by rw [List.length_drop, bl_length]; omega
          replace hN := hid hN
          generalize wq = w0 at *
          go_loopw [10] (fun i wr => ∃ k : Nat, i = .int .i64 k ∧ k ≤ s[1].toNat ∧ RdSt w wr (put (puts (fun _ => 0#8) ps) (s[0].toNat, ((bl s).drop 2).take k)) (mark (marks (fun _ => false) ps) (s[0].toNat, ((bl s).drop 2).take k))) (fun i _ => 300 - (intOf i).toNat)
          case atStart => exact ⟨0, rfl, Nat.zero_le _, by rw [List.take_zero, put_nil, mark_nil]; exact hs⟩
          case round =>
            clear hs
            obtain ⟨k, rfl, hk, hs⟩ := hrel
            by_cases hkn : k < s[1].toNat
            · have hk2 : 2 + k < s.size := by omega
              have i2 := run_ixc s (i := 2 + k) (x := 2 + (k : Int)) (by omega) hk2
              have hak : s[0].toNat + k < 64 := by omega
              have c1 := hs.b.byte hak
              have c2 := hs.t.bit hak
              have g1 := hs.b.free (s[0].toNat + k)
              have g2 := hs.t.free (s[0].toNat + k)
              have hnew := hid ((hs.setB (s[0].toNat + k) s[2 + k].toBitVec).setT (s[0].toNat + k) true)
              have hget : ((bl s).drop 2)[k]? = some s[2 + k].toBitVec := by rw [List.getElem?_drop, bl_get s hk2]
              have hnew2 := hid (by have h := hnew.out; rw [put_step _ _ _ _ _ hget, mark_step _ _ _ _ (by have := hN.out; omega)] at h; exact h : RdSt w _ (put (puts (fun _ => 0#8) ps) (s[0].toNat, ((bl s).drop 2).take (k + 1))) (mark (marks (fun _ => false) ps) (s[0].toNat, ((bl s).drop 2).take (k + 1))))
              clear hnew hget
              have hkn' : (k : Int) < s[1].toNat := by omega
              go_wp2
              go_roundw
              case rel => exact ⟨k + 1, by go_num, by omega, hnew2.out⟩
              case measure => simp [intOf]; omega
            · obtain rfl : k = s[1].toNat := by omega
              have hsub : bl (s.extract (2 + s[1].toNat) s.size) = ((bl s).drop 2).drop s[1].toNat := by
                rw [bl_sub, List.drop_drop, List.take_of_length_le (by rw [List.length_drop, bl_length]; omega)]
              replace hsub := hid hsub
              go_wp2
              go_roundw
              case rel => exact ⟨_, s[0].toNat + s[1].toNat + 1, rfl, by congr 1; omega, by rw [size_sub _ (Nat.le_refl _)]; omega, by omega, ps ++ [(s[0].toNat, ((bl s).drop 2).take s[1].toNat)], by rw [puts_snoc, marks_snoc]; exact hs, by rw [hrd2.out, hsub.out]; simp⟩
              case measure => simp [strLen, size_sub]; omega
    · have h0' : (s.size : Int) ≤ 0 := by omega
      have hrd2 := hid (hrd.out.trans (by rw [List.eq_nil_of_length_eq_zero (l := bl s) (by rw [bl_length]; omega), read_nil]))
      have hV := hid (rdV_yes (d := d) (by rw [hrd2.out]))
      have hps : ps = (read 0 (bl d)).1 := by rw [hrd2.out]; simp
      subst hps
      go_wp2
      replace hs := hs.drew
      refine wp_region_held (S := (fun w' => RdSt w w' (puts (fun _ => 0#8) (read 0 (bl d)).1) (marks (fun _ => false) (read 0 (bl d)).1))) (by kernel_rfl) ?_
      change wpAnyH _ _ _ _ _ _ _ _ wr.drew
      generalize wr.drew = wd at *
      have hS := hs
      (try simp only [Act.put])
      refine anyH_load_blk 0 _ 22 _ (w.heap.size+1+1) 64 (puts (fun _ => 0#8) (read 0 (bl d)).1) 22 5 hS (fun w' h => h.b) Try.underlying22 (zero_row info22).2 rfl rfl rfl (by kernel_rfl) (by kernel_rfl) (by kernel_rfl) (fun _ _ _ h => h) rfl ?_
      (try simp only [Act.put, List.getElem_toArray, List.getElem_cons_zero, List.setIfInBounds_toArray, List.set_cons_zero, List.set_cons_succ])
      refine anyH_load_rowT 1 _ 43 _ (w.heap.size + 1 + 1 + 1) 64 (marks (fun _ => false) (read 0 (bl d)).1) 43 4 hS (fun w' h => h.t) Try.underlying43 (zero_rowT info43).2 rfl rfl rfl (by kernel_rfl) (by kernel_rfl) (by kernel_rfl) (fun _ _ _ h => h) rfl ?_
      (try simp only [Act.put, List.getElem_toArray, List.getElem_cons_zero, List.getElem_cons_succ, List.setIfInBounds_toArray, List.set_cons_zero, List.set_cons_succ])
      obtain ⟨f1, hf1⟩ := hS.r1
      obtain ⟨U1, hU1⟩ := (hS.set1 (puts (fun _ => 0#8) (read 0 (bl d)).1)).r2
      have hS1 := hS.set1 (puts (fun _ => 0#8) (read 0 (bl d)).1)
      have hS2 := hS1.set2 (marks (fun _ => false) (read 0 (bl d)).1)
      refine anyH_store_blk 2 _ 22 _ _ w.heap.size 64 f1 (puts (fun _ => 0#8) (read 0 (bl d)).1) 22 hf1 (zero_row info22).2 (by kernel_rfl) rfl rfl rfl rfl rfl hS1 ?_
      (try simp only [Act.put, List.getElem_toArray, List.getElem_cons_zero, List.getElem_cons_succ, List.setIfInBounds_toArray, List.set_cons_zero, List.set_cons_succ])
      refine anyH_store_rowT 3 _ 43 _ _ (w.heap.size + 1) 64 U1 (marks (fun _ => false) (read 0 (bl d)).1) 43 hU1 (zero_rowT info43).2 (by kernel_rfl) rfl rfl rfl rfl rfl hS2 ?_
      (try simp only [Act.put, List.getElem_toArray, List.getElem_cons_zero, List.getElem_cons_succ, List.setIfInBounds_toArray, List.set_cons_zero, List.set_cons_succ])
      clear hS
      have hS := hS2
      refine anyH_pure 4 _ ?_ rfl (by kernel_rfl) (by kernel_rfl) (by kernel_rfl) (fun _ _ _ h => h) rfl ?_ hS ?_
      rotate_left
      · (intro w'; go_simp; (try with_reducible rfl))
      (try simp only [Act.put, List.getElem_toArray, List.getElem_cons_zero, List.getElem_cons_succ, List.setIfInBounds_toArray, List.set_cons_zero, List.set_cons_succ])
      refine wpAnyH_done (by kernel_rfl) ?_ _
      go_wp2_with fail
      refine bodyPost_ret (v := rdV d) ?_ rfl ⟨rfl, hS2.below⟩
      rw [hV.out]
      refine results_cc1 (p := 2) (p2 := 3) (q := 4) (ty := 22) (ty2 := 43) rfl _ _ w.heap.size (w.heap.size + 1) 22 43 (row 64 (puts (fun _ => 0#8) (read 0 (bl d)).1)) (rowT 64 (marks (fun _ => false) (read 0 (bl d)).1)) _ _ ?_ ((hf1.setRow _).setRow_other (by omega) _) Try.underlying22 rfl (by rw [row_size]; exact (zero_row info22).2) ?_ (hU1.setRow _) Try.underlying43 rfl (by rw [rowT_size]; exact (zero_rowT info43).2)
      · rfl
      · rfl
end Go.Proofs.Ytlnfolikociodaa
