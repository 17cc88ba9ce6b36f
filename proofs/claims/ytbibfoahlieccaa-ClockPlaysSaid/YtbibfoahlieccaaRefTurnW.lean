/- The walks of the document's turn and New. -/
import Derived.Test.YtbibfoahlieccaaRefW
namespace Go.Proofs.Ytbibfoahlieccaa
open Go.RowKit
set_option linter.unusedSimpArgs false
set_option linter.unusedVariables false
section
variable {P' : Program} {ops : Array Oper} {Q : Exit → Act → World → Prop} {S : World → Prop} {fuel : Nat} {listed : Array Bool} {a : Act} {w : World} {k : Nat}
theorem anyK_alls {l : List Nat} (hr : Region.ready .any ops listed = l) (hl : l ≠ []) (h : ∀ i ∈ l, wpOp P' ops Q i (fun a' w' => S w' ∧ wpAnyK P' .any ops Q S k fuel (listed.setIfInBounds i true) a' w') a w) : wpAnyK P' .any ops Q S k (fuel + 1) listed a w :=
  ⟨fun h0 => absurd (hr.symm.trans h0) hl, fun i hi => by
    rw [hr] at hi
    exact wpOp_mono (fun a' w' h' => ⟨fun _ => h'.1, h'.2⟩) (h i hi)⟩
theorem anyK_all1 (i : Nat) (hr : Region.ready .any ops listed = [i]) (h : wpOp P' ops Q i (fun a' w' => S w' ∧ wpAnyK P' .any ops Q S k fuel (listed.setIfInBounds i true) a' w') a w) : wpAnyK P' .any ops Q S k (fuel + 1) listed a w :=
  anyK_alls hr (by simp) fun j hj => by obtain rfl : j = i := by simpa using hj
                                        exact h
theorem anyK_all2 (i j : Nat) (hr : Region.ready .any ops listed = [i, j]) (h : wpOp P' ops Q i (fun a' w' => S w' ∧ wpAnyK P' .any ops Q S k fuel (listed.setIfInBounds i true) a' w') a w)
    (h2 : wpOp P' ops Q j (fun a' w' => S w' ∧ wpAnyK P' .any ops Q S k fuel (listed.setIfInBounds j true) a' w') a w) : wpAnyK P' .any ops Q S k (fuel + 1) listed a w :=
  anyK_alls hr (by simp) fun l hl => by
    rcases (by simpa using hl : l = i ∨ l = j) with rfl | rfl
    · exact h
    · exact h2
theorem wpOp_of (i : Nat) (o : Oper) (K : Act → World → Prop) (hi : ops[i]? = some o) (hw : Region.wanted o (yielded ops a.tmps) = true) (h : o.wp P' a w K Q) : wpOp P' ops Q i K a w := by
  unfold wpOp
  rw [hi]
  simp only [hw, if_true]
  exact .inl h
end
/-- An empty literal. -/
theorem run_build0 {w : World} : (Instr.buildSlice 46 0 #[]).run Try.prog w = .ok (.slice (some ⟨w.heap.size, 0, none⟩) 0 0) (w.alloc (.cells #[] 36)) := by
  obtain ⟨i, hi, hs⟩ := Option.map_eq_some_iff.1 size36
  simp [Instr.buildSlice, run_underlying Try.underlying46, sizeOf, typeInfo, zeroValue, hi, hs, Instr.fill, newRow, show Array.range 0 = #[] from by simp [Array.range]]
theorem own_base {w : World} {b b' : Nat} {e : TypeId} {size : Nat} {v : Value} {n : Nat} {xs : List Value} (h : w.ownsRow b e size v n xs) (hb : b' ≤ b) : w.ownsRow b' e size v n xs :=
  ⟨h.1, h.2.imp id fun ⟨g, cap, cur, h1, h2, h3⟩ => ⟨g, cap, cur, h1, Nat.le_trans hb h2, h3⟩⟩
theorem fl_split (n : Nat) (C : P.Ck) (h a b : Nat) : fl n C h (a + b) = fl n C h a ++ (List.range b).map fun j => fF n C h (a + j) := by
  unfold fl
  rw [List.range_add, List.map_append, List.map_map]
  rfl
/-- The frames behind the first, and then the first. -/
theorem fl_turn {n : Nat} {C : P.Ck} {h : Nat} (hh : h < n) : (fl n C h (n * 4)).drop 4 ++ (fl n C h (n * 4)).take 4 = fl n C (P.nx n h) (n * 4) := by
  have e1 : fl n C h (n * 4) = fl n C h 4 ++ (List.range (n * 4 - 4)).map fun j => fF n C h (4 + j) := by
    rw [← fl_split]; congr 1; omega
  have e2 : fl n C (P.nx n h) (n * 4) = fl n C (P.nx n h) (n * 4 - 4) ++ (List.range 4).map fun j => fF n C (P.nx n h) (n * 4 - 4 + j) := by
    rw [← fl_split]; congr 1; omega
  have l4 : (fl n C h 4).length = 4 := fl_length _ _ _ _
  rw [e1, e2, List.drop_left' l4, List.take_left' l4]
  congr 1
  · unfold fl
    refine List.map_congr_left fun j _ => ?_
    unfold fF
    rw [P.pos_nx hh, show (4 + j) / 4 = j / 4 + 1 by omega, show (4 + j) % 4 = j % 4 by omega]
  · unfold fl
    refine List.map_congr_left fun j hj => ?_
    have hj4 : j < 4 := by simpa using hj
    unfold fF
    rw [P.pos_nx hh, show (n * 4 - 4 + j) / 4 + 1 = n + 0 by omega, P.pos_n, show (n * 4 - 4 + j) % 4 = j % 4 by omega, show j / 4 = 0 by omega]
theorem fl_four (n : Nat) (C : P.Ck) {h : Nat} (hh : h < n) : (fl n C h (n * 4)).take 4 = [.int .i64 h, .bool (C.seen h), .bool (C.cold h), .int .i64 (C.pins h)] := by
  have e1 : fl n C h (n * 4) = fl n C h 4 ++ (List.range (n * 4 - 4)).map fun j => fF n C h (4 + j) := by
    rw [← fl_split]; congr 1; omega
  rw [e1, List.take_left' (fl_length _ _ _ _)]
  have := P.pos_zero hh
  simp [fl, List.range_succ, fF, fcell, this]
def tn (n : Nat) (C : P.Ck) (k : Nat) : P.Ck := { C with h := P.pos n C.h k }
/-- What a turn leaves. -/
structure Rt (c g g' : Nat) (w w' : World) : Prop where
  fr : Fr (rfoot c g) w w'
  new : g' = g ∨ w.heap.size ≤ g'
theorem Rt.refl (c g : Nat) (w : World) : Rt c g g w w := ⟨Fr.refl _ _, .inl rfl⟩
theorem Rt.trans {c g g' g'' : Nat} {a b d : World} (h : Rt c g g' a b) (k : Rt c g' g'' b d) : Rt c g g'' a d :=
  ⟨h.fr.trans k.fr fun i hi e => by
    rcases e with rfl | rfl
    · exact .inl rfl
    · rcases h.new with e | e
      · exact .inr e
      · omega, by
    rcases k.new with rfl | e
    · exact h.new
    · have := h.fr.size; exact .inr (by omega)⟩
/-- What the parts of a turn have made. -/
structure TB (w W : World) (cs : List Value) (ov : Option (Value × Nat × List Value)) (ol : Option Nat) : Prop where
  below : Below w.heap.size w W
  v : ∀ v m xs, ov = some (v, m, xs) → W.ownsRow w.heap.size 36 4 v m xs
  l : ∀ b, ol = some b → Blk W b cs.toArray 36 ∧ w.heap.size ≤ b
  vl : ∀ v m xs b, ov = some (v, m, xs) → ol = some b → v.ownBlock ≠ some b
theorem TB.newV {w W : World} {cs : List Value} {ol : Option Nat} (h : TB w W cs none ol) : TB w (W.alloc (.cells #[] 36)) cs (some (.slice (some ⟨W.heap.size, 0, none⟩) 0 0, 0, [])) ol := by
  refine ⟨h.below.alloc h.below.size _, ?_, fun b hb => ⟨(h.l b hb).1.alloc _, (h.l b hb).2⟩, ?_⟩
  · rintro v m xs e
    simp only [Option.some.injEq, Prod.mk.injEq] at e
    obtain ⟨rfl, rfl, rfl⟩ := e
    exact World.ownsRow_lit (size := 4) W #[] 0 h.below.size (by unfold maxLen; omega) rfl
  · rintro v m xs b e hb e2
    simp only [Option.some.injEq, Prod.mk.injEq] at e
    obtain ⟨rfl, rfl, rfl⟩ := e
    have := (h.l b hb).1.lt
    have e3 : W.heap.size = b := Option.some.inj e2
    omega
theorem TB.newL {w W : World} {cs : List Value} {ov : Option (Value × Nat × List Value)} (h : TB w W cs ov none) : TB w (W.alloc (.cells cs.toArray 36)) cs ov (some W.heap.size) := by
  refine ⟨h.below.alloc h.below.size _, fun v m xs e => (h.v v m xs e).alloc _, ?_, ?_⟩
  · rintro b e
    obtain rfl := Option.some.inj e
    exact ⟨Blk.alloc_new _ _ _, h.below.size⟩
  · rintro v m xs b e hb e2
    obtain rfl := Option.some.inj hb
    have := ((h.v v m xs e).lt _ e2).2
    omega
theorem TB.grown {w W W' : World} {cs : List Value} {ol : Option Nat} {v v' : Value} {m m' : Nat} {xs xs' : List Value} (h : TB w W cs (some (v, m, xs)) ol) (ho : W'.ownsRow w.heap.size 36 4 v' m' xs') (hg : W.grownBy W' v.ownBlock) (hl : v'.ownBlock = v.ownBlock ∨ v'.ownBlock = some W.heap.size) :
    TB w W' cs (some (v', m', xs')) ol := by
  have hv := h.v _ _ _ rfl
  refine ⟨h.below.grown hg h.below.size fun k hk => (hv.lt k hk).1, ?_, fun b hb => ?_, ?_⟩
  · rintro v m xs e
    simp only [Option.some.injEq, Prod.mk.injEq] at e
    obtain ⟨rfl, rfl, rfl⟩ := e
    exact ho
  · obtain ⟨h1, h2⟩ := h.l b hb
    exact ⟨h1.fr (Fr.of_grown hg) fun e => h.vl _ _ _ b rfl hb e, h2⟩
  · rintro v m xs b e hb e2
    simp only [Option.some.injEq, Prod.mk.injEq] at e
    obtain ⟨rfl, rfl, rfl⟩ := e
    rcases hl with e | e
    · exact h.vl _ _ _ b rfl hb (e ▸ e2)
    · rw [e] at e2
      have e3 : W.heap.size = b := Option.some.inj e2
      have := (h.l b hb).1.lt
      omega
section
variable {B : Nat} {w w' : World} {c g cap n : Nat} {C : P.Ck}
theorem RC.z0 (h : RC B w c g cap n C) : w.cell? ⟨g, 0, none⟩ = some (.int .i64 C.h) := by have := h.cN (p := 0) (by have := h.h; omega); rw [P.pos_zero h.h] at this; exact this
theorem RC.z1 (h : RC B w c g cap n C) : w.cell? ⟨g, 1, none⟩ = some (.bool (C.seen C.h)) := by have := h.cS (p := 0) (by have := h.h; omega); rw [P.pos_zero h.h] at this; exact this
theorem RC.z2 (h : RC B w c g cap n C) : w.cell? ⟨g, 2, none⟩ = some (.bool (C.cold C.h)) := by have := h.cC (p := 0) (by have := h.h; omega); rw [P.pos_zero h.h] at this; exact this
theorem RC.z3 (h : RC B w c g cap n C) : w.cell? ⟨g, 3, none⟩ = some (.int .i64 (C.pins C.h)) := by have := h.cP (p := 0) (by have := h.h; omega); rw [P.pos_zero h.h] at this; exact this
theorem RC.ncap (h : RC B w c g cap n C) : n ≤ cap := by
  rcases own_cases_n h.own with ⟨h1, _⟩ | ⟨_, _, h1, h2, _⟩
  · cases h1
  · cases h1; exact h2
end
/-- What may be appended: the frames behind the first. -/
theorem RC.src1 {B : Nat} {w : World} {c g cap n : Nat} {C : P.Ck} (h : RC B w c g cap n C) {o : Nat} (ho : (if cap = 1 then 0 else 1 * 4) = o) : SrcAt w (.slice (some ⟨g, o, none⟩) (n - 1) (cap - 1)) (n - 1) ((fl n C C.h (n * 4)).drop 4) :=
  .inr ⟨_, _, rfl, fun j u hu => by
    have hj := (List.getElem?_eq_some_iff.1 hu).1
    rw [List.length_drop, fl_length] at hj
    have hcap := h.ncap
    rw [if_neg (by omega)] at ho
    rw [Addr.add_lit, ← ho, Nat.one_mul, h.own.cellAt _ (by omega), ← List.getElem?_drop]
    exact hu⟩
theorem drop_one (n : Nat) (C : P.Ck) (h m k : Nat) : ∀ u ∈ (fl n C h m).drop k, u.oneCell' = true := fun u hu => fl_one _ _ _ _ u (List.mem_of_mem_drop hu)
theorem lit_one (a : Int) (b c : Bool) (d : Int) : ∀ u ∈ [Value.int .i64 a, .bool b, .bool c, .int .i64 d], u.oneCell' = true := by
  intro u hu
  simp only [List.mem_cons, List.not_mem_nil, or_false] at hu
  rcases hu with rfl | rfl | rfl | rfl <;> rfl
theorem src_blk {w : World} {b : Nat} {cs : List Value} {t : TypeId} (h : Blk w b cs.toArray t) {m k : Nat} : SrcAt w (.slice (some ⟨b, 0, none⟩) m k) m cs :=
  .inr ⟨_, _, rfl, fun j u hu => by rw [add_at, h.cell]; simpa using hu⟩
theorem turned {B : Nat} {w W : World} {c g cap n : Nat} {C : P.Ck} {v : Value} (h : RC B w c g cap n C) (hb : Below w.heap.size w W)
    (own : W.ownsRow w.heap.size 36 4 v (0 + (n - 1) + 1) ([] ++ (fl n C C.h (n * 4)).drop 4 ++ [.int .i64 C.h, .bool (C.seen C.h), .bool (C.cold C.h), .int .i64 (C.pins C.h)])) (hne : v.ownBlock ≠ some c) :
    ∃ g' cap', RC B (W.setCell ⟨c, 0, none⟩ v) c g' cap' n { C with h := P.nx n C.h } ∧ Rt c g g' w (W.setCell ⟨c, 0, none⟩ v) := by
  have hh := h.h
  rw [List.nil_append, ← fl_four n C hh, fl_turn hh, show 0 + (n - 1) + 1 = n by omega] at own
  rcases own_cases_n own with ⟨_, h1, _⟩ | ⟨g', cap', rfl, _, _, hg, _⟩
  · omega
  · have hB := h.base
    have hlt := h.blk.lt
    have hbl := h.blk.below hb
    refine ⟨g', cap', ⟨?_, ?_, fun e => hne (by rw [e]; rfl), h.base, P.nx_lt hh, h.n64⟩, ((Fr.of_below hb _).setCell _ _ fun _ => .inl rfl), .inr hg⟩
    · rw [hbl.setCell]; exact hbl.setRow _
    · have := ownsRow_setCell_other own (a := ⟨c, 0, none⟩) hne (.slice (some ⟨g', 0, none⟩) n cap')
      have h2 : fl n { C with h := P.nx n C.h } (P.nx n C.h) (n * 4) = fl n C (P.nx n C.h) (n * 4) := fl_congr (P.nx_lt hh) rfl (fun _ _ => rfl) (fun _ _ => rfl) (fun _ _ => rfl) _
      show World.ownsRow _ _ _ _ _ _ (fl n { C with h := P.nx n C.h } (P.nx n C.h) (n * 4))
      rw [h2]
      exact own_base this (by omega)
theorem tn_zero {n : Nat} {C : P.Ck} (hh : C.h < n) : tn n C 0 = C := by unfold tn; rw [P.pos_zero hh]
theorem tn_succ {n : Nat} {C : P.Ck} (hh : C.h < n) (k : Nat) : { tn n C k with h := P.nx n (tn n C k).h } = tn n C (k + 1) := by
  unfold tn
  show P.Ck.mk (P.nx n (P.pos n C.h k)) _ _ _ = _
  rw [← P.pos_one (P.pos_lt hh k), P.pos_pos]
set_option maxRecDepth 100000 in
set_option maxHeartbeats 4000000 in
theorem turn_any {B : Nat} {w : World} {c g cap n : Nat} {C : P.Ck} (h : RC B w c g cap n C) (m : Nat) (hm : m ≤ 64) :
    Calls Try.prog 21 #[.pointer (some ⟨c, 0, none⟩), .int .i64 m] w fun e w' => e = .returned (.tuple #[]) ∧ ∃ g' cap', RC B w' c g' cap' n (tn n C m) ∧ Rt c g g' w w' := by
  obtain ⟨i36, hi36, hz0, hz1, hz2⟩ := info_parts info36
  have hh := h.h
  have hn64 := h.n64
  have hn0 : 0 < n := by omega
  have HH := Lib.hid h
  clear h
  go_enter Try.func21, Try.ntmps21
  go_wp2_with fail
  go_loopw [4] (fun i wr => ∃ k g1 cap1 : Nat, i = .int .i64 k ∧ k ≤ m ∧ RC B wr c g1 cap1 n (tn n C k) ∧ Rt c g g1 w wr) (fun i _ => m - (intOf i).toNat)
  case atStart => exact ⟨0, g, cap, rfl, by omega, by rw [tn_zero hh]; exact HH.out, Rt.refl _ _ _⟩
  case round =>
    obtain ⟨k, g1, cap1, rfl, hk, h, hRt⟩ := hrel
    by_cases hlt : k < m
    · have HD : Hid ({ tn n C k with h := P.nx n (tn n C k).h } = tn n C (k + 1)) := tn_succ hh k
      generalize tn n C k = D at *
      obtain ⟨o, ho⟩ : ∃ o, (if cap1 = 1 then 0 else 1 * 4) = o := ⟨_, rfl⟩
      have s2 := fun w' => run_slice_from (P := Try.prog) Try.underlying46 size36 (g := g1) (n := n) (cap := cap1) (i := 1) (k := .i64) (L := 1) rfl (by have := h.h; omega) w'
      rw [ho] at s2
      have hO := Lib.hid ho
      clear ho
      go_wp2_with fail
      refine wp_region_K (k := 18) (S := (fun w' => RC B w' c g1 cap1 n D)) (by kernel_rfl) ?_
      change wpAnyK _ _ _ _ _ _ _ _ _ wr.drew
      (try simp only [Act.put])
      have hS : RC B wr.drew c g1 cap1 n D := h.fr ((Fr.refl (fun _ => False) _).drew) fun _ _ h => h
      refine anyK_pure 0 _ ?_ rfl (by kernel_rfl) (by kernel_rfl) (by kernel_rfl) (fun _ _ _ h => h) (by decide) rfl ?_ hS ?_
      rotate_left
      · (intro w'; go_simp; (try with_reducible rfl))
      (try simp only [Act.put, List.getElem_toArray, List.getElem_cons_zero, List.setIfInBounds_toArray, List.set_cons_zero, List.set_cons_succ])
      refine anyK_pure 2 _ ?_ rfl (by kernel_rfl) (by kernel_rfl) (by kernel_rfl) (fun _ _ _ h => h) (by decide) rfl ?_ hS ?_
      rotate_left
      · (intro w'; go_simp; (try with_reducible rfl))
      (try simp only [Act.put, List.getElem_toArray, List.getElem_cons_zero, List.getElem_cons_succ, List.setIfInBounds_toArray, List.set_cons_zero, List.set_cons_succ])
      refine anyK_pure 3 _ ?_ rfl (by kernel_rfl) (by kernel_rfl) (by kernel_rfl) (fun _ _ _ h => h) (by decide) rfl ?_ hS ?_
      rotate_left
      · (intro w'; go_simp; (try with_reducible rfl))
      (try simp only [Act.put, List.getElem_toArray, List.getElem_cons_zero, List.getElem_cons_succ, List.setIfInBounds_toArray, List.set_cons_zero, List.set_cons_succ])
      refine anyK_pure 4 _ ?_ rfl (by kernel_rfl) (by kernel_rfl) (by kernel_rfl) (fun _ _ _ h => h) (by decide) rfl ?_ hS ?_
      rotate_left
      · (intro w'; go_simp; (try with_reducible rfl))
      (try simp only [Act.put, List.getElem_toArray, List.getElem_cons_zero, List.getElem_cons_succ, List.setIfInBounds_toArray, List.set_cons_zero, List.set_cons_succ])
      refine anyK_if 5 _ ?_ rfl (by kernel_rfl) (by kernel_rfl) (by kernel_rfl) (fun _ _ _ h => h) (by decide) (by kernel_rfl) (by kernel_rfl) rfl ?_ hS ?_
      rotate_left
      · (intro w' h; have c0 := h.c0; go_simp; (try with_reducible rfl))
      (try simp only [Act.put, List.getElem_toArray, List.getElem_cons_zero, List.getElem_cons_succ, List.setIfInBounds_toArray, List.set_cons_zero, List.set_cons_succ])
      refine anyK_pure 6 _ ?_ rfl (by kernel_rfl) (by kernel_rfl) (by kernel_rfl) (fun _ _ _ h => h) (by decide) rfl ?_ hS ?_
      rotate_left
      · (intro w'; go_simp; (try with_reducible rfl))
      (try simp only [Act.put, List.getElem_toArray, List.getElem_cons_zero, List.getElem_cons_succ, List.setIfInBounds_toArray, List.set_cons_zero, List.set_cons_succ])
      refine anyK_pure 8 _ ?_ rfl (by kernel_rfl) (by kernel_rfl) (by kernel_rfl) (fun _ _ _ h => h) (by decide) rfl ?_ hS ?_
      rotate_left
      · (intro w'; go_simp; (try with_reducible rfl))
      (try simp only [Act.put, List.getElem_toArray, List.getElem_cons_zero, List.getElem_cons_succ, List.setIfInBounds_toArray, List.set_cons_zero, List.set_cons_succ])
      refine anyK_pure 9 _ ?_ rfl (by kernel_rfl) (by kernel_rfl) (by kernel_rfl) (fun _ _ _ h => h) (by decide) rfl ?_ hS ?_
      rotate_left
      · (intro w'; go_simp; (try with_reducible rfl))
      (try simp only [Act.put, List.getElem_toArray, List.getElem_cons_zero, List.getElem_cons_succ, List.setIfInBounds_toArray, List.set_cons_zero, List.set_cons_succ])
      refine anyK_pure 10 _ ?_ rfl (by kernel_rfl) (by kernel_rfl) (by kernel_rfl) (fun _ _ _ h => h) (by decide) rfl ?_ hS ?_
      rotate_left
      · (intro w'; go_simp; (try with_reducible rfl))
      (try simp only [Act.put, List.getElem_toArray, List.getElem_cons_zero, List.getElem_cons_succ, List.setIfInBounds_toArray, List.set_cons_zero, List.set_cons_succ])
      refine anyK_if 11 _ ?_ rfl (by kernel_rfl) (by kernel_rfl) (by kernel_rfl) (fun _ _ _ h => h) (by decide) (by kernel_rfl) (by kernel_rfl) rfl ?_ hS ?_
      rotate_left
      · (intro w' h; have c0 := h.c0; go_simp; (try with_reducible rfl))
      (try simp only [Act.put, List.getElem_toArray, List.getElem_cons_zero, List.getElem_cons_succ, List.setIfInBounds_toArray, List.set_cons_zero, List.set_cons_succ])
      refine anyK_pure 12 _ ?_ rfl (by kernel_rfl) (by kernel_rfl) (by kernel_rfl) (fun _ _ _ h => h) (by decide) rfl ?_ hS ?_
      rotate_left
      · (intro w'; go_simp; (try with_reducible rfl))
      (try simp only [Act.put, List.getElem_toArray, List.getElem_cons_zero, List.getElem_cons_succ, List.setIfInBounds_toArray, List.set_cons_zero, List.set_cons_succ])
      refine anyK_if 13 _ ?_ rfl (by kernel_rfl) (by kernel_rfl) (by kernel_rfl) (fun _ _ _ h => h) (by decide) (by kernel_rfl) (by kernel_rfl) rfl ?_ hS ?_
      rotate_left
      · (intro w' h; have c0 := h.z0; have c1 := h.z1; have c2 := h.z2; have c3 := h.z3; go_simp; (try with_reducible rfl))
      (try simp only [Act.put, List.getElem_toArray, List.getElem_cons_zero, List.getElem_cons_succ, List.setIfInBounds_toArray, List.set_cons_zero, List.set_cons_succ])
      have hS0 := h
      have hT : TB wr wr.drew [.int .i64 D.h, .bool (D.seen D.h), .bool (D.cold D.h), .int .i64 (D.pins D.h)] none none := ⟨(Below.refl _ _).drew, fun _ _ _ e => (by cases e), fun _ e => (by cases e), fun _ _ _ _ e => (by cases e)⟩
      generalize wr.drew = W1 at *
      refine anyK_all2 1 14 (by kernel_rfl) ?_ ?_
      · skip
        refine wpOp_run 1 _ _ _ rfl rfl (by go_simp; exact ⟨rfl, rfl⟩) ?_
        replace hT := hT.newV
        refine ⟨hS0.fr (Fr.of_below hT.below _) fun _ _ h => h, ?_⟩
        (try simp only [Act.put, List.getElem_toArray, List.getElem_cons_zero, List.getElem_cons_succ, List.setIfInBounds_toArray, List.set_cons_zero, List.set_cons_succ])
        generalize World.alloc W1 (.cells #[] 36) = W2 at *
        generalize W1.heap.size = eb at *
        refine anyK_all2 7 14 (by kernel_rfl) ?_ ?_
        · skip
          refine wpOp_of 7 _ _ rfl rfl (wp_append_src _ _ 46 rfl wr.heap.size 36 i36 _ 4 24 Try.underlying46 hi36 hz0 hz1 hz2 rfl (by decide) _ 0 [] rfl (hT.v _ _ _ rfl) _ (n - 1) ((fl n D D.h (n * 4)).drop 4) rfl ((hS0.fr (Fr.of_below hT.below (fun _ => False)) fun _ _ h => h).src1 hO.out) ?_ (drop_one _ _ _ _ _) ?_ ?_ ?_ ?_)
          · rw [List.length_drop, fl_length]; omega
          · unfold maxLen; omega
          · omega
          · exact hT.below.size
          intro v2 W3 own2 gr2 _ hloc2
          replace hT := hT.grown own2 gr2 hloc2
          clear own2 gr2 hloc2
          refine ⟨hS0.fr (Fr.of_below hT.below _) fun _ _ h => h, ?_⟩
          (try simp only [Act.put, List.getElem_toArray, List.getElem_cons_zero, List.getElem_cons_succ, List.setIfInBounds_toArray, List.set_cons_zero, List.set_cons_succ])
          generalize W2.heap.size = xb at *
          refine anyK_all1 14 (by kernel_rfl) ?_
          refine wpOp_of 14 _ _ rfl rfl (wp_buildSlice 46 36 1 _ rfl #[.int .i64 D.h, .bool (D.seen D.h), .bool (D.cold D.h), .int .i64 (D.pins D.h)] i36 _ Try.underlying46 hi36 hz0 (by rw [hz1]; decide) (by rw [hz1]; decide) ?c1 ?_)
          case c1 => (simp only [hz1]; go_simp)
          replace hT := hT.newL
          refine ⟨hS0.fr (Fr.of_below hT.below _) fun _ _ h => h, ?_⟩
          (try simp only [Act.put, List.getElem_toArray, List.getElem_cons_zero, List.getElem_cons_succ, List.setIfInBounds_toArray, List.set_cons_zero, List.set_cons_succ])
          change wpAnyK _ _ _ _ _ _ _ _ _ (World.alloc W3 (.cells [.int .i64 D.h, .bool (D.seen D.h), .bool (D.cold D.h), .int .i64 (D.pins D.h)].toArray 36))
          generalize World.alloc W3 (.cells [.int .i64 D.h, .bool (D.seen D.h), .bool (D.cold D.h), .int .i64 (D.pins D.h)].toArray 36) = W4 at *
          generalize W3.heap.size = lb at *
          refine anyK_one 15 _ (by kernel_rfl) rfl rfl (wp_append_src _ _ 46 rfl wr.heap.size 36 i36 _ 4 24 Try.underlying46 hi36 hz0 hz1 hz2 rfl (by decide) _ _ _ rfl (hT.v _ _ _ rfl) _ 1 [.int .i64 D.h, .bool (D.seen D.h), .bool (D.cold D.h), .int .i64 (D.pins D.h)] rfl (src_blk (hT.l _ rfl).1) rfl ?_ ?_ ?_ ?_ ?_)
          · exact lit_one _ _ _ _
          · unfold maxLen; omega
          · omega
          · exact hT.below.size
          intro v3 w3 own3 gr3 _ hloc3
          replace hT := hT.grown own3 gr3 hloc3
          clear gr3 hloc3
          have hS3 := hS0.fr (Fr.of_below hT.below (fun _ => False)) fun _ _ h => h
          refine ⟨hS3, ?_⟩
          (try simp only [Act.put, List.getElem_toArray, List.getElem_cons_zero, List.getElem_cons_succ, List.setIfInBounds_toArray, List.set_cons_zero, List.set_cons_succ])
          have hS := hS3
          refine anyK_pure 16 _ ?_ rfl (by kernel_rfl) (by kernel_rfl) (by kernel_rfl) (fun _ _ _ h => h) (by decide) rfl ?_ hS ?_
          rotate_left
          · (intro w'; go_simp; (try with_reducible rfl))
          (try simp only [Act.put, List.getElem_toArray, List.getElem_cons_zero, List.getElem_cons_succ, List.setIfInBounds_toArray, List.set_cons_zero, List.set_cons_succ])
          refine anyK_pure 17 _ ?_ rfl (by kernel_rfl) (by kernel_rfl) (by kernel_rfl) (fun _ _ _ h => h) (by decide) rfl ?_ hS ?_
          rotate_left
          · (intro w'; go_simp; (try with_reducible rfl))
          (try simp only [Act.put, List.getElem_toArray, List.getElem_cons_zero, List.getElem_cons_succ, List.setIfInBounds_toArray, List.set_cons_zero, List.set_cons_succ])
          have hne3 : v3.ownBlock ≠ some c := fun e => by have := (own3.lt c e).1; have := h.blk.lt; omega
          refine anyK_last _ (by kernel_rfl) rfl (by decide) rfl (wp_store_one 46 _ _ rfl ⟨c, 0, none⟩ _ v3 rfl rfl size46 (own_one own3) (hS3.blk.cell 0) (hS3.blk.free 0) ?_)
          refine anyK_done (by kernel_rfl) ?_ _
          obtain ⟨g', cap', hR, hF⟩ := turned h hT.below own3 hne3
          generalize w3.setCell ⟨c, 0, none⟩ v3 = w4 at *
          go_wp2_with fail
          go_roundw
          case rel => exact ⟨k + 1, g', cap', by go_num, by omega, HD.out ▸ hR, hRt.trans hF⟩
          case measure => simp [intOf]; omega
        · skip
          refine wpOp_of 14 _ _ rfl rfl (wp_buildSlice 46 36 1 _ rfl #[.int .i64 D.h, .bool (D.seen D.h), .bool (D.cold D.h), .int .i64 (D.pins D.h)] i36 _ Try.underlying46 hi36 hz0 (by rw [hz1]; decide) (by rw [hz1]; decide) ?c1 ?_)
          case c1 => (simp only [hz1]; go_simp)
          replace hT := hT.newL
          refine ⟨hS0.fr (Fr.of_below hT.below _) fun _ _ h => h, ?_⟩
          (try simp only [Act.put, List.getElem_toArray, List.getElem_cons_zero, List.getElem_cons_succ, List.setIfInBounds_toArray, List.set_cons_zero, List.set_cons_succ])
          change wpAnyK _ _ _ _ _ _ _ _ _ (World.alloc W2 (.cells [.int .i64 D.h, .bool (D.seen D.h), .bool (D.cold D.h), .int .i64 (D.pins D.h)].toArray 36))
          generalize World.alloc W2 (.cells [.int .i64 D.h, .bool (D.seen D.h), .bool (D.cold D.h), .int .i64 (D.pins D.h)].toArray 36) = W3 at *
          generalize W2.heap.size = lb at *
          refine anyK_all1 7 (by kernel_rfl) ?_
          refine wpOp_of 7 _ _ rfl rfl (wp_append_src _ _ 46 rfl wr.heap.size 36 i36 _ 4 24 Try.underlying46 hi36 hz0 hz1 hz2 rfl (by decide) _ 0 [] rfl (hT.v _ _ _ rfl) _ (n - 1) ((fl n D D.h (n * 4)).drop 4) rfl ((hS0.fr (Fr.of_below hT.below (fun _ => False)) fun _ _ h => h).src1 hO.out) ?_ (drop_one _ _ _ _ _) ?_ ?_ ?_ ?_)
          · rw [List.length_drop, fl_length]; omega
          · unfold maxLen; omega
          · omega
          · exact hT.below.size
          intro v2 W4 own2 gr2 _ hloc2
          replace hT := hT.grown own2 gr2 hloc2
          clear own2 gr2 hloc2
          refine ⟨hS0.fr (Fr.of_below hT.below _) fun _ _ h => h, ?_⟩
          (try simp only [Act.put, List.getElem_toArray, List.getElem_cons_zero, List.getElem_cons_succ, List.setIfInBounds_toArray, List.set_cons_zero, List.set_cons_succ])
          generalize W3.heap.size = xb at *
          refine anyK_one 15 _ (by kernel_rfl) rfl rfl (wp_append_src _ _ 46 rfl wr.heap.size 36 i36 _ 4 24 Try.underlying46 hi36 hz0 hz1 hz2 rfl (by decide) _ _ _ rfl (hT.v _ _ _ rfl) _ 1 [.int .i64 D.h, .bool (D.seen D.h), .bool (D.cold D.h), .int .i64 (D.pins D.h)] rfl (src_blk (hT.l _ rfl).1) rfl ?_ ?_ ?_ ?_ ?_)
          · exact lit_one _ _ _ _
          · unfold maxLen; omega
          · omega
          · exact hT.below.size
          intro v3 w3 own3 gr3 _ hloc3
          replace hT := hT.grown own3 gr3 hloc3
          clear gr3 hloc3
          have hS3 := hS0.fr (Fr.of_below hT.below (fun _ => False)) fun _ _ h => h
          refine ⟨hS3, ?_⟩
          (try simp only [Act.put, List.getElem_toArray, List.getElem_cons_zero, List.getElem_cons_succ, List.setIfInBounds_toArray, List.set_cons_zero, List.set_cons_succ])
          have hS := hS3
          refine anyK_pure 16 _ ?_ rfl (by kernel_rfl) (by kernel_rfl) (by kernel_rfl) (fun _ _ _ h => h) (by decide) rfl ?_ hS ?_
          rotate_left
          · (intro w'; go_simp; (try with_reducible rfl))
          (try simp only [Act.put, List.getElem_toArray, List.getElem_cons_zero, List.getElem_cons_succ, List.setIfInBounds_toArray, List.set_cons_zero, List.set_cons_succ])
          refine anyK_pure 17 _ ?_ rfl (by kernel_rfl) (by kernel_rfl) (by kernel_rfl) (fun _ _ _ h => h) (by decide) rfl ?_ hS ?_
          rotate_left
          · (intro w'; go_simp; (try with_reducible rfl))
          (try simp only [Act.put, List.getElem_toArray, List.getElem_cons_zero, List.getElem_cons_succ, List.setIfInBounds_toArray, List.set_cons_zero, List.set_cons_succ])
          have hne3 : v3.ownBlock ≠ some c := fun e => by have := (own3.lt c e).1; have := h.blk.lt; omega
          refine anyK_last _ (by kernel_rfl) rfl (by decide) rfl (wp_store_one 46 _ _ rfl ⟨c, 0, none⟩ _ v3 rfl rfl size46 (own_one own3) (hS3.blk.cell 0) (hS3.blk.free 0) ?_)
          refine anyK_done (by kernel_rfl) ?_ _
          obtain ⟨g', cap', hR, hF⟩ := turned h hT.below own3 hne3
          generalize w3.setCell ⟨c, 0, none⟩ v3 = w4 at *
          go_wp2_with fail
          go_roundw
          case rel => exact ⟨k + 1, g', cap', by go_num, by omega, HD.out ▸ hR, hRt.trans hF⟩
          case measure => simp [intOf]; omega
      · skip
        refine wpOp_of 14 _ _ rfl rfl (wp_buildSlice 46 36 1 _ rfl #[.int .i64 D.h, .bool (D.seen D.h), .bool (D.cold D.h), .int .i64 (D.pins D.h)] i36 _ Try.underlying46 hi36 hz0 (by rw [hz1]; decide) (by rw [hz1]; decide) ?c1 ?_)
        case c1 => (simp only [hz1]; go_simp)
        replace hT := hT.newL
        refine ⟨hS0.fr (Fr.of_below hT.below _) fun _ _ h => h, ?_⟩
        (try simp only [Act.put, List.getElem_toArray, List.getElem_cons_zero, List.getElem_cons_succ, List.setIfInBounds_toArray, List.set_cons_zero, List.set_cons_succ])
        change wpAnyK _ _ _ _ _ _ _ _ _ (World.alloc W1 (.cells [.int .i64 D.h, .bool (D.seen D.h), .bool (D.cold D.h), .int .i64 (D.pins D.h)].toArray 36))
        generalize World.alloc W1 (.cells [.int .i64 D.h, .bool (D.seen D.h), .bool (D.cold D.h), .int .i64 (D.pins D.h)].toArray 36) = W2 at *
        generalize W1.heap.size = lb at *
        refine anyK_all1 1 (by kernel_rfl) ?_
        refine wpOp_run 1 _ _ _ rfl rfl (by go_simp; exact ⟨rfl, rfl⟩) ?_
        replace hT := hT.newV
        refine ⟨hS0.fr (Fr.of_below hT.below _) fun _ _ h => h, ?_⟩
        (try simp only [Act.put, List.getElem_toArray, List.getElem_cons_zero, List.getElem_cons_succ, List.setIfInBounds_toArray, List.set_cons_zero, List.set_cons_succ])
        generalize World.alloc W2 (.cells #[] 36) = W3 at *
        generalize W2.heap.size = eb at *
        refine anyK_all1 7 (by kernel_rfl) ?_
        refine wpOp_of 7 _ _ rfl rfl (wp_append_src _ _ 46 rfl wr.heap.size 36 i36 _ 4 24 Try.underlying46 hi36 hz0 hz1 hz2 rfl (by decide) _ 0 [] rfl (hT.v _ _ _ rfl) _ (n - 1) ((fl n D D.h (n * 4)).drop 4) rfl ((hS0.fr (Fr.of_below hT.below (fun _ => False)) fun _ _ h => h).src1 hO.out) ?_ (drop_one _ _ _ _ _) ?_ ?_ ?_ ?_)
        · rw [List.length_drop, fl_length]; omega
        · unfold maxLen; omega
        · omega
        · exact hT.below.size
        intro v2 W4 own2 gr2 _ hloc2
        replace hT := hT.grown own2 gr2 hloc2
        clear own2 gr2 hloc2
        refine ⟨hS0.fr (Fr.of_below hT.below _) fun _ _ h => h, ?_⟩
        (try simp only [Act.put, List.getElem_toArray, List.getElem_cons_zero, List.getElem_cons_succ, List.setIfInBounds_toArray, List.set_cons_zero, List.set_cons_succ])
        generalize W3.heap.size = xb at *
        refine anyK_one 15 _ (by kernel_rfl) rfl rfl (wp_append_src _ _ 46 rfl wr.heap.size 36 i36 _ 4 24 Try.underlying46 hi36 hz0 hz1 hz2 rfl (by decide) _ _ _ rfl (hT.v _ _ _ rfl) _ 1 [.int .i64 D.h, .bool (D.seen D.h), .bool (D.cold D.h), .int .i64 (D.pins D.h)] rfl (src_blk (hT.l _ rfl).1) rfl ?_ ?_ ?_ ?_ ?_)
        · exact lit_one _ _ _ _
        · unfold maxLen; omega
        · omega
        · exact hT.below.size
        intro v3 w3 own3 gr3 _ hloc3
        replace hT := hT.grown own3 gr3 hloc3
        clear gr3 hloc3
        have hS3 := hS0.fr (Fr.of_below hT.below (fun _ => False)) fun _ _ h => h
        refine ⟨hS3, ?_⟩
        (try simp only [Act.put, List.getElem_toArray, List.getElem_cons_zero, List.getElem_cons_succ, List.setIfInBounds_toArray, List.set_cons_zero, List.set_cons_succ])
        have hS := hS3
        refine anyK_pure 16 _ ?_ rfl (by kernel_rfl) (by kernel_rfl) (by kernel_rfl) (fun _ _ _ h => h) (by decide) rfl ?_ hS ?_
        rotate_left
        · (intro w'; go_simp; (try with_reducible rfl))
        (try simp only [Act.put, List.getElem_toArray, List.getElem_cons_zero, List.getElem_cons_succ, List.setIfInBounds_toArray, List.set_cons_zero, List.set_cons_succ])
        refine anyK_pure 17 _ ?_ rfl (by kernel_rfl) (by kernel_rfl) (by kernel_rfl) (fun _ _ _ h => h) (by decide) rfl ?_ hS ?_
        rotate_left
        · (intro w'; go_simp; (try with_reducible rfl))
        (try simp only [Act.put, List.getElem_toArray, List.getElem_cons_zero, List.getElem_cons_succ, List.setIfInBounds_toArray, List.set_cons_zero, List.set_cons_succ])
        have hne3 : v3.ownBlock ≠ some c := fun e => by have := (own3.lt c e).1; have := h.blk.lt; omega
        refine anyK_last _ (by kernel_rfl) rfl (by decide) rfl (wp_store_one 46 _ _ rfl ⟨c, 0, none⟩ _ v3 rfl rfl size46 (own_one own3) (hS3.blk.cell 0) (hS3.blk.free 0) ?_)
        refine anyK_done (by kernel_rfl) ?_ _
        obtain ⟨g', cap', hR, hF⟩ := turned h hT.below own3 hne3
        generalize w3.setCell ⟨c, 0, none⟩ v3 = w4 at *
        go_wp2_with fail
        go_roundw
        case rel => exact ⟨k + 1, g', cap', by go_num, by omega, HD.out ▸ hR, hRt.trans hF⟩
        case measure => simp [intOf]; omega
    · obtain rfl : k = m := by omega
      go_wp2_with fail
      go_end0
      exact ⟨rfl, g1, cap1, h, hRt⟩
theorem size48 : (Try.prog.info? 48).map (·.size) = some 1 := by kernel_rfl
theorem fl_next {n : Nat} {k : Nat} (hk : k < n) : fl n P.new 0 (k * 4) ++ [.int .i64 k, .bool false, .bool false, .int .i64 0] = fl n P.new 0 ((k + 1) * 4) := by
  rw [show (k + 1) * 4 = k * 4 + 4 by omega, fl_split]
  congr 1
  have hp : ∀ j, j < 4 → (k * 4 + j) / 4 = k ∧ (k * 4 + j) % 4 = j := fun j hj => by omega
  have hq : P.pos n 0 k = k := by unfold P.pos; rw [Nat.zero_add, Nat.mod_eq_of_lt hk]
  obtain ⟨a0, b0⟩ := hp 0 (by omega); obtain ⟨a1, b1⟩ := hp 1 (by omega); obtain ⟨a2, b2⟩ := hp 2 (by omega); obtain ⟨a3, b3⟩ := hp 3 (by omega)
  simp only [List.range_succ, List.range_zero, List.nil_append, List.cons_append, List.map_cons, List.map_nil, fF, a0, b0, a1, b1, a2, b2, a3, b3, hq]
  rfl
set_option maxRecDepth 100000 in
set_option maxHeartbeats 4000000 in
theorem refnew_any {w : World} (n : Nat) (h1 : 1 ≤ n) (h64 : n ≤ 64) :
    Calls Try.prog 10 #[.int .i64 n] w fun e w' => ∃ c g cap, e = .returned (.pointer (some ⟨c, 0, none⟩)) ∧ RC w.heap.size w' c g cap n P.new ∧ Below w.heap.size w w' := by
  obtain ⟨i36, hi36, hz0, hz1, hz2⟩ := info_parts info36
  go_enter Try.func10, Try.ntmps10
  go_wp2_with fail
  change Code.wp _ _ _ _ (w.alloc (.cells #[.slice none 0 0] 48))
  have hb0 : Blk (w.alloc (.cells #[.slice none 0 0] 48)) w.heap.size #[.slice none 0 0] 48 := Blk.alloc_new _ _ _
  have hw0 : Below w.heap.size w (w.alloc (.cells #[.slice none 0 0] 48)) := (Below.refl _ _).alloc (Nat.le_refl _) _
  generalize w.alloc (.cells #[.slice none 0 0] 48) = w0 at *
  generalize hc : w.heap.size = c at *
  go_loopw [4] (fun i wr => ∃ k v, i = .int .i64 (k : Nat) ∧ k ≤ n ∧ Blk wr c #[v] 48 ∧ wr.ownsRow (c + 1) 36 4 v k (fl n P.new 0 (k * 4)) ∧ Below c w wr) (fun i _ => n - (intOf i).toNat)
  case atStart => exact ⟨0, _, rfl, by omega, hb0, World.ownsRow_nil _ _ _ _, hw0⟩
  case round =>
    obtain ⟨k, v, rfl, hk, hB, hO, hW⟩ := hrel
    have hne : v.ownBlock ≠ some c := fun e => by have := (hO.lt c e).1; omega
    have c0 : wr.cell? ⟨c, 0, none⟩ = some v := by rw [hB.cell]; rfl
    by_cases hlt : k < n
    · have hlt2 := hB.lt
      go_wp2_with (at_builtin; refine wpList_append_src rfl (.tmp 16) (.tmp 19) 46 rfl (c + 1) 36 i36 _ 4 24 Try.underlying46 hi36 hz0 hz1 hz2 rfl (by decide) _ _ _ rfl (hO.alloc _) _ 1 #[.int .i64 k, .bool false, .bool false, .int .i64 0].toList rfl ?c0 rfl ?c1 ?c2 ?c3 ?c4 ?_)
      case c0 => exact SrcAt.lit wr _ _ _ _ _ rfl
      case c1 => exact ⟨rfl, rfl, rfl⟩
      case c2 => unfold maxLen; omega
      case c3 => omega
      case c4 => simp; omega
      intro v' w1 hown' hgrow _ hloc
      have hb' : Below (c + 1) wr w1 := ((Below.refl (c + 1) wr).alloc (by omega) _).grown hgrow (by simp; omega) fun b hb => (hO.lt b hb).1
      have hW' : Below c w w1 := hW.trans (hb'.mono (by omega))
      replace hown' : w1.ownsRow (c + 1) 36 4 v' (k + 1) (fl n P.new 0 ((k + 1) * 4)) := by
        rw [← fl_next hlt]; exact hown'
      have hB' : Blk w1 c #[v] 48 := (hb'.block c (by omega)).trans hB
      obtain ⟨ao, cc, hu⟩ := own_slice hown'
      subst hu
      have hne' : (Value.slice ao (k + 1) cc).ownBlock ≠ some c := fun e => by have := (hown'.lt c e).1; omega
      have c0 : w1.cell? ⟨c, 0, none⟩ = some v := by rw [hB'.cell]; rfl
      have f0 := hB'.free 0
      have hB2 : Blk (w1.setCell ⟨c, 0, none⟩ (.slice ao (k + 1) cc)) c #[.slice ao (k + 1) cc] 48 := by rw [hB'.setCell]; exact hB'.setRow _
      have hO2 := ownsRow_setCell_other hown' (a := ⟨c, 0, none⟩) hne' (.slice ao (k + 1) cc)
      have hW2 : Below c w (w1.setCell ⟨c, 0, none⟩ (.slice ao (k + 1) cc)) := hW'.setCell (by simp) _
      clear hgrow hloc hb' hW'
      go_wp2_with fail
      go_roundw
      case rel => exact ⟨k + 1, _, by go_num, by omega, hB2, hO2, hW2⟩
      case measure => simp [intOf]; omega
    · obtain rfl : k = n := by omega
      go_wp2_with fail
      go_ret
      rcases own_cases_n hO with ⟨_, h0, _⟩ | ⟨g, cap, rfl, _, _, hg, _⟩
      · omega
      · rw [hc]; exact ⟨c, g, cap, rfl, ⟨hB, own_base hO (by omega), by omega, by omega, h1, h64⟩, hW⟩
end Go.Proofs.Ytbibfoahlieccaa
