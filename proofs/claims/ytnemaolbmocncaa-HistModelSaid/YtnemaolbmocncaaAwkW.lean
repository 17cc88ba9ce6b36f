/- The walk of awake. -/
import Derived.Test.YtnemaolbmocncaaFewW
namespace Go.Proofs.Ytnemaolbmocncaa.P
def awA : Pst := ⟨0, 1, true, [], [3]⟩
def awB : Pst := ⟨0, 2, true, [], [3]⟩
theorem aw_get {i : Nat} {a : Pst} (h : [awA, awB][i]? = some a) : (i = 0 ∧ a = awA) ∨ (i = 1 ∧ a = awB) := by
  match i, h with
  | 0, h => exact .inl ⟨rfl, by simpa using h.symm⟩
  | 1, h => exact .inr ⟨rfl, by simpa using h.symm⟩
theorem aw_by {p t : Int} {i : Nat} (h : by_ [awA, awB] p t i) : p = 3 ∧ ((i = 0 ∧ t = 1) ∨ (i = 1 ∧ t = 2)) := by
  obtain ⟨a, h1, _, h2, h3⟩ := h
  rcases aw_get h1 with ⟨rfl, rfl⟩ | ⟨rfl, rfl⟩
  · exact ⟨by simpa [awA] using h2, .inl ⟨rfl, h3.symm⟩⟩
  · exact ⟨by simpa [awB] using h2, .inr ⟨rfl, h3.symm⟩⟩
theorem aw_rd {i : Nat} {v : Int × Int} (h : rd [awA, awB] i v) : False := by
  obtain ⟨a, h1, _, h2⟩ := h
  rcases aw_get h1 with ⟨rfl, rfl⟩ | ⟨rfl, rfl⟩ <;> cases h2
theorem aw_by1 : by_ [awA, awB] 3 2 1 := ⟨awB, rfl, rfl, by simp [awB], rfl⟩
theorem aw_dep : dep [awA, awB] 0 1 := ⟨by decide, .inl ⟨3, 1, ⟨awA, rfl, rfl, by simp [awA], rfl⟩, 2, aw_by1, by decide, fun t k h _ => by
  have h2 := (aw_by h).2
  omega⟩⟩
theorem aw_dep_lt {i k : Nat} (h : dep [awA, awB] i k) : i < k := by
  obtain ⟨hne, ⟨p, t, h1, t', h2, h3, _⟩ | ⟨v, h1, _⟩⟩ := h
  · have e1 := (aw_by h1).2
    have e2 := (aw_by h2).2
    omega
  · exact (aw_rd h1).elim
theorem aw_path {i k : Nat} (h : Path (dep [awA, awB]) i k) : i < k := by
  induction h with
  | one h => exact aw_dep_lt h
  | more _ h ih => have := aw_dep_lt h; omega
theorem aw_chk : chk [awA, awB] = (4, 0) := by
  refine (chk_ok (a := false) (b := false) (c := true) (d := false) ?_ ?_ ?_ ?_ ?_).trans rfl
  · rintro ⟨i, a, h1, h2, h3⟩
    rcases aw_get h1 with ⟨rfl, rfl⟩ | ⟨rfl, rfl⟩
    · rcases h3 with h3 | ⟨j, b, h3, _⟩
      · exact absurd h3 (by decide)
      · omega
    · rcases h3 with h3 | ⟨j, b, h3, h4, _, h5⟩
      · exact absurd h3 (by decide)
      · obtain rfl : j = 0 := by omega
        obtain rfl : awA = b := by simpa using h4
        exact absurd h5 (by decide)
  · exact ⟨fun h => (by cases h), fun ⟨i, v, h, _⟩ => (aw_rd h).elim⟩
  · exact ⟨fun h => (by cases h), fun ⟨i, h⟩ => by have := aw_path h; omega⟩
  · refine ⟨fun _ => ⟨0, 1, aw_dep, ?_⟩, fun _ => rfl⟩
    rintro ⟨_, a, b, h1, h2, _, _, h3⟩
    obtain rfl : awA = a := by simpa using h1
    obtain rfl : awB = b := by simpa using h2
    exact absurd h3 (by decide)
  · exact ⟨fun h => (by cases h), fun ⟨i, k, ⟨_, v, h, _⟩, _⟩ => (aw_rd h).elim⟩
end Go.Proofs.Ytnemaolbmocncaa.P
namespace Go.Proofs.Ytnemaolbmocncaa
open Go.RowKit
set_option linter.unusedSimpArgs false
set_option linter.unusedVariables false
attribute [local irreducible] wpList
theorem fill41 (p : Int) : Instr.fill (fun i => some (i * 1, 1)) ((Array.range (1 * 1)).map ((Value.int .u16 0).cells[· % (Value.int .u16 0).cells.size]!)) [(0, .int .u16 p)] = some #[.int .u16 p] := by kernel_rfl
theorem fill22 (x y : Rec) : Instr.fill (fun i => some (i * 5, 5)) ((Array.range (2 * 5)).map ((Value.agg (pcA noR)).cells[· % (Value.agg (pcA noR)).cells.size]!)) [(0, .agg (pcA x)), (1, .agg (pcA y))] = some (pcL x ++ pcL y).toArray := by kernel_rfl
theorem b36 (c : Int) (d : Bool) (ao : Option Addr) (n cap : Nat) : Try.prog.built 36 [(1, .int .u32 c), (2, .bool d), (4, .slice ao n cap)] = some #[.int .u32 0, .int .u32 c, .bool d, .slice none 0 0, .slice ao n cap] := by kernel_rfl
theorem aw_sub {w : World} {b : Nat} {s c : Int} (hs : wU32 s) (hc : wU32 c) {p : Int} (hp : wU16 p) (h : Blk w b #[.int .u16 p] 41) : SubAt w (⟨s, c, true, [], [p]⟩, .slice none 0 0, .slice (some ⟨b, 0, none⟩) 1 1) where
  rd := ⟨none, 0, rfl, ⟨Nat.le_refl _, fun _ => rfl⟩, RowAt.nil _ _ _ _⟩
  wt := ⟨some ⟨b, 0, none⟩, 1, rfl, ⟨Nat.le_refl _, fun e => by cases e⟩, fun i x hx => by
    have hi := (List.getElem?_eq_some_iff.1 hx).1
    obtain rfl : i = 0 := by simpa using hi
    obtain rfl : p = x := by simpa using hx
    exact ⟨b, 0, rfl, h.lt, fun j u hu => by
      have hj := (List.getElem?_eq_some_iff.1 hu).1
      obtain rfl : j = 0 := by simpa [pgC] using hj
      rw [h.cell]; simpa [pgC] using hu⟩⟩
  ok := ⟨hs, hc, fun v hv => (by cases hv), fun q hq => (List.mem_singleton.1 hq) ▸ hp, by simp, by simp⟩
theorem wf_u8 {x : Int} (h : (Lit.int .u8 x).wf = true) : 0 ≤ x ∧ x ≤ 255 := by
  simp [Lit.wf, IntKind.min, IntKind.max, IntKind.bits, IntKind.signed] at h; omega
theorem wf_u16 {x : Int} (h : (Lit.int .u16 x).wf = true) : 0 ≤ x ∧ x ≤ 65535 := by
  simp [Lit.wf, IntKind.min, IntKind.max, IntKind.bits, IntKind.signed] at h; omega
theorem w32 {x : Int} (h : 0 ≤ x ∧ x ≤ 100) : wU32 x := by unfold wU32; simp [Lit.wf, IntKind.min, IntKind.max, IntKind.bits, IntKind.signed]; omega
theorem w16 {x : Int} (h : 0 ≤ x ∧ x ≤ 100) : wU16 x := by unfold wU16; simp [Lit.wf, IntKind.min, IntKind.max, IntKind.bits, IntKind.signed]; omega
/-- Records that lie in one block. -/
theorem blk_row {w : World} {b : Nat} {t : TypeId} {R : List Rec} (h : Blk w b (R.flatMap pcL).toArray t) : RowAt w (some ⟨b, 0, none⟩) 5 pcL R := fun i x hx => ⟨b, 0, rfl, h.lt, fun j u hu => by
  have hj : j < 5 := (List.getElem?_eq_some_iff.1 hu).1
  rw [h.cell, show 0 + i * 5 + j = i * 5 + j by omega, List.getElem?_toArray, flat_get pcL_length hx hj]
  exact hu⟩
set_option maxRecDepth 100000 in
set_option maxHeartbeats 4000000 in
theorem awake_any (w : World) : Calls Try.prog 14 #[] w fun e w' => e = .returned (.bool true) ∧ Below w.heap.size w w' := by
  obtain ⟨ie, hie, ze, se, ye⟩ := info_parts info36
  obtain ⟨ip, hip, zp, sp, yp⟩ := info_parts info41
  go_enter Try.func14, Try.ntmps14
  go_upto_region 1 with (fail)
  refine no_implicit_lambda% (wp_region_lit ?_)
  refine wpl_law rfl (wp_buildSlice 34 41 1 _ rfl #[.int .u16 3] ip _ Try.underlying34 hip zp (by rw [sp]; decide) (by rw [sp]; decide) ?c1 ?_)
  case c1 => (simp only [sp, List.map_toArray, List.map_cons, List.map_nil]; exact fill41 3)
  have h1 : Blk (w.alloc (.cells #[.int .u16 3] 41)) w.heap.size #[.int .u16 3] 41 := Blk.alloc_new _ _ _
  have hb : Below w.heap.size w (w.alloc (.cells #[.int .u16 3] 41)) := (Below.refl _ _).alloc (Nat.le_refl _) _
  (try simp only [Act.put, Z1, Z2, Z3, Z4, Z5, Z6])
  generalize w.alloc (.cells #[.int .u16 3] 41) = W at *
  generalize w.heap.size = g1 at h1 ⊢
  refine wpl_val (.agg (pcA (P.awA, .slice none 0 0, .slice (some ⟨g1, 0, none⟩) 1 1))) rfl (run_buildE rfl (by go_simp; exact b36 1 true _ 1 1)) ?_
  (try simp only [Act.put, Z1, Z2, Z3, Z4, Z5, Z6])
  refine wpl_law rfl (wp_buildSlice 34 41 1 _ rfl #[.int .u16 3] ip _ Try.underlying34 hip zp (by rw [sp]; decide) (by rw [sp]; decide) ?c1 ?_)
  case c1 => (simp only [sp, List.map_toArray, List.map_cons, List.map_nil]; exact fill41 3)
  have h2 : Blk (W.alloc (.cells #[.int .u16 3] 41)) W.heap.size #[.int .u16 3] 41 := Blk.alloc_new _ _ _
  replace h1 := h1.alloc (.cells #[.int .u16 3] 41)
  replace hb : Below w.heap.size w (W.alloc (.cells #[.int .u16 3] 41)) := hb.alloc hb.size _
  (try simp only [Act.put, Z1, Z2, Z3, Z4, Z5, Z6])
  generalize W.alloc (.cells #[.int .u16 3] 41) = V at *
  generalize W.heap.size = g2 at *
  clear W
  refine wpl_val (.agg (pcA (P.awB, .slice none 0 0, .slice (some ⟨g2, 0, none⟩) 1 1))) rfl (run_buildE rfl (by go_simp; exact b36 2 true _ 1 1)) ?_
  (try simp only [Act.put, Z1, Z2, Z3, Z4, Z5, Z6])
  have s1 := aw_sub (s := 0) (c := 1) (w32 (by omega)) (w32 (by omega)) (w16 (by omega)) h1
  have s2 := aw_sub (s := 0) (c := 2) (w32 (by omega)) (w32 (by omega)) (w16 (by omega)) h2
  have e1 : ((⟨0, 1, true, [], [3]⟩ : P.Pst), Value.slice none 0 0, Value.slice (some ⟨g1, 0, none⟩) 1 1) = (P.awA, .slice none 0 0, .slice (some ⟨g1, 0, none⟩) 1 1) := rfl
  have e2 : ((⟨0, 2, true, [], [3]⟩ : P.Pst), Value.slice none 0 0, Value.slice (some ⟨g2, 0, none⟩) 1 1) = (P.awB, .slice none 0 0, .slice (some ⟨g2, 0, none⟩) 1 1) := rfl
  rw [e1] at s1
  rw [e2] at s2
  clear e1 e2 h1 h2
  have hx1 : ((P.awA, .slice none 0 0, .slice (some ⟨g1, 0, none⟩) 1 1) : Rec).1 = P.awA := rfl
  have hx2 : ((P.awB, .slice none 0 0, .slice (some ⟨g2, 0, none⟩) 1 1) : Rec).1 = P.awB := rfl
  generalize ((P.awA, .slice none 0 0, .slice (some ⟨g1, 0, none⟩) 1 1) : Rec) = x at *
  generalize ((P.awB, .slice none 0 0, .slice (some ⟨g2, 0, none⟩) 1 1) : Rec) = y at *
  replace hx1 := Lib.hid hx1
  replace hx2 := Lib.hid hx2
  refine wpl_law rfl (wp_buildSlice 22 36 2 _ rfl (pcL x ++ pcL y).toArray ie _ Try.underlying22 hie ze (by rw [se]; decide) (by rw [se]; decide) ?c1 ?_)
  case c1 => (simp only [se, List.map_toArray, List.map_cons, List.map_nil]; exact fill22 x y)
  have h3 : Blk (V.alloc (.cells (pcL x ++ pcL y).toArray 36)) V.heap.size (pcL x ++ pcL y).toArray 36 := Blk.alloc_new _ _ _
  have al := (Below.refl V.heap.size V).alloc (Nat.le_refl _) (.cells (pcL x ++ pcL y).toArray 36)
  replace s1 := s1.below al
  replace s2 := s2.below al
  replace hb : Below w.heap.size w (V.alloc (.cells (pcL x ++ pcL y).toArray 36)) := hb.alloc hb.size _
  (try simp only [Act.put, Z1, Z2, Z3, Z4, Z5, Z6])
  clear al
  generalize V.alloc (.cells (pcL x ++ pcL y).toArray 36) = U at *
  generalize V.heap.size = g3 at *
  clear V
  have hH : HAt U (some ⟨g3, 0, none⟩) [x, y] := ⟨blk_row (by simpa using h3), fun z hz => by
    rcases List.mem_cons.1 hz with rfl | hz
    · exact s1
    · obtain rfl : z = y := by simpa using hz
      exact s2⟩
  have hce := check_any (cap := 2) hH (Nat.le_refl _) (by simp)
  have hP : P.chk (his [x, y]) = (4, 0) := by
    show P.chk [x.1, y.1] = _
    rw [hx1.out, hx2.out]; exact P.aw_chk
  rw [hP] at hce
  clear hP hH s1 s2 h3 hx1 hx2
  refine wpl_call _ _ rfl (by go_simp) _ hce ?_
  rintro e w2 ⟨rfl, hb2⟩
  refine ⟨_, rfl, ?_⟩
  have hbe := hb.trans (hb2.mono hb.size)
  clear hce hb hb2
  (try simp only [Act.put, Z1, Z2, Z3, Z4, Z5, Z6])
  iterate 5
    refine no_implicit_lambda% (wpl_val ?_ rfl ?_ ?_)
    rotate_left
    · (go_simp; (try with_reducible rfl))
    (try simp only [Act.put, Z1, Z2, Z3, Z4, Z5, Z6])
  refine no_implicit_lambda% (wpList_nil ?_)
  go_wp2_with fail
  go_ret
  exact ⟨rfl, hbe⟩
end Go.Proofs.Ytnemaolbmocncaa
