/- The walks of the document's machine: its log is read. -/
import Derived.Test.YtjaecdcddmohoaaRefP2
import Derived.Test.YtjaecdcddmohoaaLoW
namespace Go.Proofs.Ytjaecdcddmohoaa
open Go.RowKit
set_option linter.unusedSimpArgs false
set_option linter.unusedVariables false
def rpL (r : P.Rp) : List Value := .int .i64 r.e :: .int .u64 r.txn :: .int .u32 r.ts :: rowL 64 r.b
def deL (d : P.De) : List Value := .int .u8 d.1.kind :: .int .u64 d.1.txn :: .int .u16 d.1.page :: .int .i64 d.1.off :: .string d.1.s :: rpL d.2
def deA (d : P.De) : Array Value := (deL d).toArray
theorem deL_length (d : P.De) : (deL d).length = 72 := by simp [deL, rpL, rowL_length]
theorem deA_size (d : P.De) : (deA d).size = 72 := by simp [deA, deL_length]
theorem deL_one (d : P.De) : ∀ u ∈ deL d, u.oneCell' = true := by
  intro u hu
  simp only [deL, rpL, List.mem_cons] at hu
  rcases hu with rfl | rfl | rfl | rfl | rfl | rfl | rfl | rfl | hu
  all_goals first | rfl | exact rowL_one _ _ u hu
theorem deA_one (d : P.De) : (deA d).all (·.oneCell') = true := Array.all_eq_true_iff_forall_mem.2 fun u hu => deL_one d u (by simpa [deA] using hu)
def noDe : P.De := (⟨0, 0, 0, 0, P.es⟩, ⟨0, 0, 0, P.zb⟩)
theorem zero64' : (Try.prog.info? 64).map (fun i => (i.zero, i.size)) = some (some (.agg (deA noDe)), 72) := by kernel_rfl
theorem zero64 : (∀ w, (zeroValue 64).run Try.prog w = .ok (.agg (deA noDe)) w) ∧ (Try.prog.info? 64).map (·.size) = some 72 := zero_of_info zero64'
theorem size64 (d : P.De) : (Try.prog.info? 64).map (·.size) = some (deA d).size := by rw [deA_size]; exact zero64.2
theorem size64' (d : P.De) : (Try.prog.info? 64).map (·.size) = some (deL d).length := by rw [deL_length]; exact zero64.2
def flatD (l : List P.De) : List Value := l.flatMap deL
theorem flatD_length (l : List P.De) : (flatD l).length = l.length * 72 := by
  induction l with
  | nil => rfl
  | cons v l ih => show (deL v ++ flatD l).length = _; rw [List.length_append, ih, deL_length]; simp; omega
theorem flatD_append (l l' : List P.De) : flatD (l ++ l') = flatD l ++ flatD l' := List.flatMap_append
theorem flatD_get {l : List P.De} {i : Nat} {v : P.De} (h : l[i]? = some v) {j : Nat} (hj : j < 72) : (flatD l)[i * 72 + j]? = (deL v)[j]? := by
  induction l generalizing i with
  | nil => cases h
  | cons x l ih =>
    show (deL x ++ flatD l)[i * 72 + j]? = _
    cases i with
    | zero =>
      obtain rfl : x = v := by simpa using h
      rw [List.getElem?_append_left (by rw [deL_length]; omega)]
      congr 1; omega
    | succ i =>
      rw [List.getElem?_append_right (by rw [deL_length]; omega), deL_length, show (i + 1) * 72 + j - 72 = i * 72 + j by omega]
      exact ih (by simpa using h)
/-- A log that may be read. -/
structure LogAt (w : World) (ao : Option Addr) (log : List P.De) : Prop where
  at_ : ∀ i x, log[i]? = some x → ∃ g, ao = some ⟨g, 0, none⟩ ∧ g < w.heap.size ∧ w.rangeAt g (i * 72) (deL x)
theorem LogAt.below {w w' : World} {ao : Option Addr} {log : List P.De} (h : LogAt w ao log) (hb : Below w.heap.size w w') : LogAt w' ao log :=
  ⟨fun i x hx => by
    obtain ⟨g, e, hl, hr⟩ := h.at_ i x hx
    exact ⟨g, e, Nat.lt_of_lt_of_le hl hb.size, fun j v hv => by rw [hb.cell (p := ⟨g, i * 72 + j, none⟩) hl]; exact hr j v hv⟩⟩
theorem LogAt.of_own {w : World} {base : Nat} {v : Value} {log : List P.De} (h : w.ownsRow base 64 72 v log.length (flatD log)) : ∃ ao cap, v = .slice ao log.length cap ∧ LogAt w ao log := by
  rcases own_cases_n h with ⟨rfl, h0, _⟩ | ⟨g, cap, rfl, _, _, _, hlt, hc, _⟩
  · refine ⟨none, 0, by rw [h0], ⟨fun i x hx => ?_⟩⟩
    have := (List.getElem?_eq_some_iff.1 hx).1
    omega
  · refine ⟨some ⟨g, 0, none⟩, cap, rfl, ⟨fun i x hx => ⟨g, rfl, hlt, fun j v hv => ?_⟩⟩⟩
    have hi := (List.getElem?_eq_some_iff.1 hx).1
    have hj : j < 72 := by have := (List.getElem?_eq_some_iff.1 hv).1; rw [deL_length] at this; exact this
    rw [hc _ (by omega), flatD_get hx hj]
    exact hv
/-- The document's machine at c. -/
structure RefAt (w : World) (c : Nat) (pages : Int) (mx : Nat) (ao : Option Addr) (cap : Nat) (log : List P.De) : Prop where
  c : Blk w c #[.int .i64 pages, .int .u32 mx, .slice ao log.length cap] 30
  l : LogAt w ao log
theorem RefAt.below {w w' : World} {c : Nat} {pages : Int} {mx : Nat} {ao : Option Addr} {cap : Nat} {log : List P.De} (h : RefAt w c pages mx ao cap log) (hb : Below w.heap.size w w') : RefAt w' c pages mx ao cap log := ⟨h.c.below hb, h.l.below hb⟩
theorem RefAt.c0 {w : World} {c : Nat} {pages : Int} {mx : Nat} {ao : Option Addr} {cap : Nat} {log : List P.De} (h : RefAt w c pages mx ao cap log) : w.cell? ⟨c, 0, none⟩ = some (.int .i64 pages) := by rw [h.c.cell]; rfl
theorem RefAt.c1 {w : World} {c : Nat} {pages : Int} {mx : Nat} {ao : Option Addr} {cap : Nat} {log : List P.De} (h : RefAt w c pages mx ao cap log) : w.cell? ⟨c, 1, none⟩ = some (.int .u32 mx) := by rw [h.c.cell]; rfl
theorem RefAt.c2 {w : World} {c : Nat} {pages : Int} {mx : Nat} {ao : Option Addr} {cap : Nat} {log : List P.De} (h : RefAt w c pages mx ao cap log) : w.cell? ⟨c, 2, none⟩ = some (.slice ao log.length cap) := by rw [h.c.cell]; rfl
/-- An entry's box. -/
theorem de_box {w : World} (x : P.De) : Blk ((w.alloc (.cells (deA noDe) 64)).setRow w.heap.size (deA x)) w.heap.size (deA x) 64 ∧ Below w.heap.size w ((w.alloc (.cells (deA noDe) 64)).setRow w.heap.size (deA x)) :=
  ⟨(Blk.alloc_new _ _ _).setRow _, Fr.below ((Below.refl _ _).alloc (Nat.le_refl _) _) ((Fr.refl (fun b => b = w.heap.size) _).setRow _ _ fun _ => rfl) (Nat.le_refl _) fun i e => by omega⟩
section
variable {V : World} {bx : Nat} {x : P.De} (h : Blk V bx (deA x) 64)
include h
theorem d_kind : V.cell? ⟨bx, 0, none⟩ = some (.int .u8 x.1.kind) := by rw [h.cell]; rfl
theorem d_txn : V.cell? ⟨bx, 1, none⟩ = some (.int .u64 x.1.txn) := by rw [h.cell]; rfl
theorem d_page : V.cell? ⟨bx, 2, none⟩ = some (.int .u16 x.1.page) := by rw [h.cell]; rfl
theorem d_off : V.cell? ⟨bx, 3, none⟩ = some (.int .i64 x.1.off) := by rw [h.cell]; rfl
theorem d_s : V.cell? ⟨bx, 4, none⟩ = some (.string x.1.s) := by rw [h.cell]; rfl
theorem d_e : V.cell? ⟨bx, 5, none⟩ = some (.int .i64 x.2.e) := by rw [h.cell]; rfl
theorem d_rtxn : V.cell? ⟨bx, 6, none⟩ = some (.int .u64 x.2.txn) := by rw [h.cell]; rfl
theorem d_ts : V.cell? ⟨bx, 7, none⟩ = some (.int .u32 x.2.ts) := by rw [h.cell]; rfl
end
theorem take_snoc {α : Type} {l : List α} {k : Nat} {x : α} (h : l[k]? = some x) : l.take (k + 1) = l.take k ++ [x] := by rw [List.take_add_one, h]; rfl
/-! ### Last -/
set_option maxRecDepth 100000 in
set_option maxHeartbeats 4000000 in
theorem reflast_any {w : World} {c : Nat} {pages : Int} {mx : Nat} {ao : Option Addr} {cap : Nat} {log : List P.De} (h : RefAt w c pages mx ao cap log) (hn : log.length ≤ 1000) :
    Calls Try.prog 15 #[.pointer (some ⟨c, 0, none⟩)] w fun e w' => e = .returned (.int .u32 (P.lastF log)) ∧ Below w.heap.size w w' := by
  have hz64 := zero64.1
  have c2 := h.c2
  have hL := Lib.hid h.l
  have h0 : Hid (Below w.heap.size w w) := Below.refl _ _
  go_enter Try.func15, Try.ntmps15
  go_upto_region 2 with (fail)
  refine no_implicit_lambda% (wp_region_lit ?_)
  iterate 3
    refine no_implicit_lambda% (wpl_val ?_ rfl ?_ ?_)
    rotate_left
    · (go_simp; (try with_reducible rfl))
    (try simp only [Act.put, Z1, Z2, Z3, Z4, Z5, Z6])
  refine no_implicit_lambda% (wpl_val ?_ rfl ?_ ?_)
  rotate_left
  · (have c0 := c2; go_simp; (try with_reducible rfl))
  (try simp only [Act.put, Z1, Z2, Z3, Z4, Z5, Z6])
  refine no_implicit_lambda% (wpl_val ?_ rfl ?_ ?_)
  rotate_left
  · (go_simp; (try with_reducible rfl))
  (try simp only [Act.put, Z1, Z2, Z3, Z4, Z5, Z6])
  refine no_implicit_lambda% (wpl_val ?_ rfl ?_ ?_)
  rotate_left
  · (go_simp; (try with_reducible rfl))
  (try simp only [Act.put, Z1, Z2, Z3, Z4, Z5, Z6])
  refine no_implicit_lambda% (wpList_nil ?_)
  clear c2
  go_wp2_with fail
  go_loopw [11, 3] (fun i t wr => ∃ k : Nat, i = .int .i64 k ∧ k ≤ log.length ∧ t = .int .u32 (P.lastF (log.take k)) ∧ Below w.heap.size w wr) (fun i _ _ => log.length - (intOf i).toNat)
  case atStart => exact ⟨0, rfl, Nat.zero_le _, rfl, h0.out⟩
  case round =>
    obtain ⟨k, rfl, hk, rfl, hS⟩ := hrel
    by_cases hlt : k < log.length
    · obtain ⟨x, hx⟩ : ∃ x, log[k]? = some x := ⟨_, List.getElem?_eq_getElem hlt⟩
      obtain ⟨g, rfl, _, hr⟩ := (hL.out.below hS).at_ k x hx
      replace hr := Lib.hid hr
      have hlt' : (k : Int) < (log.length : Int) := by omega
      have HT : Hid (P.lastF (log.take (k + 1)) = P.lastS (P.lastF (log.take k)) x) := by unfold Hid; rw [take_snoc hx]; exact P.lastF_snoc _ _
      generalize P.lastF (log.take k) = ts at *
      clear hx
      go_upto_region 4 with (fail)
      refine no_implicit_lambda% (wp_region_lit ?_)
      refine no_implicit_lambda% (wpl_val ?_ rfl ?_ ?_)
      rotate_left
      · (go_simp; (try with_reducible rfl))
      (try simp only [Act.put, Z1, Z2, Z4, Z5, Z6])
      refine wpList_load_mid rfl 64 _ rfl g (k * 72) rfl (deL x) _ hr.out Try.underlying64 rfl (size64' x) ?_
      (try simp only [Act.put, Z1, Z2, Z3, Z4, Z5, Z6])
      refine wpl_alloc 64 (deA noDe) rfl rfl hz64 ?_
      (try simp only [Act.put, Z1, Z2, Z3, Z4, Z5, Z6])
      refine wpl_law rfl (wp_store_row 64 _ _ rfl wr.heap.size (deA x) rfl rfl 64 _ (Blk.alloc_new _ _ _) (size64 _) (by simp only [deA_size]) (deA_one _) ?_)
      (try simp only [Act.put, Z1, Z2, Z3, Z4, Z5, Z6])
      refine no_implicit_lambda% (wpList_nil ?_)
      obtain ⟨hB, hb⟩ := de_box (w := wr) x
      replace hb := hS.trans (hb.mono hS.size)
      generalize (wr.alloc (.cells (deA noDe) 64)).setRow wr.heap.size (deA x) = V at *
      generalize wr.heap.size = bx at *
      have dk := Lib.hid (d_kind hB)
      have de := Lib.hid (d_e hB)
      have dt := Lib.hid (d_ts hB)
      clear hr hL hB hS
      by_cases h3 : x.1.kind = 3
      · have h3' : (x.1.kind == 3) = true := by simp [h3]
        by_cases he : x.2.e = 0
        · have he' : (x.2.e == 0) = true := by simp [he]
          have HM : Hid (P.lastS ts x = max ts x.2.ts) := by unfold Hid P.lastS; rw [if_pos ⟨h3, he⟩]
          clear h3 he
          go_upto_region 5 with (fail)
          refine no_implicit_lambda% (wp_region_lit ?_)
          iterate 2
            refine no_implicit_lambda% (wpl_val ?_ rfl ?_ ?_)
            rotate_left
            · (go_simp; (try with_reducible rfl))
            (try simp only [Act.put, Z1, Z2, Z3, Z4, Z5, Z6])
          refine no_implicit_lambda% (wpl_val ?_ rfl ?_ ?_)
          rotate_left
          · (have c0 := dk.out; go_simp; (try with_reducible rfl))
          (try simp only [Act.put, Z1, Z2, Z3, Z4, Z5, Z6])
          iterate 4
            refine no_implicit_lambda% (wpl_val ?_ rfl ?_ ?_)
            rotate_left
            · (go_simp; (try with_reducible rfl))
            (try simp only [Act.put, Z1, Z2, Z3, Z4, Z5, Z6])
          refine no_implicit_lambda% (wpl_val ?_ rfl ?_ ?_)
          rotate_left
          · (have c0 := de.out; go_simp; (try with_reducible rfl))
          (try simp only [Act.put, Z1, Z2, Z3, Z4, Z5, Z6])
          iterate 2
            refine no_implicit_lambda% (wpl_val ?_ rfl ?_ ?_)
            rotate_left
            · (go_simp; (try with_reducible rfl))
            (try simp only [Act.put, Z1, Z2, Z3, Z4, Z5, Z6])
          refine no_implicit_lambda% (wpList_nil ?_)
          go_upto_region 6 with (fail)
          refine no_implicit_lambda% (wp_region_lit ?_)
          iterate 3
            refine no_implicit_lambda% (wpl_val ?_ rfl ?_ ?_)
            rotate_left
            · (go_simp; (try with_reducible rfl))
            (try simp only [Act.put, Z1, Z2, Z3, Z4, Z5, Z6])
          refine no_implicit_lambda% (wpl_val ?_ rfl ?_ ?_)
          rotate_left
          · (have c0 := dt.out; go_simp; (try with_reducible rfl))
          (try simp only [Act.put, Z1, Z2, Z3, Z4, Z5, Z6])
          refine wpl_val (.int .u32 ((max ts x.2.ts : Nat) : Int)) rfl (by go_simp; split <;> omega) ?_
          (try simp only [Act.put, Z1, Z2, Z3, Z4, Z5, Z6])
          refine no_implicit_lambda% (wpl_val ?_ rfl ?_ ?_)
          rotate_left
          · (go_simp; (try with_reducible rfl))
          (try simp only [Act.put, Z1, Z2, Z3, Z4, Z5, Z6])
          refine no_implicit_lambda% (wpList_nil ?_)
          go_wp2_with fail
          go_roundw
          case rel => exact ⟨k + 1, by go_num, by omega, by rw [HT.out, HM.out], hb⟩
          case measure => simp [intOf]; omega
        · have he' : (x.2.e == 0) = false := by simp [he]
          have HM : Hid (P.lastS ts x = ts) := by unfold Hid P.lastS; rw [if_neg (fun e => he e.2)]
          clear h3 he
          go_upto_region 5 with (fail)
          refine no_implicit_lambda% (wp_region_lit ?_)
          iterate 2
            refine no_implicit_lambda% (wpl_val ?_ rfl ?_ ?_)
            rotate_left
            · (go_simp; (try with_reducible rfl))
            (try simp only [Act.put, Z1, Z2, Z3, Z4, Z5, Z6])
          refine no_implicit_lambda% (wpl_val ?_ rfl ?_ ?_)
          rotate_left
          · (have c0 := dk.out; go_simp; (try with_reducible rfl))
          (try simp only [Act.put, Z1, Z2, Z3, Z4, Z5, Z6])
          iterate 4
            refine no_implicit_lambda% (wpl_val ?_ rfl ?_ ?_)
            rotate_left
            · (go_simp; (try with_reducible rfl))
            (try simp only [Act.put, Z1, Z2, Z3, Z4, Z5, Z6])
          refine no_implicit_lambda% (wpl_val ?_ rfl ?_ ?_)
          rotate_left
          · (have c0 := de.out; go_simp; (try with_reducible rfl))
          (try simp only [Act.put, Z1, Z2, Z3, Z4, Z5, Z6])
          iterate 2
            refine no_implicit_lambda% (wpl_val ?_ rfl ?_ ?_)
            rotate_left
            · (go_simp; (try with_reducible rfl))
            (try simp only [Act.put, Z1, Z2, Z3, Z4, Z5, Z6])
          refine no_implicit_lambda% (wpList_nil ?_)
          go_wp2_with fail
          go_roundw
          case rel => exact ⟨k + 1, by go_num, by omega, by rw [HT.out, HM.out], hb⟩
          case measure => simp [intOf]; omega
      · have h3' : (x.1.kind == 3) = false := by simp [h3]
        have HM : Hid (P.lastS ts x = ts) := by unfold Hid P.lastS; rw [if_neg (fun e => h3 e.1)]
        clear h3
        go_upto_region 5 with (fail)
        refine no_implicit_lambda% (wp_region_lit ?_)
        iterate 2
          refine no_implicit_lambda% (wpl_val ?_ rfl ?_ ?_)
          rotate_left
          · (go_simp; (try with_reducible rfl))
          (try simp only [Act.put, Z1, Z2, Z3, Z4, Z5, Z6])
        refine no_implicit_lambda% (wpl_val ?_ rfl ?_ ?_)
        rotate_left
        · (have c0 := dk.out; go_simp; (try with_reducible rfl))
        (try simp only [Act.put, Z1, Z2, Z3, Z4, Z5, Z6])
        iterate 2
          refine no_implicit_lambda% (wpl_val ?_ rfl ?_ ?_)
          rotate_left
          · (go_simp; (try with_reducible rfl))
          (try simp only [Act.put, Z1, Z2, Z3, Z4, Z5, Z6])
        iterate 4
          refine no_implicit_lambda% (wpl_skip rfl ?_)
          (try simp only [Act.put, Z1, Z2, Z3, Z4, Z5, Z6])
        refine no_implicit_lambda% (wpl_val ?_ rfl ?_ ?_)
        rotate_left
        · (go_simp; (try with_reducible rfl))
        (try simp only [Act.put, Z1, Z2, Z3, Z4, Z5, Z6])
        refine no_implicit_lambda% (wpList_nil ?_)
        go_wp2_with fail
        go_roundw
        case rel => exact ⟨k + 1, by go_num, by omega, by rw [HT.out, HM.out], hb⟩
        case measure => simp [intOf]; omega
    · obtain rfl : k = log.length := by omega
      have HE : Hid (P.lastF (log.take log.length) = P.lastF log) := by unfold Hid; rw [List.take_length]
      go_wp2_with fail
      go_ret
      exact ⟨by rw [← HE.out]; rfl, hS⟩
/-! ### begin -/
set_option maxRecDepth 100000 in
set_option maxHeartbeats 4000000 in
theorem refbeg_any {w : World} {c : Nat} {pages : Int} {mx : Nat} {ao : Option Addr} {cap : Nat} {log : List P.De} (h : RefAt w c pages mx ao cap log) (hn : log.length ≤ 1000) (n : Int) :
    Calls Try.prog 21 #[.pointer (some ⟨c, 0, none⟩), .int .u64 n] w fun e w' => e = .returned (.int .u32 (P.bgn log n)) ∧ Below w.heap.size w w' := by
  have hz64 := zero64.1
  have c2 := h.c2
  have hL := Lib.hid h.l
  have h0 : Hid (Below w.heap.size w w) := Below.refl _ _
  go_enter Try.func21, Try.ntmps21
  go_upto_region 1 with (fail)
  refine no_implicit_lambda% (wp_region_lit ?_)
  iterate 3
    refine no_implicit_lambda% (wpl_val ?_ rfl ?_ ?_)
    rotate_left
    · (go_simp; (try with_reducible rfl))
    (try simp only [Act.put, Z1, Z2, Z3, Z4, Z5, Z6])
  refine no_implicit_lambda% (wpl_val ?_ rfl ?_ ?_)
  rotate_left
  · (have c0 := c2; go_simp; (try with_reducible rfl))
  (try simp only [Act.put, Z1, Z2, Z3, Z4, Z5, Z6])
  refine no_implicit_lambda% (wpl_val ?_ rfl ?_ ?_)
  rotate_left
  · (go_simp; (try with_reducible rfl))
  (try simp only [Act.put, Z1, Z2, Z3, Z4, Z5, Z6])
  refine no_implicit_lambda% (wpl_val ?_ rfl ?_ ?_)
  rotate_left
  · (go_simp; (try with_reducible rfl))
  (try simp only [Act.put, Z1, Z2, Z3, Z4, Z5, Z6])
  refine no_implicit_lambda% (wpList_nil ?_)
  clear c2
  go_wp2_with fail
  go_loopw [12] (fun i wr => ∃ k : Nat, i = .int .i64 k ∧ k ≤ log.length ∧ Hid ((log.take k).find? (P.isBeg n) = none) ∧ Below w.heap.size w wr) (fun i _ => log.length - (intOf i).toNat)
  case atStart => exact ⟨0, rfl, Nat.zero_le _, rfl, h0.out⟩
  case round =>
    obtain ⟨k, rfl, hk, hno, hS⟩ := hrel
    by_cases hlt : k < log.length
    · obtain ⟨x, hx⟩ : ∃ x, log[k]? = some x := ⟨_, List.getElem?_eq_getElem hlt⟩
      obtain ⟨g, rfl, _, hr⟩ := (hL.out.below hS).at_ k x hx
      replace hr := Lib.hid hr
      have hlt' : (k : Int) < (log.length : Int) := by omega
      have HT : Hid ((log.take (k + 1)).find? (P.isBeg n) = if P.isBeg n x = true then some x else none) := by
        unfold Hid
        rw [take_snoc hx, List.find?_append, hno.out]
        simp only [Option.none_or, List.find?_cons, List.find?_nil]
        cases P.isBeg n x <;> rfl
      have HY : Hid (P.isBeg n x = true → P.bgn log n = x.2.ts) := fun hb => by
        unfold P.bgn
        have hd : log.find? (P.isBeg n) = some x := by
          have e := List.take_append_drop (k + 1) log
          rw [← e, List.find?_append, HT.out, if_pos hb]
          rfl
        rw [hd]
      clear hx hno
      go_upto_region 3 with (fail)
      refine no_implicit_lambda% (wp_region_lit ?_)
      refine no_implicit_lambda% (wpl_val ?_ rfl ?_ ?_)
      rotate_left
      · (go_simp; (try with_reducible rfl))
      (try simp only [Act.put, Z1, Z2, Z4, Z5, Z6])
      refine wpList_load_mid rfl 64 _ rfl g (k * 72) rfl (deL x) _ hr.out Try.underlying64 rfl (size64' x) ?_
      (try simp only [Act.put, Z1, Z2, Z3, Z4, Z5, Z6])
      refine wpl_alloc 64 (deA noDe) rfl rfl hz64 ?_
      (try simp only [Act.put, Z1, Z2, Z3, Z4, Z5, Z6])
      refine wpl_law rfl (wp_store_row 64 _ _ rfl wr.heap.size (deA x) rfl rfl 64 _ (Blk.alloc_new _ _ _) (size64 _) (by simp only [deA_size]) (deA_one _) ?_)
      (try simp only [Act.put, Z1, Z2, Z3, Z4, Z5, Z6])
      refine no_implicit_lambda% (wpList_nil ?_)
      obtain ⟨hB, hb⟩ := de_box (w := wr) x
      replace hb := hS.trans (hb.mono hS.size)
      generalize (wr.alloc (.cells (deA noDe) 64)).setRow wr.heap.size (deA x) = V at *
      generalize wr.heap.size = bx at *
      have dk := Lib.hid (d_kind hB)
      have de := Lib.hid (d_e hB)
      have dn := Lib.hid (d_rtxn hB)
      have dt := Lib.hid (d_ts hB)
      clear hr hL hB hS
      by_cases h3 : x.1.kind = 0
      · have h3' : (x.1.kind == 0) = true := by simp [h3]
        by_cases he : x.2.e = 0
        · have he' : (x.2.e == 0) = true := by simp [he]
          by_cases ht : x.2.txn = n
          · have ht' : (x.2.txn == n) = true := by simp [ht]
            have HB := Lib.hid (HY.out (decide_eq_true ⟨h3, he, ht⟩))
            clear h3 he ht HY
            go_upto_region 4 with (fail)
            refine no_implicit_lambda% (wp_region_lit ?_)
            iterate 2
              refine no_implicit_lambda% (wpl_val ?_ rfl ?_ ?_)
              rotate_left
              · (go_simp; (try with_reducible rfl))
              (try simp only [Act.put, Z1, Z2, Z3, Z4, Z5, Z6])
            refine no_implicit_lambda% (wpl_val ?_ rfl ?_ ?_)
            rotate_left
            · (have c0 := dk.out; go_simp; (try with_reducible rfl))
            (try simp only [Act.put, Z1, Z2, Z3, Z4, Z5, Z6])
            iterate 4
              refine no_implicit_lambda% (wpl_val ?_ rfl ?_ ?_)
              rotate_left
              · (go_simp; (try with_reducible rfl))
              (try simp only [Act.put, Z1, Z2, Z3, Z4, Z5, Z6])
            refine no_implicit_lambda% (wpl_val ?_ rfl ?_ ?_)
            rotate_left
            · (have c0 := de.out; go_simp; (try with_reducible rfl))
            (try simp only [Act.put, Z1, Z2, Z3, Z4, Z5, Z6])
            iterate 5
              refine no_implicit_lambda% (wpl_val ?_ rfl ?_ ?_)
              rotate_left
              · (go_simp; (try with_reducible rfl))
              (try simp only [Act.put, Z1, Z2, Z3, Z4, Z5, Z6])
            refine no_implicit_lambda% (wpl_val ?_ rfl ?_ ?_)
            rotate_left
            · (have c0 := dn.out; go_simp; (try with_reducible rfl))
            (try simp only [Act.put, Z1, Z2, Z3, Z4, Z5, Z6])
            iterate 3
              refine no_implicit_lambda% (wpl_val ?_ rfl ?_ ?_)
              rotate_left
              · (go_simp; (try with_reducible rfl))
              (try simp only [Act.put, Z1, Z2, Z3, Z4, Z5, Z6])
            refine no_implicit_lambda% (wpList_nil ?_)
            go_upto_region 5 with (fail)
            refine no_implicit_lambda% (wp_region_lit ?_)
            iterate 2
              refine no_implicit_lambda% (wpl_val ?_ rfl ?_ ?_)
              rotate_left
              · (go_simp; (try with_reducible rfl))
              (try simp only [Act.put, Z1, Z2, Z3, Z4, Z5, Z6])
            refine no_implicit_lambda% (wpl_val ?_ rfl ?_ ?_)
            rotate_left
            · (have c0 := dt.out; go_simp; (try with_reducible rfl))
            (try simp only [Act.put, Z1, Z2, Z3, Z4, Z5, Z6])
            refine no_implicit_lambda% (wpl_val ?_ rfl ?_ ?_)
            rotate_left
            · (go_simp; (try with_reducible rfl))
            (try simp only [Act.put, Z1, Z2, Z3, Z4, Z5, Z6])
            refine no_implicit_lambda% (wpList_nil ?_)
            go_wp2_with fail
            go_ret
            exact ⟨by rw [HB.out]; rfl, hb⟩
          · have ht' : (x.2.txn == n) = false := by simp [ht]
            have HM := HT.out
            rw [if_neg (fun e => ht (of_decide_eq_true e).2.2)] at HM
            replace HM := Lib.hid HM
            clear h3 he ht HY
            go_upto_region 4 with (fail)
            refine no_implicit_lambda% (wp_region_lit ?_)
            iterate 2
              refine no_implicit_lambda% (wpl_val ?_ rfl ?_ ?_)
              rotate_left
              · (go_simp; (try with_reducible rfl))
              (try simp only [Act.put, Z1, Z2, Z3, Z4, Z5, Z6])
            refine no_implicit_lambda% (wpl_val ?_ rfl ?_ ?_)
            rotate_left
            · (have c0 := dk.out; go_simp; (try with_reducible rfl))
            (try simp only [Act.put, Z1, Z2, Z3, Z4, Z5, Z6])
            iterate 4
              refine no_implicit_lambda% (wpl_val ?_ rfl ?_ ?_)
              rotate_left
              · (go_simp; (try with_reducible rfl))
              (try simp only [Act.put, Z1, Z2, Z3, Z4, Z5, Z6])
            refine no_implicit_lambda% (wpl_val ?_ rfl ?_ ?_)
            rotate_left
            · (have c0 := de.out; go_simp; (try with_reducible rfl))
            (try simp only [Act.put, Z1, Z2, Z3, Z4, Z5, Z6])
            iterate 5
              refine no_implicit_lambda% (wpl_val ?_ rfl ?_ ?_)
              rotate_left
              · (go_simp; (try with_reducible rfl))
              (try simp only [Act.put, Z1, Z2, Z3, Z4, Z5, Z6])
            refine no_implicit_lambda% (wpl_val ?_ rfl ?_ ?_)
            rotate_left
            · (have c0 := dn.out; go_simp; (try with_reducible rfl))
            (try simp only [Act.put, Z1, Z2, Z3, Z4, Z5, Z6])
            iterate 3
              refine no_implicit_lambda% (wpl_val ?_ rfl ?_ ?_)
              rotate_left
              · (go_simp; (try with_reducible rfl))
              (try simp only [Act.put, Z1, Z2, Z3, Z4, Z5, Z6])
            refine no_implicit_lambda% (wpList_nil ?_)
            go_wp2_with fail
            go_roundw
            case rel => exact ⟨k + 1, by go_num, by omega, HM, hb⟩
            case measure => simp [intOf]; omega
        · have he' : (x.2.e == 0) = false := by simp [he]
          have HM := HT.out
          rw [if_neg (fun e => he (of_decide_eq_true e).2.1)] at HM
          replace HM := Lib.hid HM
          clear h3 he HY
          go_upto_region 4 with (fail)
          refine no_implicit_lambda% (wp_region_lit ?_)
          iterate 2
            refine no_implicit_lambda% (wpl_val ?_ rfl ?_ ?_)
            rotate_left
            · (go_simp; (try with_reducible rfl))
            (try simp only [Act.put, Z1, Z2, Z3, Z4, Z5, Z6])
          refine no_implicit_lambda% (wpl_val ?_ rfl ?_ ?_)
          rotate_left
          · (have c0 := dk.out; go_simp; (try with_reducible rfl))
          (try simp only [Act.put, Z1, Z2, Z3, Z4, Z5, Z6])
          iterate 4
            refine no_implicit_lambda% (wpl_val ?_ rfl ?_ ?_)
            rotate_left
            · (go_simp; (try with_reducible rfl))
            (try simp only [Act.put, Z1, Z2, Z3, Z4, Z5, Z6])
          refine no_implicit_lambda% (wpl_val ?_ rfl ?_ ?_)
          rotate_left
          · (have c0 := de.out; go_simp; (try with_reducible rfl))
          (try simp only [Act.put, Z1, Z2, Z3, Z4, Z5, Z6])
          iterate 3
            refine no_implicit_lambda% (wpl_val ?_ rfl ?_ ?_)
            rotate_left
            · (go_simp; (try with_reducible rfl))
            (try simp only [Act.put, Z1, Z2, Z3, Z4, Z5, Z6])
          iterate 5
            refine no_implicit_lambda% (wpl_skip rfl ?_)
            (try simp only [Act.put, Z1, Z2, Z3, Z4, Z5, Z6])
          refine no_implicit_lambda% (wpl_val ?_ rfl ?_ ?_)
          rotate_left
          · (go_simp; (try with_reducible rfl))
          (try simp only [Act.put, Z1, Z2, Z3, Z4, Z5, Z6])
          refine no_implicit_lambda% (wpList_nil ?_)
          go_wp2_with fail
          go_roundw
          case rel => exact ⟨k + 1, by go_num, by omega, HM, hb⟩
          case measure => simp [intOf]; omega
      · have h3' : (x.1.kind == 0) = false := by simp [h3]
        have HM := HT.out
        rw [if_neg (fun e => h3 (of_decide_eq_true e).1)] at HM
        replace HM := Lib.hid HM
        clear h3 HY
        go_upto_region 4 with (fail)
        refine no_implicit_lambda% (wp_region_lit ?_)
        iterate 2
          refine no_implicit_lambda% (wpl_val ?_ rfl ?_ ?_)
          rotate_left
          · (go_simp; (try with_reducible rfl))
          (try simp only [Act.put, Z1, Z2, Z3, Z4, Z5, Z6])
        refine no_implicit_lambda% (wpl_val ?_ rfl ?_ ?_)
        rotate_left
        · (have c0 := dk.out; go_simp; (try with_reducible rfl))
        (try simp only [Act.put, Z1, Z2, Z3, Z4, Z5, Z6])
        iterate 2
          refine no_implicit_lambda% (wpl_val ?_ rfl ?_ ?_)
          rotate_left
          · (go_simp; (try with_reducible rfl))
          (try simp only [Act.put, Z1, Z2, Z3, Z4, Z5, Z6])
        iterate 4
          refine no_implicit_lambda% (wpl_skip rfl ?_)
          (try simp only [Act.put, Z1, Z2, Z3, Z4, Z5, Z6])
        iterate 2
          refine no_implicit_lambda% (wpl_val ?_ rfl ?_ ?_)
          rotate_left
          · (go_simp; (try with_reducible rfl))
          (try simp only [Act.put, Z1, Z2, Z3, Z4, Z5, Z6])
        iterate 5
          refine no_implicit_lambda% (wpl_skip rfl ?_)
          (try simp only [Act.put, Z1, Z2, Z3, Z4, Z5, Z6])
        refine no_implicit_lambda% (wpl_val ?_ rfl ?_ ?_)
        rotate_left
        · (go_simp; (try with_reducible rfl))
        (try simp only [Act.put, Z1, Z2, Z3, Z4, Z5, Z6])
        refine no_implicit_lambda% (wpList_nil ?_)
        go_wp2_with fail
        go_roundw
        case rel => exact ⟨k + 1, by go_num, by omega, HM, hb⟩
        case measure => simp [intOf]; omega
    · obtain rfl : k = log.length := by omega
      have HE : Hid (P.bgn log n = 0) := by
        have := hno.out
        rw [List.take_length] at this
        unfold Hid P.bgn
        rw [this]
      clear hno
      go_wp2_with fail
      go_ret
      exact ⟨by rw [HE.out]; rfl, hS⟩
/-! ### Begun -/
set_option maxRecDepth 100000 in
set_option maxHeartbeats 8000000 in
theorem refbegun_any {w : World} {c : Nat} {pages : Int} {mx : Nat} {ao : Option Addr} {cap : Nat} {log : List P.De} (h : RefAt w c pages mx ao cap log) (hn : log.length ≤ 1000) (n : Int) (hn0 : 0 ≤ n) :
    Calls Try.prog 25 #[.pointer (some ⟨c, 0, none⟩), .int .u64 n] w fun e w' => e = .returned (.tuple #[.int .u32 (P.begF log n).1, .bool (P.begF log n).2]) ∧ Below w.heap.size w w' := by
  have hz64 := zero64.1
  have c2 := h.c2
  have hL := Lib.hid h.l
  have h0 : Hid (Below w.heap.size w w) := Below.refl _ _
  go_enter Try.func25, Try.ntmps25
  go_upto_region 2 with (fail)
  refine no_implicit_lambda% (wp_region_lit ?_)
  iterate 3
    refine no_implicit_lambda% (wpl_val ?_ rfl ?_ ?_)
    rotate_left
    · (go_simp; (try with_reducible rfl))
    (try simp only [Act.put, Z1, Z2, Z3, Z4, Z5, Z6])
  refine no_implicit_lambda% (wpl_val ?_ rfl ?_ ?_)
  rotate_left
  · (have c0 := c2; go_simp; (try with_reducible rfl))
  (try simp only [Act.put, Z1, Z2, Z3, Z4, Z5, Z6])
  refine no_implicit_lambda% (wpl_val ?_ rfl ?_ ?_)
  rotate_left
  · (go_simp; (try with_reducible rfl))
  (try simp only [Act.put, Z1, Z2, Z3, Z4, Z5, Z6])
  refine no_implicit_lambda% (wpl_val ?_ rfl ?_ ?_)
  rotate_left
  · (go_simp; (try with_reducible rfl))
  (try simp only [Act.put, Z1, Z2, Z3, Z4, Z5, Z6])
  refine no_implicit_lambda% (wpList_nil ?_)
  clear c2
  go_wp2_with fail
  go_loopw [15, 6, 7] (fun i t o wr => ∃ k : Nat, i = .int .i64 k ∧ k ≤ log.length ∧ t = .int .u32 (P.begF (log.take k) n).1 ∧ o = .bool (P.begF (log.take k) n).2 ∧ Below w.heap.size w wr) (fun i _ _ _ => log.length - (intOf i).toNat)
  case atStart => exact ⟨0, rfl, Nat.zero_le _, rfl, rfl, h0.out⟩
  case round =>
    obtain ⟨k, rfl, hk, rfl, rfl, hS⟩ := hrel
    by_cases hlt : k < log.length
    · obtain ⟨x, hx⟩ : ∃ x, log[k]? = some x := ⟨_, List.getElem?_eq_getElem hlt⟩
      obtain ⟨g, rfl, _, hr⟩ := (hL.out.below hS).at_ k x hx
      replace hr := Lib.hid hr
      have hlt' : (k : Int) < (log.length : Int) := by omega
      have HT : Hid (P.begF (log.take (k + 1)) n = P.begS n (P.begF (log.take k) n) x) := by unfold Hid; rw [take_snoc hx]; exact P.begF_snoc _ _ _
      generalize P.begF (log.take k) n = s at *
      clear hx
      go_upto_region 4 with (fail)
      refine no_implicit_lambda% (wp_region_lit ?_)
      refine no_implicit_lambda% (wpl_val ?_ rfl ?_ ?_)
      rotate_left
      · (go_simp; (try with_reducible rfl))
      (try simp only [Act.put, Z1, Z2, Z4, Z5, Z6])
      refine wpList_load_mid rfl 64 _ rfl g (k * 72) rfl (deL x) _ hr.out Try.underlying64 rfl (size64' x) ?_
      (try simp only [Act.put, Z1, Z2, Z3, Z4, Z5, Z6])
      refine wpl_alloc 64 (deA noDe) rfl rfl hz64 ?_
      (try simp only [Act.put, Z1, Z2, Z3, Z4, Z5, Z6])
      refine wpl_law rfl (wp_store_row 64 _ _ rfl wr.heap.size (deA x) rfl rfl 64 _ (Blk.alloc_new _ _ _) (size64 _) (by simp only [deA_size]) (deA_one _) ?_)
      (try simp only [Act.put, Z1, Z2, Z3, Z4, Z5, Z6])
      refine no_implicit_lambda% (wpList_nil ?_)
      obtain ⟨hB, hb⟩ := de_box (w := wr) x
      replace hb := hS.trans (hb.mono hS.size)
      generalize (wr.alloc (.cells (deA noDe) 64)).setRow wr.heap.size (deA x) = V at *
      generalize wr.heap.size = bx at *
      have dk := Lib.hid (d_kind hB)
      have de := Lib.hid (d_e hB)
      have dn := Lib.hid (d_txn hB)
      have dr := Lib.hid (d_rtxn hB)
      have dt := Lib.hid (d_ts hB)
      clear hr hL hB hS
      go_upto_region 5 with (fail)
      go_cut [39] (fun t wx => t = .bool (P.begC1 n x) ∧ wx = V)
      case first =>
        by_cases hk0 : x.1.kind = 0
        · have h0' : (x.1.kind == 0) = true := by simp [hk0]
          by_cases he : x.2.e = 0
          · have he' : (x.2.e == 0) = true := by simp [he]
            by_cases ht : x.2.txn = n
            · have ht' : (x.2.txn == n) = true := by simp [ht]
              have HC : Hid (P.begC1 n x = decide (0 < n)) := by unfold Hid P.begC1; simp [hk0, he, ht]
              clear hk0 he ht
              refine no_implicit_lambda% (wp_region_lit ?_)
              iterate 2
                refine no_implicit_lambda% (wpl_val ?_ rfl ?_ ?_)
                rotate_left
                · (go_simp; (try with_reducible rfl))
                (try simp only [Act.put, Z1, Z2, Z3, Z4, Z5, Z6])
              refine no_implicit_lambda% (wpl_val ?_ rfl ?_ ?_)
              rotate_left
              · (have c0 := dk.out; go_simp; (try with_reducible rfl))
              (try simp only [Act.put, Z1, Z2, Z3, Z4, Z5, Z6])
              iterate 4
                refine no_implicit_lambda% (wpl_val ?_ rfl ?_ ?_)
                rotate_left
                · (go_simp; (try with_reducible rfl))
                (try simp only [Act.put, Z1, Z2, Z3, Z4, Z5, Z6])
              refine no_implicit_lambda% (wpl_val ?_ rfl ?_ ?_)
              rotate_left
              · (have c0 := de.out; go_simp; (try with_reducible rfl))
              (try simp only [Act.put, Z1, Z2, Z3, Z4, Z5, Z6])
              iterate 5
                refine no_implicit_lambda% (wpl_val ?_ rfl ?_ ?_)
                rotate_left
                · (go_simp; (try with_reducible rfl))
                (try simp only [Act.put, Z1, Z2, Z3, Z4, Z5, Z6])
              refine no_implicit_lambda% (wpl_val ?_ rfl ?_ ?_)
              rotate_left
              · (have c0 := dr.out; go_simp; (try with_reducible rfl))
              (try simp only [Act.put, Z1, Z2, Z3, Z4, Z5, Z6])
              iterate 7
                refine no_implicit_lambda% (wpl_val ?_ rfl ?_ ?_)
                rotate_left
                · (go_simp; (try with_reducible rfl))
                (try simp only [Act.put, Z1, Z2, Z3, Z4, Z5, Z6])
              refine no_implicit_lambda% (wpList_nil ?_)
              go_wp2_with fail
              go_meet
              case rel => exact ⟨by rw [HC.out], rfl⟩
            · have ht' : (x.2.txn == n) = false := by simp [ht]
              have HC : Hid (P.begC1 n x = false) := by unfold Hid P.begC1; simp [ht]
              clear hk0 he ht
              refine no_implicit_lambda% (wp_region_lit ?_)
              iterate 2
                refine no_implicit_lambda% (wpl_val ?_ rfl ?_ ?_)
                rotate_left
                · (go_simp; (try with_reducible rfl))
                (try simp only [Act.put, Z1, Z2, Z3, Z4, Z5, Z6])
              refine no_implicit_lambda% (wpl_val ?_ rfl ?_ ?_)
              rotate_left
              · (have c0 := dk.out; go_simp; (try with_reducible rfl))
              (try simp only [Act.put, Z1, Z2, Z3, Z4, Z5, Z6])
              iterate 4
                refine no_implicit_lambda% (wpl_val ?_ rfl ?_ ?_)
                rotate_left
                · (go_simp; (try with_reducible rfl))
                (try simp only [Act.put, Z1, Z2, Z3, Z4, Z5, Z6])
              refine no_implicit_lambda% (wpl_val ?_ rfl ?_ ?_)
              rotate_left
              · (have c0 := de.out; go_simp; (try with_reducible rfl))
              (try simp only [Act.put, Z1, Z2, Z3, Z4, Z5, Z6])
              iterate 5
                refine no_implicit_lambda% (wpl_val ?_ rfl ?_ ?_)
                rotate_left
                · (go_simp; (try with_reducible rfl))
                (try simp only [Act.put, Z1, Z2, Z3, Z4, Z5, Z6])
              refine no_implicit_lambda% (wpl_val ?_ rfl ?_ ?_)
              rotate_left
              · (have c0 := dr.out; go_simp; (try with_reducible rfl))
              (try simp only [Act.put, Z1, Z2, Z3, Z4, Z5, Z6])
              iterate 4
                refine no_implicit_lambda% (wpl_val ?_ rfl ?_ ?_)
                rotate_left
                · (go_simp; (try with_reducible rfl))
                (try simp only [Act.put, Z1, Z2, Z3, Z4, Z5, Z6])
              iterate 2
                refine no_implicit_lambda% (wpl_skip rfl ?_)
                (try simp only [Act.put, Z1, Z2, Z3, Z4, Z5, Z6])
              refine no_implicit_lambda% (wpl_val ?_ rfl ?_ ?_)
              rotate_left
              · (go_simp; (try with_reducible rfl))
              (try simp only [Act.put, Z1, Z2, Z3, Z4, Z5, Z6])
              refine no_implicit_lambda% (wpList_nil ?_)
              go_wp2_with fail
              go_meet
              case rel => exact ⟨by rw [HC.out], rfl⟩
          · have he' : (x.2.e == 0) = false := by simp [he]
            have HC : Hid (P.begC1 n x = false) := by unfold Hid P.begC1; simp [he]
            clear hk0 he
            refine no_implicit_lambda% (wp_region_lit ?_)
            iterate 2
              refine no_implicit_lambda% (wpl_val ?_ rfl ?_ ?_)
              rotate_left
              · (go_simp; (try with_reducible rfl))
              (try simp only [Act.put, Z1, Z2, Z3, Z4, Z5, Z6])
            refine no_implicit_lambda% (wpl_val ?_ rfl ?_ ?_)
            rotate_left
            · (have c0 := dk.out; go_simp; (try with_reducible rfl))
            (try simp only [Act.put, Z1, Z2, Z3, Z4, Z5, Z6])
            iterate 4
              refine no_implicit_lambda% (wpl_val ?_ rfl ?_ ?_)
              rotate_left
              · (go_simp; (try with_reducible rfl))
              (try simp only [Act.put, Z1, Z2, Z3, Z4, Z5, Z6])
            refine no_implicit_lambda% (wpl_val ?_ rfl ?_ ?_)
            rotate_left
            · (have c0 := de.out; go_simp; (try with_reducible rfl))
            (try simp only [Act.put, Z1, Z2, Z3, Z4, Z5, Z6])
            iterate 3
              refine no_implicit_lambda% (wpl_val ?_ rfl ?_ ?_)
              rotate_left
              · (go_simp; (try with_reducible rfl))
              (try simp only [Act.put, Z1, Z2, Z3, Z4, Z5, Z6])
            iterate 5
              refine no_implicit_lambda% (wpl_skip rfl ?_)
              (try simp only [Act.put, Z1, Z2, Z3, Z4, Z5, Z6])
            iterate 2
              refine no_implicit_lambda% (wpl_val ?_ rfl ?_ ?_)
              rotate_left
              · (go_simp; (try with_reducible rfl))
              (try simp only [Act.put, Z1, Z2, Z3, Z4, Z5, Z6])
            iterate 2
              refine no_implicit_lambda% (wpl_skip rfl ?_)
              (try simp only [Act.put, Z1, Z2, Z3, Z4, Z5, Z6])
            refine no_implicit_lambda% (wpl_val ?_ rfl ?_ ?_)
            rotate_left
            · (go_simp; (try with_reducible rfl))
            (try simp only [Act.put, Z1, Z2, Z3, Z4, Z5, Z6])
            refine no_implicit_lambda% (wpList_nil ?_)
            go_wp2_with fail
            go_meet
            case rel => exact ⟨by rw [HC.out], rfl⟩
        · have h0' : (x.1.kind == 0) = false := by simp [hk0]
          have HC : Hid (P.begC1 n x = false) := by unfold Hid P.begC1; simp [hk0]
          clear hk0
          refine no_implicit_lambda% (wp_region_lit ?_)
          iterate 2
            refine no_implicit_lambda% (wpl_val ?_ rfl ?_ ?_)
            rotate_left
            · (go_simp; (try with_reducible rfl))
            (try simp only [Act.put, Z1, Z2, Z3, Z4, Z5, Z6])
          refine no_implicit_lambda% (wpl_val ?_ rfl ?_ ?_)
          rotate_left
          · (have c0 := dk.out; go_simp; (try with_reducible rfl))
          (try simp only [Act.put, Z1, Z2, Z3, Z4, Z5, Z6])
          iterate 2
            refine no_implicit_lambda% (wpl_val ?_ rfl ?_ ?_)
            rotate_left
            · (go_simp; (try with_reducible rfl))
            (try simp only [Act.put, Z1, Z2, Z3, Z4, Z5, Z6])
          iterate 4
            refine no_implicit_lambda% (wpl_skip rfl ?_)
            (try simp only [Act.put, Z1, Z2, Z3, Z4, Z5, Z6])
          iterate 2
            refine no_implicit_lambda% (wpl_val ?_ rfl ?_ ?_)
            rotate_left
            · (go_simp; (try with_reducible rfl))
            (try simp only [Act.put, Z1, Z2, Z3, Z4, Z5, Z6])
          iterate 5
            refine no_implicit_lambda% (wpl_skip rfl ?_)
            (try simp only [Act.put, Z1, Z2, Z3, Z4, Z5, Z6])
          iterate 2
            refine no_implicit_lambda% (wpl_val ?_ rfl ?_ ?_)
            rotate_left
            · (go_simp; (try with_reducible rfl))
            (try simp only [Act.put, Z1, Z2, Z3, Z4, Z5, Z6])
          iterate 2
            refine no_implicit_lambda% (wpl_skip rfl ?_)
            (try simp only [Act.put, Z1, Z2, Z3, Z4, Z5, Z6])
          refine no_implicit_lambda% (wpl_val ?_ rfl ?_ ?_)
          rotate_left
          · (go_simp; (try with_reducible rfl))
          (try simp only [Act.put, Z1, Z2, Z3, Z4, Z5, Z6])
          refine no_implicit_lambda% (wpList_nil ?_)
          go_wp2_with fail
          go_meet
          case rel => exact ⟨by rw [HC.out], rfl⟩
      case rest =>
      obtain ⟨rfl, rfl⟩ := hcut
      obtain ⟨V, rfl⟩ : ∃ V, V = wc := ⟨_, rfl⟩
      go_upto_if 39 with (fail)
      go_cut [6, 7] (fun t o wx => t = .int .u32 (P.begS1 n s x).1 ∧ o = .bool (P.begS1 n s x).2 ∧ wx = V)
      case first =>
        cases hc1 : P.begC1 n x with
        | true =>
          have H1 : Hid (P.begS1 n s x = (x.2.ts, true)) := by unfold Hid; rw [P.begS1_eq, hc1]; rfl
          clear hc1
          go_upto_region 6 with (fail)
          refine no_implicit_lambda% (wp_region_lit ?_)
          iterate 2
            refine no_implicit_lambda% (wpl_val ?_ rfl ?_ ?_)
            rotate_left
            · (go_simp; (try with_reducible rfl))
            (try simp only [Act.put, Z1, Z2, Z3, Z4, Z5, Z6])
          refine no_implicit_lambda% (wpl_val ?_ rfl ?_ ?_)
          rotate_left
          · (have c0 := dt.out; go_simp; (try with_reducible rfl))
          (try simp only [Act.put, Z1, Z2, Z3, Z4, Z5, Z6])
          iterate 2
            refine no_implicit_lambda% (wpl_val ?_ rfl ?_ ?_)
            rotate_left
            · (go_simp; (try with_reducible rfl))
            (try simp only [Act.put, Z1, Z2, Z3, Z4, Z5, Z6])
          refine no_implicit_lambda% (wpList_nil ?_)
          go_wp2_with fail
          go_meet
          case rel => exact ⟨by rw [H1.out], by rw [H1.out], rfl⟩
        | false =>
          have H1 : Hid (P.begS1 n s x = s) := by unfold Hid; rw [P.begS1_eq, hc1]; rfl
          clear hc1
          go_wp2_with fail
          go_meet
          case rel => exact ⟨by rw [H1.out], by rw [H1.out], rfl⟩
      case rest =>
      obtain ⟨rfl, rfl, rfl⟩ := hcut
      obtain ⟨V, rfl⟩ : ∃ V, V = wc := ⟨_, rfl⟩
      go_upto_region 7 with (fail)
      go_cut [65] (fun t wx => t = .bool (P.begC2 n x) ∧ wx = V)
      case first =>
        by_cases h34 : x.1.kind = 3 ∨ x.1.kind = 4
        · by_cases hn2 : x.1.txn = n
          · have hn' : (x.1.txn == n) = true := by simp [hn2]
            have HC : Hid (P.begC2 n x = (x.2.e != 9)) := by unfold Hid P.begC2; simp [h34, hn2, bne]; rfl
            rcases h34 with h3 | h4
            · have h3' : (x.1.kind == 3) = true := by simp [h3]
              clear h3 hn2
              refine no_implicit_lambda% (wp_region_lit ?_)
              iterate 2
                refine no_implicit_lambda% (wpl_val ?_ rfl ?_ ?_)
                rotate_left
                · (go_simp; (try with_reducible rfl))
                (try simp only [Act.put, Z1, Z2, Z3, Z4, Z5, Z6])
              refine no_implicit_lambda% (wpl_val ?_ rfl ?_ ?_)
              rotate_left
              · (have c0 := dk.out; go_simp; (try with_reducible rfl))
              (try simp only [Act.put, Z1, Z2, Z3, Z4, Z5, Z6])
              iterate 2
                refine no_implicit_lambda% (wpl_val ?_ rfl ?_ ?_)
                rotate_left
                · (go_simp; (try with_reducible rfl))
                (try simp only [Act.put, Z1, Z2, Z3, Z4, Z5, Z6])
              iterate 4
                refine no_implicit_lambda% (wpl_skip rfl ?_)
                (try simp only [Act.put, Z1, Z2, Z3, Z4, Z5, Z6])
              iterate 4
                refine no_implicit_lambda% (wpl_val ?_ rfl ?_ ?_)
                rotate_left
                · (go_simp; (try with_reducible rfl))
                (try simp only [Act.put, Z1, Z2, Z3, Z4, Z5, Z6])
              refine no_implicit_lambda% (wpl_val ?_ rfl ?_ ?_)
              rotate_left
              · (have c0 := dn.out; go_simp; (try with_reducible rfl))
              (try simp only [Act.put, Z1, Z2, Z3, Z4, Z5, Z6])
              iterate 6
                refine no_implicit_lambda% (wpl_val ?_ rfl ?_ ?_)
                rotate_left
                · (go_simp; (try with_reducible rfl))
                (try simp only [Act.put, Z1, Z2, Z3, Z4, Z5, Z6])
              refine no_implicit_lambda% (wpl_val ?_ rfl ?_ ?_)
              rotate_left
              · (have c0 := de.out; go_simp; (try with_reducible rfl))
              (try simp only [Act.put, Z1, Z2, Z3, Z4, Z5, Z6])
              iterate 2
                refine no_implicit_lambda% (wpl_val ?_ rfl ?_ ?_)
                rotate_left
                · (go_simp; (try with_reducible rfl))
                (try simp only [Act.put, Z1, Z2, Z3, Z4, Z5, Z6])
              refine no_implicit_lambda% (wpList_nil ?_)
              go_wp2_with fail
              go_meet
              case rel => exact ⟨by rw [HC.out], rfl⟩
            · have h3' : (x.1.kind == 3) = false := by simp [h4]
              have h4' : (x.1.kind == 4) = true := by simp [h4]
              clear h4 hn2
              refine no_implicit_lambda% (wp_region_lit ?_)
              iterate 2
                refine no_implicit_lambda% (wpl_val ?_ rfl ?_ ?_)
                rotate_left
                · (go_simp; (try with_reducible rfl))
                (try simp only [Act.put, Z1, Z2, Z3, Z4, Z5, Z6])
              refine no_implicit_lambda% (wpl_val ?_ rfl ?_ ?_)
              rotate_left
              · (have c0 := dk.out; go_simp; (try with_reducible rfl))
              (try simp only [Act.put, Z1, Z2, Z3, Z4, Z5, Z6])
              iterate 4
                refine no_implicit_lambda% (wpl_val ?_ rfl ?_ ?_)
                rotate_left
                · (go_simp; (try with_reducible rfl))
                (try simp only [Act.put, Z1, Z2, Z3, Z4, Z5, Z6])
              refine no_implicit_lambda% (wpl_val ?_ rfl ?_ ?_)
              rotate_left
              · (have c0 := dk.out; go_simp; (try with_reducible rfl))
              (try simp only [Act.put, Z1, Z2, Z3, Z4, Z5, Z6])
              iterate 5
                refine no_implicit_lambda% (wpl_val ?_ rfl ?_ ?_)
                rotate_left
                · (go_simp; (try with_reducible rfl))
                (try simp only [Act.put, Z1, Z2, Z3, Z4, Z5, Z6])
              refine no_implicit_lambda% (wpl_val ?_ rfl ?_ ?_)
              rotate_left
              · (have c0 := dn.out; go_simp; (try with_reducible rfl))
              (try simp only [Act.put, Z1, Z2, Z3, Z4, Z5, Z6])
              iterate 6
                refine no_implicit_lambda% (wpl_val ?_ rfl ?_ ?_)
                rotate_left
                · (go_simp; (try with_reducible rfl))
                (try simp only [Act.put, Z1, Z2, Z3, Z4, Z5, Z6])
              refine no_implicit_lambda% (wpl_val ?_ rfl ?_ ?_)
              rotate_left
              · (have c0 := de.out; go_simp; (try with_reducible rfl))
              (try simp only [Act.put, Z1, Z2, Z3, Z4, Z5, Z6])
              iterate 2
                refine no_implicit_lambda% (wpl_val ?_ rfl ?_ ?_)
                rotate_left
                · (go_simp; (try with_reducible rfl))
                (try simp only [Act.put, Z1, Z2, Z3, Z4, Z5, Z6])
              refine no_implicit_lambda% (wpList_nil ?_)
              go_wp2_with fail
              go_meet
              case rel => exact ⟨by rw [HC.out], rfl⟩
          · have hn' : (x.1.txn == n) = false := by simp [hn2]
            have HC : Hid (P.begC2 n x = false) := by unfold Hid P.begC2; simp [hn2]
            rcases h34 with h3 | h4
            · have h3' : (x.1.kind == 3) = true := by simp [h3]
              clear h3 hn2
              refine no_implicit_lambda% (wp_region_lit ?_)
              iterate 2
                refine no_implicit_lambda% (wpl_val ?_ rfl ?_ ?_)
                rotate_left
                · (go_simp; (try with_reducible rfl))
                (try simp only [Act.put, Z1, Z2, Z3, Z4, Z5, Z6])
              refine no_implicit_lambda% (wpl_val ?_ rfl ?_ ?_)
              rotate_left
              · (have c0 := dk.out; go_simp; (try with_reducible rfl))
              (try simp only [Act.put, Z1, Z2, Z3, Z4, Z5, Z6])
              iterate 2
                refine no_implicit_lambda% (wpl_val ?_ rfl ?_ ?_)
                rotate_left
                · (go_simp; (try with_reducible rfl))
                (try simp only [Act.put, Z1, Z2, Z3, Z4, Z5, Z6])
              iterate 4
                refine no_implicit_lambda% (wpl_skip rfl ?_)
                (try simp only [Act.put, Z1, Z2, Z3, Z4, Z5, Z6])
              iterate 4
                refine no_implicit_lambda% (wpl_val ?_ rfl ?_ ?_)
                rotate_left
                · (go_simp; (try with_reducible rfl))
                (try simp only [Act.put, Z1, Z2, Z3, Z4, Z5, Z6])
              refine no_implicit_lambda% (wpl_val ?_ rfl ?_ ?_)
              rotate_left
              · (have c0 := dn.out; go_simp; (try with_reducible rfl))
              (try simp only [Act.put, Z1, Z2, Z3, Z4, Z5, Z6])
              iterate 4
                refine no_implicit_lambda% (wpl_val ?_ rfl ?_ ?_)
                rotate_left
                · (go_simp; (try with_reducible rfl))
                (try simp only [Act.put, Z1, Z2, Z3, Z4, Z5, Z6])
              iterate 4
                refine no_implicit_lambda% (wpl_skip rfl ?_)
                (try simp only [Act.put, Z1, Z2, Z3, Z4, Z5, Z6])
              refine no_implicit_lambda% (wpl_val ?_ rfl ?_ ?_)
              rotate_left
              · (go_simp; (try with_reducible rfl))
              (try simp only [Act.put, Z1, Z2, Z3, Z4, Z5, Z6])
              refine no_implicit_lambda% (wpList_nil ?_)
              go_wp2_with fail
              go_meet
              case rel => exact ⟨by rw [HC.out], rfl⟩
            · have h3' : (x.1.kind == 3) = false := by simp [h4]
              have h4' : (x.1.kind == 4) = true := by simp [h4]
              clear h4 hn2
              refine no_implicit_lambda% (wp_region_lit ?_)
              iterate 2
                refine no_implicit_lambda% (wpl_val ?_ rfl ?_ ?_)
                rotate_left
                · (go_simp; (try with_reducible rfl))
                (try simp only [Act.put, Z1, Z2, Z3, Z4, Z5, Z6])
              refine no_implicit_lambda% (wpl_val ?_ rfl ?_ ?_)
              rotate_left
              · (have c0 := dk.out; go_simp; (try with_reducible rfl))
              (try simp only [Act.put, Z1, Z2, Z3, Z4, Z5, Z6])
              iterate 4
                refine no_implicit_lambda% (wpl_val ?_ rfl ?_ ?_)
                rotate_left
                · (go_simp; (try with_reducible rfl))
                (try simp only [Act.put, Z1, Z2, Z3, Z4, Z5, Z6])
              refine no_implicit_lambda% (wpl_val ?_ rfl ?_ ?_)
              rotate_left
              · (have c0 := dk.out; go_simp; (try with_reducible rfl))
              (try simp only [Act.put, Z1, Z2, Z3, Z4, Z5, Z6])
              iterate 5
                refine no_implicit_lambda% (wpl_val ?_ rfl ?_ ?_)
                rotate_left
                · (go_simp; (try with_reducible rfl))
                (try simp only [Act.put, Z1, Z2, Z3, Z4, Z5, Z6])
              refine no_implicit_lambda% (wpl_val ?_ rfl ?_ ?_)
              rotate_left
              · (have c0 := dn.out; go_simp; (try with_reducible rfl))
              (try simp only [Act.put, Z1, Z2, Z3, Z4, Z5, Z6])
              iterate 4
                refine no_implicit_lambda% (wpl_val ?_ rfl ?_ ?_)
                rotate_left
                · (go_simp; (try with_reducible rfl))
                (try simp only [Act.put, Z1, Z2, Z3, Z4, Z5, Z6])
              iterate 4
                refine no_implicit_lambda% (wpl_skip rfl ?_)
                (try simp only [Act.put, Z1, Z2, Z3, Z4, Z5, Z6])
              refine no_implicit_lambda% (wpl_val ?_ rfl ?_ ?_)
              rotate_left
              · (go_simp; (try with_reducible rfl))
              (try simp only [Act.put, Z1, Z2, Z3, Z4, Z5, Z6])
              refine no_implicit_lambda% (wpList_nil ?_)
              go_wp2_with fail
              go_meet
              case rel => exact ⟨by rw [HC.out], rfl⟩
        · have h3' : (x.1.kind == 3) = false := by simp; exact fun e => h34 (.inl e)
          have h4' : (x.1.kind == 4) = false := by simp; exact fun e => h34 (.inr e)
          have HC : Hid (P.begC2 n x = false) := by unfold Hid P.begC2; exact decide_eq_false fun e => h34 e.1
          clear h34
          refine no_implicit_lambda% (wp_region_lit ?_)
          iterate 2
            refine no_implicit_lambda% (wpl_val ?_ rfl ?_ ?_)
            rotate_left
            · (go_simp; (try with_reducible rfl))
            (try simp only [Act.put, Z1, Z2, Z3, Z4, Z5, Z6])
          refine no_implicit_lambda% (wpl_val ?_ rfl ?_ ?_)
          rotate_left
          · (have c0 := dk.out; go_simp; (try with_reducible rfl))
          (try simp only [Act.put, Z1, Z2, Z3, Z4, Z5, Z6])
          iterate 4
            refine no_implicit_lambda% (wpl_val ?_ rfl ?_ ?_)
            rotate_left
            · (go_simp; (try with_reducible rfl))
            (try simp only [Act.put, Z1, Z2, Z3, Z4, Z5, Z6])
          refine no_implicit_lambda% (wpl_val ?_ rfl ?_ ?_)
          rotate_left
          · (have c0 := dk.out; go_simp; (try with_reducible rfl))
          (try simp only [Act.put, Z1, Z2, Z3, Z4, Z5, Z6])
          iterate 3
            refine no_implicit_lambda% (wpl_val ?_ rfl ?_ ?_)
            rotate_left
            · (go_simp; (try with_reducible rfl))
            (try simp only [Act.put, Z1, Z2, Z3, Z4, Z5, Z6])
          iterate 5
            refine no_implicit_lambda% (wpl_skip rfl ?_)
            (try simp only [Act.put, Z1, Z2, Z3, Z4, Z5, Z6])
          iterate 2
            refine no_implicit_lambda% (wpl_val ?_ rfl ?_ ?_)
            rotate_left
            · (go_simp; (try with_reducible rfl))
            (try simp only [Act.put, Z1, Z2, Z3, Z4, Z5, Z6])
          iterate 4
            refine no_implicit_lambda% (wpl_skip rfl ?_)
            (try simp only [Act.put, Z1, Z2, Z3, Z4, Z5, Z6])
          refine no_implicit_lambda% (wpl_val ?_ rfl ?_ ?_)
          rotate_left
          · (go_simp; (try with_reducible rfl))
          (try simp only [Act.put, Z1, Z2, Z3, Z4, Z5, Z6])
          refine no_implicit_lambda% (wpList_nil ?_)
          go_wp2_with fail
          go_meet
          case rel => exact ⟨by rw [HC.out], rfl⟩
      case rest =>
      obtain ⟨rfl, rfl⟩ := hcut
      cases hc2 : P.begC2 n x with
      | true =>
        have HM : Hid (P.begS n s x = ((P.begS1 n s x).1, false)) := by unfold Hid; rw [P.begS_eq, hc2]; rfl
        clear hc2
        go_wp2_with fail
        go_roundw
        case rel => exact ⟨k + 1, by go_num, by omega, by rw [HT.out, HM.out], by rw [HT.out, HM.out], hb⟩
        case measure => simp [intOf]; omega
      | false =>
        have HM : Hid (P.begS n s x = P.begS1 n s x) := by unfold Hid; rw [P.begS_eq, hc2]; rfl
        clear hc2
        go_wp2_with fail
        go_roundw
        case rel => exact ⟨k + 1, by go_num, by omega, by rw [HT.out, HM.out], by rw [HT.out, HM.out], hb⟩
        case measure => simp [intOf]; omega
    · obtain rfl : k = log.length := by omega
      have HE : Hid (P.begF (log.take log.length) n = P.begF log n) := by unfold Hid; rw [List.take_length]
      go_wp2_with fail
      go_ret2
      exact ⟨by rw [← HE.out]; rfl, hS⟩
end Go.Proofs.Ytjaecdcddmohoaa
