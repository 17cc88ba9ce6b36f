/- The walks of writes, end, next. -/
import Derived.Test.YtnemaolbmocncaaHM
namespace Go.Proofs.Ytnemaolbmocncaa
open Go.RowKit
set_option linter.unusedSimpArgs false
set_option linter.unusedVariables false
attribute [local irreducible] wpList
set_option maxRecDepth 100000 in
set_option maxHeartbeats 4000000 in
theorem writes_any (x : Rec) (w : World) (h : SubAt w x) : Calls Try.prog 19 #[.agg (pcA x)] w fun e w' => e = .returned (.bool x.1.wr) ∧ Below w.heap.size w w' := by
  obtain ⟨⟨s, c, d, rs, ws⟩, rv, wv⟩ := x
  obtain ⟨ao, cap, e, _⟩ := h.wt
  dsimp only at e
  subst e
  have hB : Below w.heap.size w (w.alloc (.cells #[.int .u32 s, .int .u32 c, .bool d, rv, .slice ao ws.length cap] 36)) := (Below.refl _ _).alloc (Nat.le_refl _) _
  clear h
  unfold pcA P.Pst.wr
  dsimp only
  cases d with
  | false =>
    go_enter Try.func19, Try.ntmps19
    go_wp2_with fail
    go_ret
    exact ⟨by simp, hB⟩
  | true =>
    go_enter Try.func19, Try.ntmps19
    go_wp2_with fail
    go_ret
    exact ⟨by simp, hB⟩
set_option maxRecDepth 100000 in
set_option maxHeartbeats 4000000 in
theorem end_any (x : Rec) (w : World) (h : SubAt w x) : Calls Try.prog 21 #[.agg (pcA x)] w fun e w' => e = .returned (.int .u32 x.1.en) ∧ Below w.heap.size w w' := by
  have hw := fun w' (hb : Below w.heap.size w w') => writes_any x w' (h.below hb)
  obtain ⟨⟨s, c, d, rs, ws⟩, rv, wv⟩ := x
  clear h
  unfold pcA at hw ⊢
  unfold P.Pst.en
  dsimp only at hw ⊢
  have hB : Below w.heap.size w (w.alloc (.cells #[.int .u32 s, .int .u32 c, .bool d, rv, wv] 36)) := (Below.refl _ _).alloc (Nat.le_refl _) _
  have hc := hw _ hB
  clear hw
  generalize (P.Pst.mk s c d rs ws).wr = b at *
  have hbox : Blk (w.alloc (.cells #[.int .u32 s, .int .u32 c, .bool d, rv, wv] 36)) w.heap.size #[.int .u32 s, .int .u32 c, .bool d, rv, wv] 36 := Blk.alloc_new _ _ _
  go_enter Try.func21, Try.ntmps21
  go_upto_region 1 with (fail)
  refine no_implicit_lambda% (wp_region_lit ?_)
  refine wpl_val (.agg #[.int .u32 s, .int .u32 c, .bool d, rv, wv]) rfl (run_load_cs rfl rfl hbox Try.underlying36 rfl zero36.2) ?_
  (try simp only [Act.put, Z1, Z2, Z3, Z4, Z5, Z6])
  refine wpl_call _ _ rfl (by go_simp) _ hc ?_
  rintro e w2 ⟨rfl, hb2⟩
  refine ⟨_, rfl, ?_⟩
  (try simp only [Act.put, Z1, Z2, Z3, Z4, Z5, Z6])
  refine no_implicit_lambda% (wpList_nil ?_)
  have hS := hB.trans (hb2.mono hB.size)
  replace hbox := hbox.below hb2
  clear hB hb2 hc
  cases b with
  | false =>
    go_upto_region 3 with (fail)
    refine no_implicit_lambda% (wp_region_lit ?_)
    refine no_implicit_lambda% (wpl_val ?_ rfl ?_ ?_)
    rotate_left
    · (go_simp; (try with_reducible rfl))
    (try simp only [Act.put, Z1, Z2, Z4, Z5, Z6])
    refine no_implicit_lambda% (wpl_val ?_ rfl ?_ ?_)
    rotate_left
    · (have c0 := (show w2.cell? ⟨w.heap.size, 0, none⟩ = some (.int .u32 s) by rw [hbox.cell]; rfl); go_simp; (try with_reducible rfl))
    (try simp only [Act.put, Z1, Z2, Z3, Z4, Z5, Z6])
    refine no_implicit_lambda% (wpl_val ?_ rfl ?_ ?_)
    rotate_left
    · (go_simp; (try with_reducible rfl))
    (try simp only [Act.put, Z1, Z2, Z3, Z4, Z5, Z6])
    refine no_implicit_lambda% (wpList_nil ?_)
    go_wp2_with fail
    go_ret
    exact ⟨rfl, hS⟩
  | true =>
    go_upto_region 2 with (fail)
    refine no_implicit_lambda% (wp_region_lit ?_)
    refine no_implicit_lambda% (wpl_val ?_ rfl ?_ ?_)
    rotate_left
    · (go_simp; (try with_reducible rfl))
    (try simp only [Act.put, Z1, Z2, Z4, Z5, Z6])
    refine no_implicit_lambda% (wpl_val ?_ rfl ?_ ?_)
    rotate_left
    · (have c0 := (show w2.cell? ⟨w.heap.size, 1, none⟩ = some (.int .u32 c) by rw [hbox.cell]; rfl); go_simp; (try with_reducible rfl))
    (try simp only [Act.put, Z1, Z2, Z3, Z4, Z5, Z6])
    refine no_implicit_lambda% (wpl_val ?_ rfl ?_ ?_)
    rotate_left
    · (go_simp; (try with_reducible rfl))
    (try simp only [Act.put, Z1, Z2, Z3, Z4, Z5, Z6])
    refine no_implicit_lambda% (wpList_nil ?_)
    go_wp2_with fail
    go_ret
    exact ⟨rfl, hS⟩
/-- What next tells. -/
def NxtB (B : List ((Int × Int) × Nat)) (v : Int × Int) (r : Int) : Prop :=
  (r = -1 ∧ ∀ x ∈ B, x.1.1 = v.1 → ¬ v.2 < x.1.2) ∨ ∃ x ∈ B, r = x.2 ∧ x.1.1 = v.1 ∧ v.2 < x.1.2 ∧ ∀ y ∈ B, y.1.1 = v.1 → v.2 < y.1.2 → x.1.2 ≤ y.1.2
/-- .. and what it has found when T is still to come. -/
def NxtS (B T : List ((Int × Int) × Nat)) (v : Int × Int) (best r : Int) : Prop :=
  (r = -1 ∧ ∀ x ∈ B, x ∉ T → x.1.1 = v.1 → ¬ v.2 < x.1.2) ∨ ∃ x ∈ B, x ∉ T ∧ r = x.2 ∧ best = x.1.2 ∧ x.1.1 = v.1 ∧ v.2 < x.1.2 ∧ ∀ y ∈ B, y ∉ T → y.1.1 = v.1 → v.2 < y.1.2 → x.1.2 ≤ y.1.2
theorem NxtS.fin {B : List ((Int × Int) × Nat)} {v : Int × Int} {best r : Int} (h : NxtS B [] v best r) : NxtB B v r := by
  rcases h with ⟨h1, h2⟩ | ⟨x, h1, _, h2, _, h3, h4, h5⟩
  · exact .inl ⟨h1, fun x hx => h2 x hx (by simp)⟩
  · exact .inr ⟨x, h1, h2, h3, h4, fun y hy => h5 y hy (by simp)⟩
theorem NxtS.pos {B T : List ((Int × Int) × Nat)} {v : Int × Int} {best r : Int} (h : NxtS B T v best r) : -1 ≤ r := by
  rcases h with ⟨h1, _⟩ | ⟨x, _, _, h2, _⟩ <;> omega
theorem NxtS.skip {B T : List ((Int × Int) × Nat)} {v : Int × Int} {best r : Int} (h : NxtS B T v best r) (hn : T.Nodup) {j : Nat} {q : (Int × Int) × Nat} (hq : T[j]? = some q)
    (hs : ¬ (q.1.1 = v.1 ∧ v.2 < q.1.2) ∨ (0 ≤ r ∧ best ≤ q.1.2)) : NxtS B (T.eraseIdx j) v best r := by
  have hqm := List.mem_of_getElem? hq
  rcases h with ⟨h1, h2⟩ | ⟨x, h1, h0, h2, h2', h3, h4, h5⟩
  · refine .inl ⟨h1, fun x hx hxT e1 e2 => ?_⟩
    rw [mem_eraseIdx_nd hn hq] at hxT
    by_cases e : x ∈ T
    · obtain rfl : x = q := Classical.byContradiction fun e' => hxT ⟨e, e'⟩
      rcases hs with hs | hs
      · exact hs ⟨e1, e2⟩
      · omega
    · exact h2 x hx e e1 e2
  · refine .inr ⟨x, h1, fun e => h0 ((mem_eraseIdx_nd hn hq).1 e).1, h2, h2', h3, h4, fun y hy hyT e1 e2 => ?_⟩
    rw [mem_eraseIdx_nd hn hq] at hyT
    by_cases e : y ∈ T
    · obtain rfl : y = q := Classical.byContradiction fun e' => hyT ⟨e, e'⟩
      rcases hs with hs | hs
      · exact absurd ⟨e1, e2⟩ hs
      · omega
    · exact h5 y hy e e1 e2
theorem NxtS.take {B T : List ((Int × Int) × Nat)} {v : Int × Int} {best r : Int} (h : NxtS B T v best r) (hn : T.Nodup) {j : Nat} {q : (Int × Int) × Nat} (hq : T[j]? = some q) (hB : q ∈ B)
    (h1 : q.1.1 = v.1) (h2 : v.2 < q.1.2) (hs : r < 0 ∨ q.1.2 < best) : NxtS B (T.eraseIdx j) v q.1.2 q.2 := by
  refine .inr ⟨q, hB, fun e => ((mem_eraseIdx_nd hn hq).1 e).2 rfl, rfl, rfl, h1, h2, fun y hy hyT e1 e2 => ?_⟩
  rw [mem_eraseIdx_nd hn hq] at hyT
  by_cases e : y ∈ T
  · obtain rfl : y = q := Classical.byContradiction fun e' => hyT ⟨e, e'⟩
    omega
  · rcases h with ⟨h3, h4⟩ | ⟨x, h3, _, h4, h4', h5, h6, h7⟩
    · exact absurd e2 (h4 y hy e e1)
    · have := h7 y hy e e1 e2
      rcases hs with hs | hs <;> omega
set_option maxRecDepth 100000 in
set_option maxHeartbeats 8000000 in
theorem next_any {w0 w : World} {g : Nat} {ao : Option Addr} {cap : Nat} {R : List Rec} {rb rd ra : Nat} {B : List ((Int × Int) × Nat)} {D A : List Ed} (h : GS w0 w g ao cap R rb rd ra B D A) (v : Int × Int) :
    Calls Try.prog 34 #[.pointer (some ⟨g, 0, none⟩), .agg #[.int .u16 v.1, .int .u32 v.2]] w fun e w' => ∃ r, e = .returned (.int .i64 r) ∧ NxtB B v r ∧ Below w.heap.size w w' := by
  obtain ⟨p, t⟩ := v
  dsimp only
  have hz43 := zero43.1
  have hB0 : Below w.heap.size w (w.alloc (.cells #[.int .u16 p, .int .u32 t] 43)) := (Below.refl _ _).alloc (Nat.le_refl _) _
  have hbx : Blk (w.alloc (.cells #[.int .u16 p, .int .u32 t] 43)) w.heap.size #[.int .u16 p, .int .u32 t] 43 := Blk.alloc_new _ _ _
  go_enter Try.func34, Try.ntmps34
  go_upto_region 2 with (fail)
  have hg := h.below hB0
  clear h
  generalize w.alloc (.cells #[.int .u16 p, .int .u32 t] 43) = V at *
  obtain ⟨W, hrun, hIt, hb1, hsz⟩ := hg.fb.range
  have hnd : Hid (B.Nodup) := nodup_of_map hg.fb.keys
  have c1 := hg.c1
  go_upto_region 2 with (fail)
  refine no_implicit_lambda% (wp_region_lit ?_)
  iterate 3
    refine no_implicit_lambda% (wpl_val ?_ rfl ?_ ?_)
    rotate_left
    · (go_simp; (try with_reducible rfl))
    (try simp only [Act.put, Z1, Z2, Z3, Z4, Z5, Z6])
  refine no_implicit_lambda% (wpl_val ?_ rfl ?_ ?_)
  rotate_left
  · (have c0 := c1; go_simp; (try with_reducible rfl))
  (try simp only [Act.put, Z1, Z2, Z3, Z4, Z5, Z6])
  refine wpl_run (.pointer (some ⟨V.heap.size, 0, none⟩)) W rfl (by go_simp) ?_
  (try simp only [Act.put, Z1, Z2, Z3, Z4, Z5, Z6])
  refine no_implicit_lambda% (wpList_nil ?_)
  have hbW := hB0.trans (hb1.mono hB0.size)
  have hrl : Hid (rb < V.heap.size) := hg.fb.lt
  have hlx : Hid (w.heap.size < V.heap.size) := hbx.lt
  replace hbx := hbx.below hb1
  clear hrun hb1 hB0 c1 hg
  generalize V.heap.size = it at *
  clear V
  have HS := Lib.hid (And.intro hIt (And.intro hbx hbW))
  clear hIt hbx hbW
  go_wp2_with fail
  go_loopg [5, 6] B.length (fun r b a wr => ∃ (T : List ((Int × Int) × Nat)) (best rr : Int), T.length = r ∧ b = .int .u32 best ∧ a = .int .i64 rr ∧ IxIt wr it rb B T ∧ Blk wr w.heap.size #[.int .u16 p, .int .u32 t] 43 ∧ Below w.heap.size w wr ∧ Hid (T.Nodup ∧ NxtS B T (p, t) best rr))
  case atStart => exact ⟨B, 0, -1, rfl, rfl, rfl, HS.out.1, HS.out.2.1, HS.out.2.2, hnd.out, .inl ⟨rfl, fun x hx hx' => absurd hx hx'⟩⟩
  case round =>
    clear HS
    obtain ⟨T, best, rr, rfl, rfl, rfl, hIt, hbx, hS, hT⟩ := hrel
    have hrr : Hid (-1 ≤ rr) := hT.out.2.pos
    have hne : it ≠ rb := fun e => by have := hrl.out; omega
    rcases hIt.next hne with ⟨h0, hrun⟩ | ⟨j, q, w', hj, hqB, hrun, hIt2, hF, hent⟩
    · subst h0
      go_upto_region 3 with (fail)
      refine no_implicit_lambda% (wp_region_lit ?_)
      refine wpl_run (.tuple #[.bool false]) wr rfl (by go_simp) ?_
      (try simp only [Act.put, Z1, Z2, Z3, Z4, Z5, Z6])
      refine no_implicit_lambda% (wpl_val ?_ rfl ?_ ?_)
      rotate_left
      · (go_simp; (try with_reducible rfl))
      (try simp only [Act.put, Z1, Z2, Z3, Z4, Z5, Z6])
      refine no_implicit_lambda% (wpList_nil ?_)
      clear hrun
      go_wp2_with fail
      go_ret
      exact ⟨rr, rfl, hT.out.2.fin, hS⟩
    · replace hj := Lib.hid hj
      replace hqB := Lib.hid hqB
      go_upto_region 3 with (fail)
      refine no_implicit_lambda% (wp_region_lit ?_)
      refine wpl_run (.tuple #[.bool true, .agg #[.int .u16 q.1.1, .int .u32 q.1.2], .int .i64 q.2]) w' rfl (by go_simp) ?_
      (try simp only [Act.put, Z1, Z2, Z3, Z4, Z5, Z6])
      refine no_implicit_lambda% (wpl_val ?_ rfl ?_ ?_)
      rotate_left
      · (go_simp; (try with_reducible rfl))
      (try simp only [Act.put, Z1, Z2, Z3, Z4, Z5, Z6])
      refine no_implicit_lambda% (wpList_nil ?_)
      clear hrun
      go_upto_region 4 with (fail)
      refine no_implicit_lambda% (wp_region_lit ?_)
      iterate 3
        refine no_implicit_lambda% (wpl_val ?_ rfl ?_ ?_)
        rotate_left
        · (go_simp; (try with_reducible rfl))
        (try simp only [Act.put, Z1, Z2, Z3, Z4, Z5, Z6])
      refine wpl_alloc 43 #[.int .u16 0, .int .u32 0] rfl rfl hz43 ?_
      (try simp only [Act.put, Z1, Z2, Z3, Z4, Z5, Z6])
      refine wpList_store_fr rfl 43 _ _ rfl w'.heap.size #[.int .u16 q.1.1, .int .u32 q.1.2] rfl rfl 43 _ (Blk.alloc_new _ _ _) zero43.2 rfl (by simp [Value.oneCell']) ?_
      intro w9 hB9 hF9
      (try simp only [Act.put, Z1, Z2, Z3, Z4, Z5, Z6])
      refine no_implicit_lambda% (wpl_val ?_ rfl ?_ ?_)
      rotate_left
      · (go_simp; (try with_reducible rfl))
      (try simp only [Act.put, Z1, Z2, Z3, Z4, Z5, Z6])
      refine no_implicit_lambda% (wpList_nil ?_)
      clear hent
      have hsz := hS.size
      have hF8 : Fr (fun k => k = it) wr (w'.alloc (.cells #[.int .u16 0, .int .u32 0] 43)) := hF.alloc _
      have hF9' : Fr (fun k => k = it ∨ k = w'.heap.size) wr w9 := (hF8.mono fun i _ e => .inl e).trans hF9 fun i _ e => .inr e
      have hl := hlx.out
      have hwl := hIt2.lt
      have hbx9 := hbx.fr hF9' (fun e => by omega)
      have hS9 : Below w.heap.size w w9 := Fr.below hS hF9' (Nat.le_refl _) fun i hi => by omega
      have hIt9 : IxIt w9 it rb B (T.eraseIdx j) := (hIt2.fr ((Fr.refl (fun _ => False) w').alloc _) id id).fr hF9 (fun e => by have := hIt2.map.lt; omega) (fun e => by omega)
      have hlen := erase_len hj.out
      generalize w'.heap.size = bx at *
      clear hIt hIt2 hF hF8 hF9 hF9' hS hbx hwl hl
      replace hlen := Lib.hid hlen
      by_cases h1 : q.1.1 = p
      · have h1' : (q.1.1 == p) = true := by simp [h1]
        by_cases h2 : t < q.1.2
        · have h2' : decide (t < q.1.2) = true := by simp [h2]
          by_cases h3 : rr < 0
          · have h3' : decide (rr < 0) = true := by simp [h3]
            have HN : Hid ((T.eraseIdx j).Nodup ∧ NxtS B (T.eraseIdx j) (p, t) q.1.2 q.2) := ⟨(List.eraseIdx_sublist _ _).nodup hT.out.1, hT.out.2.take hT.out.1 hj.out hqB.out h1 h2 (.inl h3)⟩
            clear hT hrr hj hqB h1 h2 h3
            go_upto_region 5 with (fail)
            refine no_implicit_lambda% (wp_region_lit ?_)
            refine no_implicit_lambda% (wpl_val ?_ rfl ?_ ?_)
            rotate_left
            · (go_simp; (try with_reducible rfl))
            (try simp only [Act.put, Z1, Z2, Z4, Z5, Z6])
            refine no_implicit_lambda% (wpl_val ?_ rfl ?_ ?_)
            rotate_left
            · (have c0 := (show w9.cell? ⟨bx, 0, none⟩ = some (.int .u16 q.1.1) by rw [hB9.cell]; rfl); go_simp; (try with_reducible rfl))
            (try simp only [Act.put, Z1, Z2, Z3, Z4, Z5, Z6])
            refine no_implicit_lambda% (wpl_val ?_ rfl ?_ ?_)
            rotate_left
            · (go_simp; (try with_reducible rfl))
            (try simp only [Act.put, Z1, Z2, Z3, Z4, Z5, Z6])
            refine no_implicit_lambda% (wpl_val ?_ rfl ?_ ?_)
            rotate_left
            · (have c0 := (show w9.cell? ⟨w.heap.size, 0, none⟩ = some (.int .u16 p) by rw [hbx9.cell]; rfl); go_simp; (try with_reducible rfl))
            (try simp only [Act.put, Z1, Z2, Z3, Z4, Z5, Z6])
            iterate 3
              refine no_implicit_lambda% (wpl_val ?_ rfl ?_ ?_)
              rotate_left
              · (go_simp; (try with_reducible rfl))
              (try simp only [Act.put, Z1, Z2, Z3, Z4, Z5, Z6])
            refine no_implicit_lambda% (wpl_val ?_ rfl ?_ ?_)
            rotate_left
            · (have c0 := (show w9.cell? ⟨bx, 1, none⟩ = some (.int .u32 q.1.2) by rw [hB9.cell]; rfl); go_simp; (try with_reducible rfl))
            (try simp only [Act.put, Z1, Z2, Z3, Z4, Z5, Z6])
            refine no_implicit_lambda% (wpl_val ?_ rfl ?_ ?_)
            rotate_left
            · (go_simp; (try with_reducible rfl))
            (try simp only [Act.put, Z1, Z2, Z3, Z4, Z5, Z6])
            refine no_implicit_lambda% (wpl_val ?_ rfl ?_ ?_)
            rotate_left
            · (have c0 := (show w9.cell? ⟨w.heap.size, 1, none⟩ = some (.int .u32 t) by rw [hbx9.cell]; rfl); go_simp; (try with_reducible rfl))
            (try simp only [Act.put, Z1, Z2, Z3, Z4, Z5, Z6])
            iterate 6
              refine no_implicit_lambda% (wpl_val ?_ rfl ?_ ?_)
              rotate_left
              · (go_simp; (try with_reducible rfl))
              (try simp only [Act.put, Z1, Z2, Z3, Z4, Z5, Z6])
            iterate 4
              refine no_implicit_lambda% (wpl_skip rfl ?_)
              (try simp only [Act.put, Z1, Z2, Z3, Z4, Z5, Z6])
            iterate 2
              refine no_implicit_lambda% (wpl_val ?_ rfl ?_ ?_)
              rotate_left
              · (go_simp; (try with_reducible rfl))
              (try simp only [Act.put, Z1, Z2, Z3, Z4, Z5, Z6])
            refine no_implicit_lambda% (wpList_nil ?_)
            go_upto_region 6 with (fail)
            refine no_implicit_lambda% (wp_region_lit ?_)
            refine no_implicit_lambda% (wpl_val ?_ rfl ?_ ?_)
            rotate_left
            · (go_simp; (try with_reducible rfl))
            (try simp only [Act.put, Z1, Z2, Z4, Z5, Z6])
            refine no_implicit_lambda% (wpl_val ?_ rfl ?_ ?_)
            rotate_left
            · (have c0 := (show w9.cell? ⟨bx, 1, none⟩ = some (.int .u32 q.1.2) by rw [hB9.cell]; rfl); go_simp; (try with_reducible rfl))
            (try simp only [Act.put, Z1, Z2, Z3, Z4, Z5, Z6])
            iterate 3
              refine no_implicit_lambda% (wpl_val ?_ rfl ?_ ?_)
              rotate_left
              · (go_simp; (try with_reducible rfl))
              (try simp only [Act.put, Z1, Z2, Z3, Z4, Z5, Z6])
            refine no_implicit_lambda% (wpList_nil ?_)
            go_wp2_with fail
            go_roundg (T.eraseIdx j).length
            case measure => exact hlen.out
            case rel => exact ⟨T.eraseIdx j, q.1.2, q.2, rfl, rfl, rfl, hIt9, hbx9, hS9, HN⟩
          · have h3' : decide (rr < 0) = false := by simp; omega
            by_cases h4 : q.1.2 < best
            · have h4' : decide (q.1.2 < best) = true := by simp [h4]
              have HN : Hid ((T.eraseIdx j).Nodup ∧ NxtS B (T.eraseIdx j) (p, t) q.1.2 q.2) := ⟨(List.eraseIdx_sublist _ _).nodup hT.out.1, hT.out.2.take hT.out.1 hj.out hqB.out h1 h2 (.inr h4)⟩
              clear hT hrr hj hqB h1 h2 h3 h4
              go_upto_region 5 with (fail)
              refine no_implicit_lambda% (wp_region_lit ?_)
              refine no_implicit_lambda% (wpl_val ?_ rfl ?_ ?_)
              rotate_left
              · (go_simp; (try with_reducible rfl))
              (try simp only [Act.put, Z1, Z2, Z4, Z5, Z6])
              refine no_implicit_lambda% (wpl_val ?_ rfl ?_ ?_)
              rotate_left
              · (have c0 := (show w9.cell? ⟨bx, 0, none⟩ = some (.int .u16 q.1.1) by rw [hB9.cell]; rfl); go_simp; (try with_reducible rfl))
              (try simp only [Act.put, Z1, Z2, Z3, Z4, Z5, Z6])
              refine no_implicit_lambda% (wpl_val ?_ rfl ?_ ?_)
              rotate_left
              · (go_simp; (try with_reducible rfl))
              (try simp only [Act.put, Z1, Z2, Z3, Z4, Z5, Z6])
              refine no_implicit_lambda% (wpl_val ?_ rfl ?_ ?_)
              rotate_left
              · (have c0 := (show w9.cell? ⟨w.heap.size, 0, none⟩ = some (.int .u16 p) by rw [hbx9.cell]; rfl); go_simp; (try with_reducible rfl))
              (try simp only [Act.put, Z1, Z2, Z3, Z4, Z5, Z6])
              iterate 3
                refine no_implicit_lambda% (wpl_val ?_ rfl ?_ ?_)
                rotate_left
                · (go_simp; (try with_reducible rfl))
                (try simp only [Act.put, Z1, Z2, Z3, Z4, Z5, Z6])
              refine no_implicit_lambda% (wpl_val ?_ rfl ?_ ?_)
              rotate_left
              · (have c0 := (show w9.cell? ⟨bx, 1, none⟩ = some (.int .u32 q.1.2) by rw [hB9.cell]; rfl); go_simp; (try with_reducible rfl))
              (try simp only [Act.put, Z1, Z2, Z3, Z4, Z5, Z6])
              refine no_implicit_lambda% (wpl_val ?_ rfl ?_ ?_)
              rotate_left
              · (go_simp; (try with_reducible rfl))
              (try simp only [Act.put, Z1, Z2, Z3, Z4, Z5, Z6])
              refine no_implicit_lambda% (wpl_val ?_ rfl ?_ ?_)
              rotate_left
              · (have c0 := (show w9.cell? ⟨w.heap.size, 1, none⟩ = some (.int .u32 t) by rw [hbx9.cell]; rfl); go_simp; (try with_reducible rfl))
              (try simp only [Act.put, Z1, Z2, Z3, Z4, Z5, Z6])
              iterate 7
                refine no_implicit_lambda% (wpl_val ?_ rfl ?_ ?_)
                rotate_left
                · (go_simp; (try with_reducible rfl))
                (try simp only [Act.put, Z1, Z2, Z3, Z4, Z5, Z6])
              refine no_implicit_lambda% (wpl_val ?_ rfl ?_ ?_)
              rotate_left
              · (have c0 := (show w9.cell? ⟨bx, 1, none⟩ = some (.int .u32 q.1.2) by rw [hB9.cell]; rfl); go_simp; (try with_reducible rfl))
              (try simp only [Act.put, Z1, Z2, Z3, Z4, Z5, Z6])
              iterate 4
                refine no_implicit_lambda% (wpl_val ?_ rfl ?_ ?_)
                rotate_left
                · (go_simp; (try with_reducible rfl))
                (try simp only [Act.put, Z1, Z2, Z3, Z4, Z5, Z6])
              refine no_implicit_lambda% (wpList_nil ?_)
              go_upto_region 6 with (fail)
              refine no_implicit_lambda% (wp_region_lit ?_)
              refine no_implicit_lambda% (wpl_val ?_ rfl ?_ ?_)
              rotate_left
              · (go_simp; (try with_reducible rfl))
              (try simp only [Act.put, Z1, Z2, Z4, Z5, Z6])
              refine no_implicit_lambda% (wpl_val ?_ rfl ?_ ?_)
              rotate_left
              · (have c0 := (show w9.cell? ⟨bx, 1, none⟩ = some (.int .u32 q.1.2) by rw [hB9.cell]; rfl); go_simp; (try with_reducible rfl))
              (try simp only [Act.put, Z1, Z2, Z3, Z4, Z5, Z6])
              iterate 3
                refine no_implicit_lambda% (wpl_val ?_ rfl ?_ ?_)
                rotate_left
                · (go_simp; (try with_reducible rfl))
                (try simp only [Act.put, Z1, Z2, Z3, Z4, Z5, Z6])
              refine no_implicit_lambda% (wpList_nil ?_)
              go_wp2_with fail
              go_roundg (T.eraseIdx j).length
              case measure => exact hlen.out
              case rel => exact ⟨T.eraseIdx j, q.1.2, q.2, rfl, rfl, rfl, hIt9, hbx9, hS9, HN⟩
            · have h4' : decide (q.1.2 < best) = false := by simp; omega
              have HN : Hid ((T.eraseIdx j).Nodup ∧ NxtS B (T.eraseIdx j) (p, t) best rr) := ⟨(List.eraseIdx_sublist _ _).nodup hT.out.1, hT.out.2.skip hT.out.1 hj.out (.inr ⟨by omega, by omega⟩)⟩
              clear hT hrr hj hqB h1 h2 h3 h4
              go_upto_region 5 with (fail)
              refine no_implicit_lambda% (wp_region_lit ?_)
              refine no_implicit_lambda% (wpl_val ?_ rfl ?_ ?_)
              rotate_left
              · (go_simp; (try with_reducible rfl))
              (try simp only [Act.put, Z1, Z2, Z4, Z5, Z6])
              refine no_implicit_lambda% (wpl_val ?_ rfl ?_ ?_)
              rotate_left
              · (have c0 := (show w9.cell? ⟨bx, 0, none⟩ = some (.int .u16 q.1.1) by rw [hB9.cell]; rfl); go_simp; (try with_reducible rfl))
              (try simp only [Act.put, Z1, Z2, Z3, Z4, Z5, Z6])
              refine no_implicit_lambda% (wpl_val ?_ rfl ?_ ?_)
              rotate_left
              · (go_simp; (try with_reducible rfl))
              (try simp only [Act.put, Z1, Z2, Z3, Z4, Z5, Z6])
              refine no_implicit_lambda% (wpl_val ?_ rfl ?_ ?_)
              rotate_left
              · (have c0 := (show w9.cell? ⟨w.heap.size, 0, none⟩ = some (.int .u16 p) by rw [hbx9.cell]; rfl); go_simp; (try with_reducible rfl))
              (try simp only [Act.put, Z1, Z2, Z3, Z4, Z5, Z6])
              iterate 3
                refine no_implicit_lambda% (wpl_val ?_ rfl ?_ ?_)
                rotate_left
                · (go_simp; (try with_reducible rfl))
                (try simp only [Act.put, Z1, Z2, Z3, Z4, Z5, Z6])
              refine no_implicit_lambda% (wpl_val ?_ rfl ?_ ?_)
              rotate_left
              · (have c0 := (show w9.cell? ⟨bx, 1, none⟩ = some (.int .u32 q.1.2) by rw [hB9.cell]; rfl); go_simp; (try with_reducible rfl))
              (try simp only [Act.put, Z1, Z2, Z3, Z4, Z5, Z6])
              refine no_implicit_lambda% (wpl_val ?_ rfl ?_ ?_)
              rotate_left
              · (go_simp; (try with_reducible rfl))
              (try simp only [Act.put, Z1, Z2, Z3, Z4, Z5, Z6])
              refine no_implicit_lambda% (wpl_val ?_ rfl ?_ ?_)
              rotate_left
              · (have c0 := (show w9.cell? ⟨w.heap.size, 1, none⟩ = some (.int .u32 t) by rw [hbx9.cell]; rfl); go_simp; (try with_reducible rfl))
              (try simp only [Act.put, Z1, Z2, Z3, Z4, Z5, Z6])
              iterate 7
                refine no_implicit_lambda% (wpl_val ?_ rfl ?_ ?_)
                rotate_left
                · (go_simp; (try with_reducible rfl))
                (try simp only [Act.put, Z1, Z2, Z3, Z4, Z5, Z6])
              refine no_implicit_lambda% (wpl_val ?_ rfl ?_ ?_)
              rotate_left
              · (have c0 := (show w9.cell? ⟨bx, 1, none⟩ = some (.int .u32 q.1.2) by rw [hB9.cell]; rfl); go_simp; (try with_reducible rfl))
              (try simp only [Act.put, Z1, Z2, Z3, Z4, Z5, Z6])
              iterate 4
                refine no_implicit_lambda% (wpl_val ?_ rfl ?_ ?_)
                rotate_left
                · (go_simp; (try with_reducible rfl))
                (try simp only [Act.put, Z1, Z2, Z3, Z4, Z5, Z6])
              refine no_implicit_lambda% (wpList_nil ?_)
              go_wp2_with fail
              go_roundg (T.eraseIdx j).length
              case measure => exact hlen.out
              case rel => exact ⟨T.eraseIdx j, best, rr, rfl, rfl, rfl, hIt9, hbx9, hS9, HN⟩
        · have h2' : decide (t < q.1.2) = false := by simp; omega
          have HN : Hid ((T.eraseIdx j).Nodup ∧ NxtS B (T.eraseIdx j) (p, t) best rr) := ⟨(List.eraseIdx_sublist _ _).nodup hT.out.1, hT.out.2.skip hT.out.1 hj.out (.inl fun e => h2 e.2)⟩
          clear hT hrr hj hqB h1 h2
          go_upto_region 5 with (fail)
          refine no_implicit_lambda% (wp_region_lit ?_)
          refine no_implicit_lambda% (wpl_val ?_ rfl ?_ ?_)
          rotate_left
          · (go_simp; (try with_reducible rfl))
          (try simp only [Act.put, Z1, Z2, Z4, Z5, Z6])
          refine no_implicit_lambda% (wpl_val ?_ rfl ?_ ?_)
          rotate_left
          · (have c0 := (show w9.cell? ⟨bx, 0, none⟩ = some (.int .u16 q.1.1) by rw [hB9.cell]; rfl); go_simp; (try with_reducible rfl))
          (try simp only [Act.put, Z1, Z2, Z3, Z4, Z5, Z6])
          refine no_implicit_lambda% (wpl_val ?_ rfl ?_ ?_)
          rotate_left
          · (go_simp; (try with_reducible rfl))
          (try simp only [Act.put, Z1, Z2, Z3, Z4, Z5, Z6])
          refine no_implicit_lambda% (wpl_val ?_ rfl ?_ ?_)
          rotate_left
          · (have c0 := (show w9.cell? ⟨w.heap.size, 0, none⟩ = some (.int .u16 p) by rw [hbx9.cell]; rfl); go_simp; (try with_reducible rfl))
          (try simp only [Act.put, Z1, Z2, Z3, Z4, Z5, Z6])
          iterate 3
            refine no_implicit_lambda% (wpl_val ?_ rfl ?_ ?_)
            rotate_left
            · (go_simp; (try with_reducible rfl))
            (try simp only [Act.put, Z1, Z2, Z3, Z4, Z5, Z6])
          refine no_implicit_lambda% (wpl_val ?_ rfl ?_ ?_)
          rotate_left
          · (have c0 := (show w9.cell? ⟨bx, 1, none⟩ = some (.int .u32 q.1.2) by rw [hB9.cell]; rfl); go_simp; (try with_reducible rfl))
          (try simp only [Act.put, Z1, Z2, Z3, Z4, Z5, Z6])
          refine no_implicit_lambda% (wpl_val ?_ rfl ?_ ?_)
          rotate_left
          · (go_simp; (try with_reducible rfl))
          (try simp only [Act.put, Z1, Z2, Z3, Z4, Z5, Z6])
          refine no_implicit_lambda% (wpl_val ?_ rfl ?_ ?_)
          rotate_left
          · (have c0 := (show w9.cell? ⟨w.heap.size, 1, none⟩ = some (.int .u32 t) by rw [hbx9.cell]; rfl); go_simp; (try with_reducible rfl))
          (try simp only [Act.put, Z1, Z2, Z3, Z4, Z5, Z6])
          iterate 3
            refine no_implicit_lambda% (wpl_val ?_ rfl ?_ ?_)
            rotate_left
            · (go_simp; (try with_reducible rfl))
            (try simp only [Act.put, Z1, Z2, Z3, Z4, Z5, Z6])
          iterate 8
            refine no_implicit_lambda% (wpl_skip rfl ?_)
            (try simp only [Act.put, Z1, Z2, Z3, Z4, Z5, Z6])
          refine no_implicit_lambda% (wpl_val ?_ rfl ?_ ?_)
          rotate_left
          · (go_simp; (try with_reducible rfl))
          (try simp only [Act.put, Z1, Z2, Z3, Z4, Z5, Z6])
          refine no_implicit_lambda% (wpList_nil ?_)
          go_wp2_with fail
          go_roundg (T.eraseIdx j).length
          case measure => exact hlen.out
          case rel => exact ⟨T.eraseIdx j, best, rr, rfl, rfl, rfl, hIt9, hbx9, hS9, HN⟩
      · have h1' : (q.1.1 == p) = false := by simp [h1]
        have HN : Hid ((T.eraseIdx j).Nodup ∧ NxtS B (T.eraseIdx j) (p, t) best rr) := ⟨(List.eraseIdx_sublist _ _).nodup hT.out.1, hT.out.2.skip hT.out.1 hj.out (.inl fun e => h1 e.1)⟩
        clear hT hrr hj hqB h1
        go_upto_region 5 with (fail)
        refine no_implicit_lambda% (wp_region_lit ?_)
        refine no_implicit_lambda% (wpl_val ?_ rfl ?_ ?_)
        rotate_left
        · (go_simp; (try with_reducible rfl))
        (try simp only [Act.put, Z1, Z2, Z4, Z5, Z6])
        refine no_implicit_lambda% (wpl_val ?_ rfl ?_ ?_)
        rotate_left
        · (have c0 := (show w9.cell? ⟨bx, 0, none⟩ = some (.int .u16 q.1.1) by rw [hB9.cell]; rfl); go_simp; (try with_reducible rfl))
        (try simp only [Act.put, Z1, Z2, Z3, Z4, Z5, Z6])
        refine no_implicit_lambda% (wpl_val ?_ rfl ?_ ?_)
        rotate_left
        · (go_simp; (try with_reducible rfl))
        (try simp only [Act.put, Z1, Z2, Z3, Z4, Z5, Z6])
        refine no_implicit_lambda% (wpl_val ?_ rfl ?_ ?_)
        rotate_left
        · (have c0 := (show w9.cell? ⟨w.heap.size, 0, none⟩ = some (.int .u16 p) by rw [hbx9.cell]; rfl); go_simp; (try with_reducible rfl))
        (try simp only [Act.put, Z1, Z2, Z3, Z4, Z5, Z6])
        iterate 2
          refine no_implicit_lambda% (wpl_val ?_ rfl ?_ ?_)
          rotate_left
          · (go_simp; (try with_reducible rfl))
          (try simp only [Act.put, Z1, Z2, Z3, Z4, Z5, Z6])
        iterate 5
          refine no_implicit_lambda% (wpl_skip rfl ?_)
          (try simp only [Act.put, Z1, Z2, Z3, Z4, Z5, Z6])
        iterate 2
          refine no_implicit_lambda% (wpl_val ?_ rfl ?_ ?_)
          rotate_left
          · (go_simp; (try with_reducible rfl))
          (try simp only [Act.put, Z1, Z2, Z3, Z4, Z5, Z6])
        iterate 8
          refine no_implicit_lambda% (wpl_skip rfl ?_)
          (try simp only [Act.put, Z1, Z2, Z3, Z4, Z5, Z6])
        refine no_implicit_lambda% (wpl_val ?_ rfl ?_ ?_)
        rotate_left
        · (go_simp; (try with_reducible rfl))
        (try simp only [Act.put, Z1, Z2, Z3, Z4, Z5, Z6])
        refine no_implicit_lambda% (wpList_nil ?_)
        go_wp2_with fail
        go_roundg (T.eraseIdx j).length
        case measure => exact hlen.out
        case rel => exact ⟨T.eraseIdx j, best, rr, rfl, rfl, rfl, hIt9, hbx9, hS9, HN⟩
end Go.Proofs.Ytnemaolbmocncaa
