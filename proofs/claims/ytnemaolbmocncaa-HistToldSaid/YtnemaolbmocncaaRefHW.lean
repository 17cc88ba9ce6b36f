/- The walks of the document's answer: what a transaction wrote, who follows, who depends, who stands ahead. -/
import Derived.Test.YtnemaolbmocncaaHLaw
namespace Go.Proofs.Ytnemaolbmocncaa
open Go.RowKit
set_option linter.unusedSimpArgs false
set_option linter.unusedVariables false
attribute [local irreducible] wpList
set_option maxRecDepth 100000 in
set_option maxHeartbeats 4000000 in
theorem rwrites_any (x : Rec) (w : World) (h : SubAt w x) : Calls Try.prog 23 #[.agg (pcA x)] w fun e w' => e = .returned (.bool x.1.wr) ∧ Below w.heap.size w w' := by
  obtain ⟨⟨s, c, d, rs, ws⟩, rv, wv⟩ := x
  obtain ⟨ao, cap, e, _⟩ := h.wt
  dsimp only at e
  subst e
  have hB : Below w.heap.size w (w.alloc (.cells #[.int .u32 s, .int .u32 c, .bool d, rv, .slice ao ws.length cap] 36)) := (Below.refl _ _).alloc (Nat.le_refl _) _
  clear h
  unfold pcA P.Pst.wr
  dsimp only
  cases d with
  | false =>
    go_enter Try.func23, Try.ntmps23
    go_wp2_with fail
    go_ret
    exact ⟨by simp, hB⟩
  | true =>
    go_enter Try.func23, Try.ntmps23
    go_wp2_with fail
    go_ret
    exact ⟨by simp, hB⟩
set_option maxRecDepth 100000 in
set_option maxHeartbeats 4000000 in
theorem rend_any (x : Rec) (w : World) (h : SubAt w x) : Calls Try.prog 35 #[.agg (pcA x)] w fun e w' => e = .returned (.int .u32 x.1.en) ∧ Below w.heap.size w w' := by
  have hw := fun w' (hb : Below w.heap.size w w') => rwrites_any x w' (h.below hb)
  obtain ⟨⟨s, c, d, rs, ws⟩, rv, wv⟩ := x
  clear h
  unfold pcA at hw ⊢
  unfold P.Pst.en
  dsimp only at hw ⊢
  have hB : Below w.heap.size w (w.alloc (.cells #[.int .u32 s, .int .u32 c, .bool d, rv, wv] 36)) := (Below.refl _ _).alloc (Nat.le_refl _) _
  have hc := hw _ hB
  clear hw
  generalize (P.Pst.mk s c d rs ws).wr = b at *
  have hbox : Blk (w.alloc (.cells #[.int .u32 s, .int .u32 c, .bool d, rv, wv] 36)) w.heap.size #[.int .u32 s, .int .u32 c, .bool d, rv, wv] 36 := Blk.alloc_new _ _ _
  go_enter Try.func35, Try.ntmps35
  go_upto_region 1 with (fail)
  refine no_implicit_lambda% (wp_region_lit ?_)
  refine wpl_val (.agg #[.int .u32 s, .int .u32 c, .bool d, rv, wv]) rfl (run_load_cs rfl rfl hbox Try.underlying36 rfl zero36.2) ?_
  (try simp only [Act.put, Z1, Z2, Z3, Z4, Z5, Z6])
  refine wpl_call _ _ rfl (by go_simp) _ hc ?_
  rintro e w2 ⟨rfl, hb2⟩
  refine ⟨_, rfl, ?_⟩
  (try simp only [Act.put, Z1, Z2, Z3, Z4, Z5, Z6])
  refine no_implicit_lambda% (wpList_nil ?_)
  have hS := hB.trans (hb2.mono hB.size)
  replace hbox := hbox.below hb2
  clear hB hb2 hc
  cases b with
  | false =>
    go_upto_region 3 with (fail)
    refine no_implicit_lambda% (wp_region_lit ?_)
    refine no_implicit_lambda% (wpl_val ?_ rfl ?_ ?_)
    rotate_left
    · (go_simp; (try with_reducible rfl))
    (try simp only [Act.put, Z1, Z2, Z4, Z5, Z6])
    refine no_implicit_lambda% (wpl_val ?_ rfl ?_ ?_)
    rotate_left
    · (have c0 := (show w2.cell? ⟨w.heap.size, 0, none⟩ = some (.int .u32 s) by rw [hbox.cell]; rfl); go_simp; (try with_reducible rfl))
    (try simp only [Act.put, Z1, Z2, Z3, Z4, Z5, Z6])
    refine no_implicit_lambda% (wpl_val ?_ rfl ?_ ?_)
    rotate_left
    · (go_simp; (try with_reducible rfl))
    (try simp only [Act.put, Z1, Z2, Z3, Z4, Z5, Z6])
    refine no_implicit_lambda% (wpList_nil ?_)
    go_wp2_with fail
    go_ret
    exact ⟨rfl, hS⟩
  | true =>
    go_upto_region 2 with (fail)
    refine no_implicit_lambda% (wp_region_lit ?_)
    refine no_implicit_lambda% (wpl_val ?_ rfl ?_ ?_)
    rotate_left
    · (go_simp; (try with_reducible rfl))
    (try simp only [Act.put, Z1, Z2, Z4, Z5, Z6])
    refine no_implicit_lambda% (wpl_val ?_ rfl ?_ ?_)
    rotate_left
    · (have c0 := (show w2.cell? ⟨w.heap.size, 1, none⟩ = some (.int .u32 c) by rw [hbox.cell]; rfl); go_simp; (try with_reducible rfl))
    (try simp only [Act.put, Z1, Z2, Z3, Z4, Z5, Z6])
    refine no_implicit_lambda% (wpl_val ?_ rfl ?_ ?_)
    rotate_left
    · (go_simp; (try with_reducible rfl))
    (try simp only [Act.put, Z1, Z2, Z3, Z4, Z5, Z6])
    refine no_implicit_lambda% (wpList_nil ?_)
    go_wp2_with fail
    go_ret
    exact ⟨rfl, hS⟩
/-- Did a transaction commit a version of a page? -/
def wroB (a : P.Pst) (p : Int) : Bool := decide (p ∈ a.writes) && a.done
set_option maxRecDepth 100000 in
set_option maxHeartbeats 8000000 in
theorem wrote_any (x : Rec) (p : Int) (w : World) (h : SubAt w x) : Calls Try.prog 27 #[.agg (pcA x), .int .u16 p] w fun e w' => e = .returned (.bool (wroB x.1 p)) ∧ Below w.heap.size w w' := by
  have hbx : Blk (w.alloc (.cells (pcA x) 36)) w.heap.size (pcA x) 36 := Blk.alloc_new _ _ _
  have al := (Below.refl w.heap.size w).alloc (Nat.le_refl _) (.cells (pcA x) 36)
  have hsub := Lib.hid h
  clear h
  go_enter Try.func27, Try.ntmps27
  go_upto_region 1 with (fail)
  have HB := Lib.hid (And.intro hbx al)
  clear hbx al
  generalize w.alloc (.cells (pcA x) 36) = V at *
  obtain ⟨aow, capw, hwv, hcw, hwr⟩ := (hsub.out.below HB.out.2).wt
  have cw : V.cell? ⟨w.heap.size, 4, none⟩ = some (.slice aow x.1.writes.length capw) := by rw [HB.out.1.cell, ← hwv]; rfl
  have hwl := hsub.out.ok.wl
  replace hwv := Lib.hid hwv
  clear hwr
  refine no_implicit_lambda% (wp_region_lit ?_)
  refine no_implicit_lambda% (wpl_val ?_ rfl ?_ ?_)
  rotate_left
  · (go_simp; (try with_reducible rfl))
  (try simp only [Act.put, Z1, Z2, Z4, Z5, Z6])
  refine no_implicit_lambda% (wpl_val ?_ rfl ?_ ?_)
  rotate_left
  · (have c0 := cw; go_simp; (try with_reducible rfl))
  (try simp only [Act.put, Z1, Z2, Z3, Z4, Z5, Z6])
  refine no_implicit_lambda% (wpl_val ?_ rfl ?_ ?_)
  rotate_left
  · (go_simp; (try with_reducible rfl))
  (try simp only [Act.put, Z1, Z2, Z3, Z4, Z5, Z6])
  refine no_implicit_lambda% (wpl_val ?_ rfl ?_ ?_)
  rotate_left
  · (go_simp; (try with_reducible rfl))
  (try simp only [Act.put, Z1, Z2, Z3, Z4, Z5, Z6])
  refine no_implicit_lambda% (wpList_nil ?_)
  clear cw
  go_wp2_with fail
  go_loopw [10] (fun i wr => ∃ m : Nat, i = .int .i64 m ∧ m ≤ x.1.writes.length ∧ wr = V ∧ Hid (∀ j, j < m → x.1.done = true → x.1.writes[j]? ≠ some p)) (fun i _ => x.1.writes.length - (intOf i).toNat)
  case atStart => exact ⟨0, rfl, Nat.zero_le _, rfl, fun j hj => by omega⟩
  case round =>
    obtain ⟨m, rfl, hm, rfl, hT⟩ := hrel
    by_cases hlm : m < x.1.writes.length
    · have hlm' : (m : Int) < (x.1.writes.length : Int) := by omega
      obtain ⟨q, hq⟩ : ∃ q, x.1.writes[m]? = some q := ⟨_, List.getElem?_eq_getElem hlm⟩
      obtain ⟨b2, o2, rfl, hbl2, hr2⟩ := (wt_at (hsub.out.below HB.out.2) hwv.out) m q hq
      have hcp : wr.cell? ⟨b2, o2 + m, none⟩ = some (.int .u16 q) := by have := hr2 0 _ rfl; simpa using this
      clear hr2 hbl2
      replace hq := Lib.hid hq
      go_upto_region 3 with (fail)
      refine no_implicit_lambda% (wp_region_lit ?_)
      refine no_implicit_lambda% (wpl_val ?_ rfl ?_ ?_)
      rotate_left
      · (go_simp; (try with_reducible rfl))
      (try simp only [Act.put, Z1, Z2, Z4, Z5, Z6])
      refine no_implicit_lambda% (wpl_val ?_ rfl ?_ ?_)
      rotate_left
      · (have c0 := hcp; go_simp; (try with_reducible rfl))
      (try simp only [Act.put, Z1, Z2, Z3, Z4, Z5, Z6])
      refine no_implicit_lambda% (wpl_val ?_ rfl ?_ ?_)
      rotate_left
      · (go_simp; (try with_reducible rfl))
      (try simp only [Act.put, Z1, Z2, Z3, Z4, Z5, Z6])
      refine no_implicit_lambda% (wpList_nil ?_)
      clear hcp
      by_cases he : q = p
      · have he' : (q == p) = true := by simp [he]
        cases hd : x.1.done with
        | true =>
          have cd : wr.cell? ⟨w.heap.size, 2, none⟩ = some (.bool true) := by rw [HB.out.1.cell, ← hd]; rfl
          have HR : Hid (wroB x.1 p = true) := by
            unfold Hid wroB
            rw [hd]
            simp [List.mem_of_getElem? (he ▸ hq.out)]
          replace hd := Lib.hid hd
          clear he
          go_upto_region 4 with (fail)
          refine no_implicit_lambda% (wp_region_lit ?_)
          iterate 5
            refine no_implicit_lambda% (wpl_val ?_ rfl ?_ ?_)
            rotate_left
            · (go_simp; (try with_reducible rfl))
            (try simp only [Act.put, Z1, Z2, Z3, Z4, Z5, Z6])
          refine no_implicit_lambda% (wpl_val ?_ rfl ?_ ?_)
          rotate_left
          · (have c0 := cd; go_simp; (try with_reducible rfl))
          (try simp only [Act.put, Z1, Z2, Z3, Z4, Z5, Z6])
          refine no_implicit_lambda% (wpl_val ?_ rfl ?_ ?_)
          rotate_left
          · (go_simp; (try with_reducible rfl))
          (try simp only [Act.put, Z1, Z2, Z3, Z4, Z5, Z6])
          refine no_implicit_lambda% (wpList_nil ?_)
          clear cd
          go_wp2_with fail
          go_ret
          rw [HR.out]
          exact ⟨rfl, HB.out.2⟩
        | false =>
          have cd : wr.cell? ⟨w.heap.size, 2, none⟩ = some (.bool false) := by rw [HB.out.1.cell, ← hd]; rfl
          have hT2 : Hid (∀ j, j < m + 1 → x.1.done = true → x.1.writes[j]? ≠ some p) := fun j _ hd2 => by rw [hd] at hd2; cases hd2
          replace hd := Lib.hid hd
          clear he hT
          go_upto_region 4 with (fail)
          refine no_implicit_lambda% (wp_region_lit ?_)
          iterate 5
            refine no_implicit_lambda% (wpl_val ?_ rfl ?_ ?_)
            rotate_left
            · (go_simp; (try with_reducible rfl))
            (try simp only [Act.put, Z1, Z2, Z3, Z4, Z5, Z6])
          refine no_implicit_lambda% (wpl_val ?_ rfl ?_ ?_)
          rotate_left
          · (have c0 := cd; go_simp; (try with_reducible rfl))
          (try simp only [Act.put, Z1, Z2, Z3, Z4, Z5, Z6])
          refine no_implicit_lambda% (wpl_val ?_ rfl ?_ ?_)
          rotate_left
          · (go_simp; (try with_reducible rfl))
          (try simp only [Act.put, Z1, Z2, Z3, Z4, Z5, Z6])
          refine no_implicit_lambda% (wpList_nil ?_)
          clear cd
          go_wp2_with fail
          go_roundw
          case rel => exact ⟨m + 1, by go_num, by omega, by trivial, hT2⟩
          case measure => simp [intOf]; omega
      · have he' : (q == p) = false := by simp [he]
        have hT2 : Hid (∀ j, j < m + 1 → x.1.done = true → x.1.writes[j]? ≠ some p) := fun j hj hd e => by
          by_cases e2 : j = m
          · rw [e2, hq.out] at e
            exact he (Option.some.inj e)
          · exact hT.out j (by omega) hd e
        clear he hT
        go_upto_region 4 with (fail)
        refine no_implicit_lambda% (wp_region_lit ?_)
        iterate 4
          refine no_implicit_lambda% (wpl_val ?_ rfl ?_ ?_)
          rotate_left
          · (go_simp; (try with_reducible rfl))
          (try simp only [Act.put, Z1, Z2, Z3, Z4, Z5, Z6])
        iterate 2
          refine no_implicit_lambda% (wpl_skip rfl ?_)
          (try simp only [Act.put, Z1, Z2, Z3, Z4, Z5, Z6])
        refine no_implicit_lambda% (wpl_val ?_ rfl ?_ ?_)
        rotate_left
        · (go_simp; (try with_reducible rfl))
        (try simp only [Act.put, Z1, Z2, Z3, Z4, Z5, Z6])
        refine no_implicit_lambda% (wpList_nil ?_)
        go_wp2_with fail
        go_roundw
        case rel => exact ⟨m + 1, by go_num, by omega, by trivial, hT2⟩
        case measure => simp [intOf]; omega
    · obtain rfl : m = x.1.writes.length := by omega
      have HR : Hid (wroB x.1 p = false) := by
        unfold Hid wroB
        cases hd : x.1.done with
        | false => simp
        | true =>
          have : p ∉ x.1.writes := fun hp => by
            obtain ⟨j, hj⟩ := List.mem_iff_getElem?.1 hp
            exact hT.out j (List.getElem?_eq_some_iff.1 hj).1 hd hj
          simp [this]
      clear hT hlm
      go_wp2_with fail
      go_ret
      rw [HR.out]
      exact ⟨rfl, HB.out.2⟩
theorem wroB_iff {a : P.Pst} {p : Int} : wroB a p = true ↔ a.done = true ∧ p ∈ a.writes := by
  unfold wroB; simp [and_comm]
theorem wro_by {R : List Rec} {i : Nat} {x : Rec} (hx : R[i]? = some x) {p : Int} (h : wroB x.1 p = true) : P.by_ (his R) p x.1.commit i := ⟨x.1, his_get hx, (wroB_iff.1 h).1, (wroB_iff.1 h).2, rfl⟩
theorem by_wro {R : List Rec} {i : Nat} {p t : Int} (h : P.by_ (his R) p t i) : ∃ x, R[i]? = some x ∧ wroB x.1 p = true ∧ x.1.commit = t := by
  obtain ⟨a, h1, h2, h3, h4⟩ := h
  rw [List.getElem?_map] at h1
  obtain ⟨x, hx, rfl⟩ := Option.map_eq_some_iff.1 h1
  exact ⟨x, hx, wroB_iff.2 ⟨h2, h3⟩, h4⟩
set_option maxRecDepth 100000 in
set_option maxHeartbeats 8000000 in
theorem follows_any {w : World} {ao : Option Addr} {cap : Nat} {R : List Rec} (h : HAt w ao R) (hR : R.length ≤ 1000) (p ts : Int) {k : Nat} (hk : k < R.length) :
    Calls Try.prog 28 #[.slice ao R.length cap, .int .u16 p, .int .u32 ts, .int .i64 k] w fun e w' => ∃ c : Bool, e = .returned (.bool c) ∧ (c = true ↔ P.nxt (his R) p ts k) ∧ Below w.heap.size w w' := by
  have hz36 := zero36.1
  obtain ⟨y, hy⟩ : ∃ y, R[k]? = some y := ⟨_, List.getElem?_eq_getElem hk⟩
  obtain ⟨b, o, rfl, _, hr⟩ := h.row k y hy
  have hcb : Hid (∀ W, Below w.heap.size w W → W.cell? ⟨b, o + k * 5 + 1, none⟩ = some (.int .u32 y.1.commit)) := fun W hW => ((h.row.below hW).at' hy).2 1 _ rfl
  have hH := Lib.hid h
  have hmemy := Lib.hid (List.mem_of_getElem? hy)
  have hk' : (k : Int) < (R.length : Int) := by omega
  replace hr := Lib.hid hr
  replace hy := Lib.hid hy
  have h0 : Hid (Below w.heap.size w w) := Below.refl _ _
  clear h
  go_enter Try.func28, Try.ntmps28
  go_upto_region 1 with (fail)
  refine no_implicit_lambda% (wp_region_lit ?_)
  iterate 3
    refine no_implicit_lambda% (wpl_val ?_ rfl ?_ ?_)
    rotate_left
    · (go_simp; (try with_reducible rfl))
    (try simp only [Act.put, Z1, Z2, Z3, Z4, Z5, Z6])
  refine wpList_load_mid rfl 36 _ rfl b (o + k * 5) rfl (pcL y) _ hr.out Try.underlying36 rfl (size36' y) ?_
  (try simp only [Act.put, Z1, Z2, Z3, Z4, Z5, Z6])
  refine no_implicit_lambda% (wpl_val ?_ rfl ?_ ?_)
  rotate_left
  · (go_simp; (try with_reducible rfl))
  (try simp only [Act.put, Z1, Z2, Z3, Z4, Z5, Z6])
  have hcw := wrote_any y p w (hH.out.sub y hmemy.out)
  refine wpl_call _ _ rfl (by go_simp; exact rfl) _ hcw ?_
  rintro e w2 ⟨rfl, hb2⟩
  refine ⟨_, rfl, ?_⟩
  clear hcw hr
  (try simp only [Act.put, Z1, Z2, Z3, Z4, Z5, Z6])
  have c1 := hcb.out w2 hb2
  cases hw : wroB y.1 p with
  | false =>
    have HR : Hid (¬ P.nxt (his R) p ts k) := fun ⟨t', hb, _⟩ => by
      obtain ⟨x, hx, h1, _⟩ := by_wro hb
      rw [hy.out] at hx
      obtain rfl := Option.some.inj hx
      rw [hw] at h1; cases h1
    clear hw
    iterate 2
      refine no_implicit_lambda% (wpl_val ?_ rfl ?_ ?_)
      rotate_left
      · (go_simp; (try with_reducible rfl))
      (try simp only [Act.put, Z1, Z2, Z3, Z4, Z5, Z6])
    iterate 7
      refine no_implicit_lambda% (wpl_skip rfl ?_)
      (try simp only [Act.put, Z1, Z2, Z3, Z4, Z5, Z6])
    refine no_implicit_lambda% (wpl_val ?_ rfl ?_ ?_)
    rotate_left
    · (go_simp; (try with_reducible rfl))
    (try simp only [Act.put, Z1, Z2, Z3, Z4, Z5, Z6])
    refine no_implicit_lambda% (wpList_nil ?_)
    clear c1
    go_wp2_with fail
    go_ret
    exact ⟨false, rfl, ⟨fun e => (by cases e), fun e => absurd e HR.out⟩, hb2⟩
  | true =>
    replace hw := Lib.hid hw
    by_cases hle : y.1.commit ≤ ts
    · have hle' : decide (y.1.commit ≤ ts) = true := by simp [hle]
      have HR : Hid (¬ P.nxt (his R) p ts k) := fun ⟨t', hb, ht, _⟩ => by
        obtain ⟨x, hx, _, h1⟩ := by_wro hb
        rw [hy.out] at hx
        obtain rfl := Option.some.inj hx
        omega
      iterate 6
        refine no_implicit_lambda% (wpl_val ?_ rfl ?_ ?_)
        rotate_left
        · (go_simp; (try with_reducible rfl))
        (try simp only [Act.put, Z1, Z2, Z3, Z4, Z5, Z6])
      refine no_implicit_lambda% (wpl_val ?_ rfl ?_ ?_)
      rotate_left
      · (have c0 := c1; go_simp; (try with_reducible rfl))
      (try simp only [Act.put, Z1, Z2, Z3, Z4, Z5, Z6])
      iterate 3
        refine no_implicit_lambda% (wpl_val ?_ rfl ?_ ?_)
        rotate_left
        · (go_simp; (try with_reducible rfl))
        (try simp only [Act.put, Z1, Z2, Z3, Z4, Z5, Z6])
      refine no_implicit_lambda% (wpList_nil ?_)
      clear c1 hle hle'
      go_wp2_with fail
      go_ret
      exact ⟨false, rfl, ⟨fun e => (by cases e), fun e => absurd e HR.out⟩, hb2⟩
    · have hle' : decide (y.1.commit ≤ ts) = false := by simp; omega
      iterate 6
        refine no_implicit_lambda% (wpl_val ?_ rfl ?_ ?_)
        rotate_left
        · (go_simp; (try with_reducible rfl))
        (try simp only [Act.put, Z1, Z2, Z3, Z4, Z5, Z6])
      refine no_implicit_lambda% (wpl_val ?_ rfl ?_ ?_)
      rotate_left
      · (have c0 := c1; go_simp; (try with_reducible rfl))
      (try simp only [Act.put, Z1, Z2, Z3, Z4, Z5, Z6])
      iterate 3
        refine no_implicit_lambda% (wpl_val ?_ rfl ?_ ?_)
        rotate_left
        · (go_simp; (try with_reducible rfl))
        (try simp only [Act.put, Z1, Z2, Z3, Z4, Z5, Z6])
      refine no_implicit_lambda% (wpList_nil ?_)
      have hgt : Hid (ts < y.1.commit) := by unfold Hid; omega
      clear c1 hle hle'
      go_upto_region 3 with (fail)
      refine no_implicit_lambda% (wp_region_lit ?_)
      refine no_implicit_lambda% (wpl_val ?_ rfl ?_ ?_)
      rotate_left
      · (go_simp; (try with_reducible rfl))
      (try simp only [Act.put, Z1, Z2, Z4, Z5, Z6])
      refine no_implicit_lambda% (wpl_val ?_ rfl ?_ ?_)
      rotate_left
      · (go_simp; (try with_reducible rfl))
      (try simp only [Act.put, Z1, Z2, Z3, Z4, Z5, Z6])
      refine no_implicit_lambda% (wpl_val ?_ rfl ?_ ?_)
      rotate_left
      · (go_simp; (try with_reducible rfl))
      (try simp only [Act.put, Z1, Z2, Z3, Z4, Z5, Z6])
      refine no_implicit_lambda% (wpList_nil ?_)
      have HB := Lib.hid hb2
      clear hb2
      go_wp2_with fail
      go_loopw [29] (fun i wr => ∃ m : Nat, i = .int .i64 m ∧ m ≤ R.length ∧ Below w.heap.size w wr ∧ Hid (∀ (j : Nat) (x : Rec), j < m → R[j]? = some x → wroB x.1 p = true → ts < x.1.commit → y.1.commit ≤ x.1.commit)) (fun i _ => R.length - (intOf i).toNat)
      case atStart => exact ⟨0, rfl, Nat.zero_le _, HB.out, fun j x hj => by omega⟩
      case round =>
        clear HB
        obtain ⟨m, rfl, hm, hS, hT⟩ := hrel
        by_cases hlm : m < R.length
        · have hlm' : (m : Int) < (R.length : Int) := by omega
          obtain ⟨x, hx⟩ : ∃ x, R[m]? = some x := ⟨_, List.getElem?_eq_getElem hlm⟩
          have hHr := hH.out.below hS
          obtain ⟨hbl, hr⟩ := hHr.row.at' hx
          replace hr := Lib.hid hr
          have hone := Lib.hid (hHr.sub x (List.mem_of_getElem? hx)).one
          have hmem := Lib.hid (List.mem_of_getElem? hx)
          replace hx := Lib.hid hx
          clear hHr
          go_upto_region 5 with (fail)
          refine no_implicit_lambda% (wp_region_lit ?_)
          refine no_implicit_lambda% (wpl_val ?_ rfl ?_ ?_)
          rotate_left
          · (go_simp; (try with_reducible rfl))
          (try simp only [Act.put, Z1, Z2, Z4, Z5, Z6])
          refine wpList_load_mid rfl 36 _ rfl b (o + m * 5) rfl (pcL x) _ hr.out Try.underlying36 rfl (size36' x) ?_
          (try simp only [Act.put, Z1, Z2, Z3, Z4, Z5, Z6])
          refine wpl_alloc 36 (pcA noR) rfl rfl hz36 ?_
          (try simp only [Act.put, Z1, Z2, Z3, Z4, Z5, Z6])
          refine wpList_store_fr rfl 36 _ _ rfl wr.heap.size (pcA x) rfl rfl 36 _ (Blk.alloc_new _ _ _) (size36 x) rfl hone.out ?_
          intro w9 hB9 hF9
          (try simp only [Act.put, Z1, Z2, Z3, Z4, Z5, Z6])
          refine no_implicit_lambda% (wpList_nil ?_)
          replace hS := hS.trans ((box_below hF9).mono hS.size)
          clear hF9 hr hbl hone
          generalize wr.heap.size = bx at *
          have ev : ∀ t : Prop, Hid (∀ (j : Nat) (z : Rec), j < m + 1 → R[j]? = some z → wroB z.1 p = true → ts < z.1.commit → y.1.commit ≤ z.1.commit) → Hid (∀ (j : Nat) (z : Rec), j < m + 1 → R[j]? = some z → wroB z.1 p = true → ts < z.1.commit → y.1.commit ≤ z.1.commit) := fun _ h => h
          clear ev
          have hT2 : (wroB x.1 p = true → ts < x.1.commit → y.1.commit ≤ x.1.commit) → Hid (∀ (j : Nat) (z : Rec), j < m + 1 → R[j]? = some z → wroB z.1 p = true → ts < z.1.commit → y.1.commit ≤ z.1.commit) := fun hc j z hj hz h1 h2 => by
            by_cases e : j = m
            · rw [e, hx.out] at hz
              obtain rfl := Option.some.inj hz
              exact hc h1 h2
            · exact hT.out j z (by omega) hz h1 h2
          replace hT2 := Lib.hid hT2
          go_upto_region 6 with (fail)
          refine wp_region_held (S := (fun w' => Blk w' bx (pcA x) 36 ∧ Below w.heap.size w w')) (by kernel_rfl) ?_
          change wpAnyH _ _ _ _ _ _ _ _ (World.drew _)
          (try simp only [Act.put])
          have hS2 := And.intro hB9.drew hS.drew
          clear hB9 hS
          generalize w9.drew = V at *
          have hS := hS2
          clear hS2
          refine anyH_if 0 _ (.agg (pcA x)) rfl (by kernel_rfl) (by kernel_rfl) (by kernel_rfl) (fun _ _ _ h => h) rfl (fun w' h => run_load_cs rfl rfl h.1 Try.underlying36 rfl (size36 x)) hS ?_
          (try simp only [Act.put, Z1, Z2, Z3, Z4, Z5, Z6])
          refine anyH_pure 1 _ ?_ rfl (by kernel_rfl) (by kernel_rfl) (by kernel_rfl) (fun _ _ _ h => h) rfl ?_ hS ?_
          rotate_left
          · (intro w'; go_simp; (try with_reducible rfl))
          (try simp only [Act.put, Z1, Z2, Z3, Z4, Z5, Z6])
          have hcx := wrote_any x p V ((hH.out.below hS.2).sub x hmem.out)
          refine anyH_callR 2 _ _ _ _ (by kernel_rfl) rfl rfl (by go_simp) (_) (hcx) ?_
          intro w5 hb5
          replace hS := And.intro (hS.1.below hb5) (hS.2.trans (hb5.mono hS.2.size))
          refine ⟨hS, ?_⟩
          clear hcx hb5
          (try simp only [Act.put, Z1, Z2, Z3, Z4, Z5, Z6])
          cases hwx : wroB x.1 p with
          | false =>
            have hT3 := hT2.out (fun e => by rw [hwx] at e; cases e)
            clear hT2 hT hwx
            refine anyH_pure 3 _ ?_ rfl (by kernel_rfl) (by kernel_rfl) (by kernel_rfl) (fun _ _ _ h => h) rfl ?_ hS ?_
            rotate_left
            · (intro w'; go_simp; (try with_reducible rfl))
            (try simp only [Act.put, Z1, Z2, Z3, Z4, Z5, Z6])
            refine anyH_skip 4 _ rfl (by kernel_rfl) (by kernel_rfl) (by kernel_rfl) (fun _ _ _ h => h) rfl hS ?_
            (try simp only [Act.put, Z1, Z2, Z3, Z4, Z5, Z6])
            refine anyH_skip 5 _ rfl (by kernel_rfl) (by kernel_rfl) (by kernel_rfl) (fun _ _ _ h => h) rfl hS ?_
            (try simp only [Act.put, Z1, Z2, Z3, Z4, Z5, Z6])
            refine anyH_skip 6 _ rfl (by kernel_rfl) (by kernel_rfl) (by kernel_rfl) (fun _ _ _ h => h) rfl hS ?_
            (try simp only [Act.put, Z1, Z2, Z3, Z4, Z5, Z6])
            refine anyH_skip 7 _ rfl (by kernel_rfl) (by kernel_rfl) (by kernel_rfl) (fun _ _ _ h => h) rfl hS ?_
            (try simp only [Act.put, Z1, Z2, Z3, Z4, Z5, Z6])
            refine anyH_pure 8 _ ?_ rfl (by kernel_rfl) (by kernel_rfl) (by kernel_rfl) (fun _ _ _ h => h) rfl ?_ hS ?_
            rotate_left
            · (intro w'; go_simp; (try with_reducible rfl))
            (try simp only [Act.put, Z1, Z2, Z3, Z4, Z5, Z6])
            refine anyH_pure 9 _ ?_ rfl (by kernel_rfl) (by kernel_rfl) (by kernel_rfl) (fun _ _ _ h => h) rfl ?_ hS ?_
            rotate_left
            · (intro w'; go_simp; (try with_reducible rfl))
            (try simp only [Act.put, Z1, Z2, Z3, Z4, Z5, Z6])
            refine anyH_skip 10 _ rfl (by kernel_rfl) (by kernel_rfl) (by kernel_rfl) (fun _ _ _ h => h) rfl hS ?_
            (try simp only [Act.put, Z1, Z2, Z3, Z4, Z5, Z6])
            refine anyH_skip 11 _ rfl (by kernel_rfl) (by kernel_rfl) (by kernel_rfl) (fun _ _ _ h => h) rfl hS ?_
            (try simp only [Act.put, Z1, Z2, Z3, Z4, Z5, Z6])
            refine anyH_skip 12 _ rfl (by kernel_rfl) (by kernel_rfl) (by kernel_rfl) (fun _ _ _ h => h) rfl hS ?_
            (try simp only [Act.put, Z1, Z2, Z3, Z4, Z5, Z6])
            refine anyH_skip 13 _ rfl (by kernel_rfl) (by kernel_rfl) (by kernel_rfl) (fun _ _ _ h => h) rfl hS ?_
            (try simp only [Act.put, Z1, Z2, Z3, Z4, Z5, Z6])
            refine anyH_skip 14 _ rfl (by kernel_rfl) (by kernel_rfl) (by kernel_rfl) (fun _ _ _ h => h) rfl hS ?_
            (try simp only [Act.put, Z1, Z2, Z3, Z4, Z5, Z6])
            refine anyH_skip 15 _ rfl (by kernel_rfl) (by kernel_rfl) (by kernel_rfl) (fun _ _ _ h => h) rfl hS ?_
            (try simp only [Act.put, Z1, Z2, Z3, Z4, Z5, Z6])
            refine anyH_skip 16 _ rfl (by kernel_rfl) (by kernel_rfl) (by kernel_rfl) (fun _ _ _ h => h) rfl hS ?_
            (try simp only [Act.put, Z1, Z2, Z3, Z4, Z5, Z6])
            refine anyH_skip 17 _ rfl (by kernel_rfl) (by kernel_rfl) (by kernel_rfl) (fun _ _ _ h => h) rfl hS ?_
            (try simp only [Act.put, Z1, Z2, Z3, Z4, Z5, Z6])
            refine anyH_pure 18 _ ?_ rfl (by kernel_rfl) (by kernel_rfl) (by kernel_rfl) (fun _ _ _ h => h) rfl ?_ hS ?_
            rotate_left
            · (intro w'; go_simp; (try with_reducible rfl))
            (try simp only [Act.put, Z1, Z2, Z3, Z4, Z5, Z6])
            refine wpAnyH_done (by kernel_rfl) ?_ _
            go_wp2_with fail
            go_roundw
            case rel => exact ⟨m + 1, by go_num, by omega, hS.2, hT3⟩
            case measure => simp [intOf]; omega
          | true =>
            replace hwx := Lib.hid hwx
            by_cases h1 : ts < x.1.commit
            · have h1' : decide (ts < x.1.commit) = true := by simp [h1]
              by_cases h2 : x.1.commit < y.1.commit
              · have h2' : decide (x.1.commit < y.1.commit) = true := by simp [h2]
                have HR : Hid (¬ P.nxt (his R) p ts k) := fun ⟨t', hb, _, hmin⟩ => by
                  obtain ⟨z, hz, _, h3⟩ := by_wro hb
                  rw [hy.out] at hz
                  obtain rfl := Option.some.inj hz
                  have := hmin _ _ (wro_by hx.out hwx.out) h1
                  omega
                refine anyH_pure 3 _ ?_ rfl (by kernel_rfl) (by kernel_rfl) (by kernel_rfl) (fun _ _ _ h => h) rfl ?_ hS ?_
                rotate_left
                · (intro w'; go_simp; (try with_reducible rfl))
                (try simp only [Act.put, Z1, Z2, Z3, Z4, Z5, Z6])
                refine anyH_pure 4 _ ?_ rfl (by kernel_rfl) (by kernel_rfl) (by kernel_rfl) (fun _ _ _ h => h) rfl ?_ hS ?_
                rotate_left
                · (intro w'; go_simp; (try with_reducible rfl))
                (try simp only [Act.put, Z1, Z2, Z3, Z4, Z5, Z6])
                refine anyH_if 5 _ ?_ rfl (by kernel_rfl) (by kernel_rfl) (by kernel_rfl) (fun _ _ _ h => h) rfl ?_ hS ?_
                rotate_left
                · (intro w' h; have c0 := (show w'.cell? ⟨bx, 1, none⟩ = some (.int .u32 x.1.commit) by rw [h.1.cell]; rfl); go_simp; (try with_reducible rfl))
                (try simp only [Act.put, Z1, Z2, Z3, Z4, Z5, Z6])
                refine anyH_pure 6 _ ?_ rfl (by kernel_rfl) (by kernel_rfl) (by kernel_rfl) (fun _ _ _ h => h) rfl ?_ hS ?_
                rotate_left
                · (intro w'; go_simp; (try with_reducible rfl))
                (try simp only [Act.put, Z1, Z2, Z3, Z4, Z5, Z6])
                refine anyH_pure 7 _ ?_ rfl (by kernel_rfl) (by kernel_rfl) (by kernel_rfl) (fun _ _ _ h => h) rfl ?_ hS ?_
                rotate_left
                · (intro w'; go_simp; (try with_reducible rfl))
                (try simp only [Act.put, Z1, Z2, Z3, Z4, Z5, Z6])
                refine anyH_pure 8 _ ?_ rfl (by kernel_rfl) (by kernel_rfl) (by kernel_rfl) (fun _ _ _ h => h) rfl ?_ hS ?_
                rotate_left
                · (intro w'; go_simp; (try with_reducible rfl))
                (try simp only [Act.put, Z1, Z2, Z3, Z4, Z5, Z6])
                refine anyH_pure 9 _ ?_ rfl (by kernel_rfl) (by kernel_rfl) (by kernel_rfl) (fun _ _ _ h => h) rfl ?_ hS ?_
                rotate_left
                · (intro w'; go_simp; (try with_reducible rfl))
                (try simp only [Act.put, Z1, Z2, Z3, Z4, Z5, Z6])
                refine anyH_pure 10 _ ?_ rfl (by kernel_rfl) (by kernel_rfl) (by kernel_rfl) (fun _ _ _ h => h) rfl ?_ hS ?_
                rotate_left
                · (intro w'; go_simp; (try with_reducible rfl))
                (try simp only [Act.put, Z1, Z2, Z3, Z4, Z5, Z6])
                refine anyH_if 11 _ ?_ rfl (by kernel_rfl) (by kernel_rfl) (by kernel_rfl) (fun _ _ _ h => h) rfl ?_ hS ?_
                rotate_left
                · (intro w' h; have c0 := (show w'.cell? ⟨bx, 1, none⟩ = some (.int .u32 x.1.commit) by rw [h.1.cell]; rfl); go_simp; (try with_reducible rfl))
                (try simp only [Act.put, Z1, Z2, Z3, Z4, Z5, Z6])
                refine anyH_pure 12 _ ?_ rfl (by kernel_rfl) (by kernel_rfl) (by kernel_rfl) (fun _ _ _ h => h) rfl ?_ hS ?_
                rotate_left
                · (intro w'; go_simp; (try with_reducible rfl))
                (try simp only [Act.put, Z1, Z2, Z3, Z4, Z5, Z6])
                refine anyH_pure 13 _ ?_ rfl (by kernel_rfl) (by kernel_rfl) (by kernel_rfl) (fun _ _ _ h => h) rfl ?_ hS ?_
                rotate_left
                · (intro w'; go_simp; (try with_reducible rfl))
                (try simp only [Act.put, Z1, Z2, Z3, Z4, Z5, Z6])
                refine anyH_pure 14 _ ?_ rfl (by kernel_rfl) (by kernel_rfl) (by kernel_rfl) (fun _ _ _ h => h) rfl ?_ hS ?_
                rotate_left
                · (intro w'; go_simp; (try with_reducible rfl))
                (try simp only [Act.put, Z1, Z2, Z3, Z4, Z5, Z6])
                refine anyH_pure 15 _ ?_ rfl (by kernel_rfl) (by kernel_rfl) (by kernel_rfl) (fun _ _ _ h => h) rfl ?_ hS ?_
                rotate_left
                · (intro w'; go_simp; (try with_reducible rfl))
                (try simp only [Act.put, Z1, Z2, Z3, Z4, Z5, Z6])
                refine anyH_if 16 _ ?_ rfl (by kernel_rfl) (by kernel_rfl) (by kernel_rfl) (fun _ _ _ h => h) rfl ?_ hS ?_
                rotate_left
                · (intro w' h; have c0 := hcb.out w' h.2; go_simp; (try with_reducible rfl))
                (try simp only [Act.put, Z1, Z2, Z3, Z4, Z5, Z6])
                refine anyH_pure 17 _ ?_ rfl (by kernel_rfl) (by kernel_rfl) (by kernel_rfl) (fun _ _ _ h => h) rfl ?_ hS ?_
                rotate_left
                · (intro w'; go_simp; (try with_reducible rfl))
                (try simp only [Act.put, Z1, Z2, Z3, Z4, Z5, Z6])
                refine anyH_pure 18 _ ?_ rfl (by kernel_rfl) (by kernel_rfl) (by kernel_rfl) (fun _ _ _ h => h) rfl ?_ hS ?_
                rotate_left
                · (intro w'; go_simp; (try with_reducible rfl))
                (try simp only [Act.put, Z1, Z2, Z3, Z4, Z5, Z6])
                refine wpAnyH_done (by kernel_rfl) ?_ _
                clear h1 h2 h1' h2'
                go_wp2_with fail
                go_ret
                exact ⟨false, rfl, ⟨fun e => (by cases e), fun e => absurd e HR.out⟩, hS.2⟩
              · have h2' : decide (x.1.commit < y.1.commit) = false := by simp; omega
                have hT3 := hT2.out (fun _ _ => by omega)
                clear hT2 hT
                refine anyH_pure 3 _ ?_ rfl (by kernel_rfl) (by kernel_rfl) (by kernel_rfl) (fun _ _ _ h => h) rfl ?_ hS ?_
                rotate_left
                · (intro w'; go_simp; (try with_reducible rfl))
                (try simp only [Act.put, Z1, Z2, Z3, Z4, Z5, Z6])
                refine anyH_pure 4 _ ?_ rfl (by kernel_rfl) (by kernel_rfl) (by kernel_rfl) (fun _ _ _ h => h) rfl ?_ hS ?_
                rotate_left
                · (intro w'; go_simp; (try with_reducible rfl))
                (try simp only [Act.put, Z1, Z2, Z3, Z4, Z5, Z6])
                refine anyH_if 5 _ ?_ rfl (by kernel_rfl) (by kernel_rfl) (by kernel_rfl) (fun _ _ _ h => h) rfl ?_ hS ?_
                rotate_left
                · (intro w' h; have c0 := (show w'.cell? ⟨bx, 1, none⟩ = some (.int .u32 x.1.commit) by rw [h.1.cell]; rfl); go_simp; (try with_reducible rfl))
                (try simp only [Act.put, Z1, Z2, Z3, Z4, Z5, Z6])
                refine anyH_pure 6 _ ?_ rfl (by kernel_rfl) (by kernel_rfl) (by kernel_rfl) (fun _ _ _ h => h) rfl ?_ hS ?_
                rotate_left
                · (intro w'; go_simp; (try with_reducible rfl))
                (try simp only [Act.put, Z1, Z2, Z3, Z4, Z5, Z6])
                refine anyH_pure 7 _ ?_ rfl (by kernel_rfl) (by kernel_rfl) (by kernel_rfl) (fun _ _ _ h => h) rfl ?_ hS ?_
                rotate_left
                · (intro w'; go_simp; (try with_reducible rfl))
                (try simp only [Act.put, Z1, Z2, Z3, Z4, Z5, Z6])
                refine anyH_pure 8 _ ?_ rfl (by kernel_rfl) (by kernel_rfl) (by kernel_rfl) (fun _ _ _ h => h) rfl ?_ hS ?_
                rotate_left
                · (intro w'; go_simp; (try with_reducible rfl))
                (try simp only [Act.put, Z1, Z2, Z3, Z4, Z5, Z6])
                refine anyH_pure 9 _ ?_ rfl (by kernel_rfl) (by kernel_rfl) (by kernel_rfl) (fun _ _ _ h => h) rfl ?_ hS ?_
                rotate_left
                · (intro w'; go_simp; (try with_reducible rfl))
                (try simp only [Act.put, Z1, Z2, Z3, Z4, Z5, Z6])
                refine anyH_pure 10 _ ?_ rfl (by kernel_rfl) (by kernel_rfl) (by kernel_rfl) (fun _ _ _ h => h) rfl ?_ hS ?_
                rotate_left
                · (intro w'; go_simp; (try with_reducible rfl))
                (try simp only [Act.put, Z1, Z2, Z3, Z4, Z5, Z6])
                refine anyH_if 11 _ ?_ rfl (by kernel_rfl) (by kernel_rfl) (by kernel_rfl) (fun _ _ _ h => h) rfl ?_ hS ?_
                rotate_left
                · (intro w' h; have c0 := (show w'.cell? ⟨bx, 1, none⟩ = some (.int .u32 x.1.commit) by rw [h.1.cell]; rfl); go_simp; (try with_reducible rfl))
                (try simp only [Act.put, Z1, Z2, Z3, Z4, Z5, Z6])
                refine anyH_pure 12 _ ?_ rfl (by kernel_rfl) (by kernel_rfl) (by kernel_rfl) (fun _ _ _ h => h) rfl ?_ hS ?_
                rotate_left
                · (intro w'; go_simp; (try with_reducible rfl))
                (try simp only [Act.put, Z1, Z2, Z3, Z4, Z5, Z6])
                refine anyH_pure 13 _ ?_ rfl (by kernel_rfl) (by kernel_rfl) (by kernel_rfl) (fun _ _ _ h => h) rfl ?_ hS ?_
                rotate_left
                · (intro w'; go_simp; (try with_reducible rfl))
                (try simp only [Act.put, Z1, Z2, Z3, Z4, Z5, Z6])
                refine anyH_pure 14 _ ?_ rfl (by kernel_rfl) (by kernel_rfl) (by kernel_rfl) (fun _ _ _ h => h) rfl ?_ hS ?_
                rotate_left
                · (intro w'; go_simp; (try with_reducible rfl))
                (try simp only [Act.put, Z1, Z2, Z3, Z4, Z5, Z6])
                refine anyH_pure 15 _ ?_ rfl (by kernel_rfl) (by kernel_rfl) (by kernel_rfl) (fun _ _ _ h => h) rfl ?_ hS ?_
                rotate_left
                · (intro w'; go_simp; (try with_reducible rfl))
                (try simp only [Act.put, Z1, Z2, Z3, Z4, Z5, Z6])
                refine anyH_if 16 _ ?_ rfl (by kernel_rfl) (by kernel_rfl) (by kernel_rfl) (fun _ _ _ h => h) rfl ?_ hS ?_
                rotate_left
                · (intro w' h; have c0 := hcb.out w' h.2; go_simp; (try with_reducible rfl))
                (try simp only [Act.put, Z1, Z2, Z3, Z4, Z5, Z6])
                refine anyH_pure 17 _ ?_ rfl (by kernel_rfl) (by kernel_rfl) (by kernel_rfl) (fun _ _ _ h => h) rfl ?_ hS ?_
                rotate_left
                · (intro w'; go_simp; (try with_reducible rfl))
                (try simp only [Act.put, Z1, Z2, Z3, Z4, Z5, Z6])
                refine anyH_pure 18 _ ?_ rfl (by kernel_rfl) (by kernel_rfl) (by kernel_rfl) (fun _ _ _ h => h) rfl ?_ hS ?_
                rotate_left
                · (intro w'; go_simp; (try with_reducible rfl))
                (try simp only [Act.put, Z1, Z2, Z3, Z4, Z5, Z6])
                refine wpAnyH_done (by kernel_rfl) ?_ _
                clear h1 h2 h1' h2'
                go_wp2_with fail
                go_roundw
                case rel => exact ⟨m + 1, by go_num, by omega, hS.2, hT3⟩
                case measure => simp [intOf]; omega
            · have h1' : decide (ts < x.1.commit) = false := by simp; omega
              have hT3 := hT2.out (fun _ e => absurd e h1)
              clear hT2 hT
              refine anyH_pure 3 _ ?_ rfl (by kernel_rfl) (by kernel_rfl) (by kernel_rfl) (fun _ _ _ h => h) rfl ?_ hS ?_
              rotate_left
              · (intro w'; go_simp; (try with_reducible rfl))
              (try simp only [Act.put, Z1, Z2, Z3, Z4, Z5, Z6])
              refine anyH_pure 4 _ ?_ rfl (by kernel_rfl) (by kernel_rfl) (by kernel_rfl) (fun _ _ _ h => h) rfl ?_ hS ?_
              rotate_left
              · (intro w'; go_simp; (try with_reducible rfl))
              (try simp only [Act.put, Z1, Z2, Z3, Z4, Z5, Z6])
              refine anyH_if 5 _ ?_ rfl (by kernel_rfl) (by kernel_rfl) (by kernel_rfl) (fun _ _ _ h => h) rfl ?_ hS ?_
              rotate_left
              · (intro w' h; have c0 := (show w'.cell? ⟨bx, 1, none⟩ = some (.int .u32 x.1.commit) by rw [h.1.cell]; rfl); go_simp; (try with_reducible rfl))
              (try simp only [Act.put, Z1, Z2, Z3, Z4, Z5, Z6])
              refine anyH_pure 6 _ ?_ rfl (by kernel_rfl) (by kernel_rfl) (by kernel_rfl) (fun _ _ _ h => h) rfl ?_ hS ?_
              rotate_left
              · (intro w'; go_simp; (try with_reducible rfl))
              (try simp only [Act.put, Z1, Z2, Z3, Z4, Z5, Z6])
              refine anyH_pure 7 _ ?_ rfl (by kernel_rfl) (by kernel_rfl) (by kernel_rfl) (fun _ _ _ h => h) rfl ?_ hS ?_
              rotate_left
              · (intro w'; go_simp; (try with_reducible rfl))
              (try simp only [Act.put, Z1, Z2, Z3, Z4, Z5, Z6])
              refine anyH_pure 8 _ ?_ rfl (by kernel_rfl) (by kernel_rfl) (by kernel_rfl) (fun _ _ _ h => h) rfl ?_ hS ?_
              rotate_left
              · (intro w'; go_simp; (try with_reducible rfl))
              (try simp only [Act.put, Z1, Z2, Z3, Z4, Z5, Z6])
              refine anyH_pure 9 _ ?_ rfl (by kernel_rfl) (by kernel_rfl) (by kernel_rfl) (fun _ _ _ h => h) rfl ?_ hS ?_
              rotate_left
              · (intro w'; go_simp; (try with_reducible rfl))
              (try simp only [Act.put, Z1, Z2, Z3, Z4, Z5, Z6])
              refine anyH_skip 10 _ rfl (by kernel_rfl) (by kernel_rfl) (by kernel_rfl) (fun _ _ _ h => h) rfl hS ?_
              (try simp only [Act.put, Z1, Z2, Z3, Z4, Z5, Z6])
              refine anyH_skip 11 _ rfl (by kernel_rfl) (by kernel_rfl) (by kernel_rfl) (fun _ _ _ h => h) rfl hS ?_
              (try simp only [Act.put, Z1, Z2, Z3, Z4, Z5, Z6])
              refine anyH_skip 12 _ rfl (by kernel_rfl) (by kernel_rfl) (by kernel_rfl) (fun _ _ _ h => h) rfl hS ?_
              (try simp only [Act.put, Z1, Z2, Z3, Z4, Z5, Z6])
              refine anyH_skip 13 _ rfl (by kernel_rfl) (by kernel_rfl) (by kernel_rfl) (fun _ _ _ h => h) rfl hS ?_
              (try simp only [Act.put, Z1, Z2, Z3, Z4, Z5, Z6])
              refine anyH_skip 14 _ rfl (by kernel_rfl) (by kernel_rfl) (by kernel_rfl) (fun _ _ _ h => h) rfl hS ?_
              (try simp only [Act.put, Z1, Z2, Z3, Z4, Z5, Z6])
              refine anyH_skip 15 _ rfl (by kernel_rfl) (by kernel_rfl) (by kernel_rfl) (fun _ _ _ h => h) rfl hS ?_
              (try simp only [Act.put, Z1, Z2, Z3, Z4, Z5, Z6])
              refine anyH_skip 16 _ rfl (by kernel_rfl) (by kernel_rfl) (by kernel_rfl) (fun _ _ _ h => h) rfl hS ?_
              (try simp only [Act.put, Z1, Z2, Z3, Z4, Z5, Z6])
              refine anyH_skip 17 _ rfl (by kernel_rfl) (by kernel_rfl) (by kernel_rfl) (fun _ _ _ h => h) rfl hS ?_
              (try simp only [Act.put, Z1, Z2, Z3, Z4, Z5, Z6])
              refine anyH_pure 18 _ ?_ rfl (by kernel_rfl) (by kernel_rfl) (by kernel_rfl) (fun _ _ _ h => h) rfl ?_ hS ?_
              rotate_left
              · (intro w'; go_simp; (try with_reducible rfl))
              (try simp only [Act.put, Z1, Z2, Z3, Z4, Z5, Z6])
              refine wpAnyH_done (by kernel_rfl) ?_ _
              clear h1 h1'
              go_wp2_with fail
              go_roundw
              case rel => exact ⟨m + 1, by go_num, by omega, hS.2, hT3⟩
              case measure => simp [intOf]; omega
        · obtain rfl : m = R.length := by omega
          have HR : Hid (P.nxt (his R) p ts k) := ⟨y.1.commit, wro_by hy.out hw.out, hgt.out, fun t'' k' hb ht => by
            obtain ⟨z, hz, h1, h2⟩ := by_wro hb
            have := hT.out k' z (List.getElem?_eq_some_iff.1 hz).1 hz h1 (by omega)
            omega⟩
          clear hT hlm
          go_wp2_with fail
          go_ret
          exact ⟨true, rfl, ⟨fun _ => HR.out, fun _ => rfl⟩, hS⟩
end Go.Proofs.Ytnemaolbmocncaa
