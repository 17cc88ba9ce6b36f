/- The walk of the document's Depends. -/
import Derived.Test.YtnemaolbmocncaaRefH2W
namespace Go.Proofs.Ytnemaolbmocncaa
open Go.RowKit
set_option linter.unusedSimpArgs false
set_option linter.unusedVariables false
attribute [local irreducible] wpList
theorem dep_iff {R : List Rec} {i k : Nat} {x y : Rec} (hx : R[i]? = some x) (hy : R[k]? = some y) (hne : i ≠ k) (hdx : x.1.done = true) (hdy : y.1.done = true) :
    P.dep (his R) i k ↔ (∃ v ∈ y.1.reads, wroB x.1 v.1 = true ∧ x.1.commit = v.2) ∨ ∃ p ∈ x.1.writes, P.nxt (his R) p x.1.commit k := by
  constructor
  · rintro ⟨_, ⟨p, t, h1, h2⟩ | ⟨v, ⟨a, h1, _, h2⟩, h3⟩⟩
    · obtain ⟨z, hz, h4, h5⟩ := by_wro h1
      rw [hx] at hz
      obtain rfl := Option.some.inj hz
      exact .inr ⟨p, (wroB_iff.1 h4).2, by rw [h5]; exact h2⟩
    · rw [his_get hy] at h1
      obtain rfl := Option.some.inj h1
      obtain ⟨z, hz, h4, h5⟩ := by_wro h3
      rw [hx] at hz
      obtain rfl := Option.some.inj hz
      exact .inl ⟨v, h2, h4, h5⟩
  · rintro (⟨v, h1, h2, h3⟩ | ⟨p, h1, h2⟩)
    · refine ⟨hne, .inr ⟨v, ⟨y.1, his_get hy, hdy, h1⟩, ?_⟩⟩
      rw [← h3]; exact wro_by hx h2
    · exact ⟨hne, .inl ⟨p, x.1.commit, wro_by hx (wroB_iff.2 ⟨hdx, h1⟩), h2⟩⟩
theorem dep_done {R : List Rec} {i k : Nat} {x y : Rec} (hx : R[i]? = some x) (hy : R[k]? = some y) (h : P.dep (his R) i k) : x.1.done = true ∧ y.1.done = true := by
  obtain ⟨a, b, h1, h2, h3, h4⟩ := P.dep_live h
  rw [his_get hx] at h1
  rw [his_get hy] at h3
  obtain rfl := Option.some.inj h1
  obtain rfl := Option.some.inj h3
  exact ⟨h2, h4⟩
set_option maxRecDepth 100000 in
set_option maxHeartbeats 16000000 in
theorem depends_any {w : World} {ao : Option Addr} {cap : Nat} {R : List Rec} (h : HAt w ao R) (hR : R.length ≤ 1000) {i k : Nat} (hi : i < R.length) (hk : k < R.length) :
    Calls Try.prog 25 #[.slice ao R.length cap, .int .i64 i, .int .i64 k] w fun e w' => ∃ c : Bool, e = .returned (.bool c) ∧ (c = true ↔ P.dep (his R) i k) ∧ Below w.heap.size w w' := by
  have hz43 := zero43.1
  obtain ⟨x, hx⟩ : ∃ x, R[i]? = some x := ⟨_, List.getElem?_eq_getElem hi⟩
  obtain ⟨y, hy⟩ : ∃ y, R[k]? = some y := ⟨_, List.getElem?_eq_getElem hk⟩
  obtain ⟨b, o, rfl, _, _⟩ := h.row i x hx
  have hrx : Hid (∀ W, Below w.heap.size w W → W.rangeAt b (o + i * 5) (pcL x)) := fun W hW => ((h.row.below hW).at' hx).2
  have hcd : Hid (∀ W, Below w.heap.size w W → W.cell? ⟨b, o + i * 5 + 2, none⟩ = some (.bool x.1.done)) := fun W hW => hrx.out W hW 2 _ rfl
  have hcc : Hid (∀ W, Below w.heap.size w W → W.cell? ⟨b, o + i * 5 + 1, none⟩ = some (.int .u32 x.1.commit)) := fun W hW => hrx.out W hW 1 _ rfl
  have hcw : Hid (∀ W, Below w.heap.size w W → W.cell? ⟨b, o + i * 5 + 4, none⟩ = some x.2.2) := fun W hW => hrx.out W hW 4 _ rfl
  have hcy : Hid (∀ W, Below w.heap.size w W → W.cell? ⟨b, o + k * 5 + 2, none⟩ = some (.bool y.1.done)) := fun W hW => ((h.row.below hW).at' hy).2 2 _ rfl
  have hcr : Hid (∀ W, Below w.heap.size w W → W.cell? ⟨b, o + k * 5 + 3, none⟩ = some y.2.1) := fun W hW => ((h.row.below hW).at' hy).2 3 _ rfl
  have hH := Lib.hid h
  have hmx := Lib.hid (List.mem_of_getElem? hx)
  have hmy := Lib.hid (List.mem_of_getElem? hy)
  have hi' : (i : Int) < (R.length : Int) := by omega
  have hk' : (k : Int) < (R.length : Int) := by omega
  have hbr : Hid (Below w.heap.size w w) := Below.refl _ _
  replace hx := Lib.hid hx
  replace hy := Lib.hid hy
  clear h
  have d1 := hcd.out w hbr.out
  have d2 := hcy.out w hbr.out
  go_enter Try.func25, Try.ntmps25
  by_cases hik : i = k
  · have hik' : ((i : Int) == (k : Int)) = true := by simp [hik]
    have HR : Hid (¬ P.dep (his R) i k) := fun e => e.1 hik
    replace hik := Lib.hid hik
    go_upto_region 1 with (fail)
    refine no_implicit_lambda% (wp_region_lit ?_)
    iterate 4
      refine no_implicit_lambda% (wpl_val ?_ rfl ?_ ?_)
      rotate_left
      · (go_simp; (try with_reducible rfl))
      (try simp only [Act.put, Z1, Z2, Z3, Z4, Z5, Z6])
    iterate 6
      refine no_implicit_lambda% (wpl_skip rfl ?_)
      (try simp only [Act.put, Z1, Z2, Z3, Z4, Z5, Z6])
    iterate 2
      refine no_implicit_lambda% (wpl_val ?_ rfl ?_ ?_)
      rotate_left
      · (go_simp; (try with_reducible rfl))
      (try simp only [Act.put, Z1, Z2, Z3, Z4, Z5, Z6])
    iterate 6
      refine no_implicit_lambda% (wpl_skip rfl ?_)
      (try simp only [Act.put, Z1, Z2, Z3, Z4, Z5, Z6])
    refine no_implicit_lambda% (wpl_val ?_ rfl ?_ ?_)
    rotate_left
    · (go_simp; (try with_reducible rfl))
    (try simp only [Act.put, Z1, Z2, Z3, Z4, Z5, Z6])
    refine no_implicit_lambda% (wpList_nil ?_)
    go_wp2_with fail
    go_ret
    exact ⟨false, rfl, ⟨fun e => (by cases e), fun e => absurd e HR.out⟩, Below.refl _ _⟩
  have hik' : ((i : Int) == (k : Int)) = false := by simp; omega
  replace hik := Lib.hid hik
  cases hdx : x.1.done with
  | false =>
    have HR : Hid (¬ P.dep (his R) i k) := fun e => by have := (dep_done hx.out hy.out e).1; rw [hdx] at this; cases this
    rw [hdx] at d1
    clear hdx
    go_upto_region 1 with (fail)
    refine no_implicit_lambda% (wp_region_lit ?_)
    iterate 8
      refine no_implicit_lambda% (wpl_val ?_ rfl ?_ ?_)
      rotate_left
      · (go_simp; (try with_reducible rfl))
      (try simp only [Act.put, Z1, Z2, Z3, Z4, Z5, Z6])
    refine no_implicit_lambda% (wpl_val ?_ rfl ?_ ?_)
    rotate_left
    · (have c0 := d1; go_simp; (try with_reducible rfl))
    (try simp only [Act.put, Z1, Z2, Z3, Z4, Z5, Z6])
    iterate 3
      refine no_implicit_lambda% (wpl_val ?_ rfl ?_ ?_)
      rotate_left
      · (go_simp; (try with_reducible rfl))
      (try simp only [Act.put, Z1, Z2, Z3, Z4, Z5, Z6])
    iterate 6
      refine no_implicit_lambda% (wpl_skip rfl ?_)
      (try simp only [Act.put, Z1, Z2, Z3, Z4, Z5, Z6])
    refine no_implicit_lambda% (wpl_val ?_ rfl ?_ ?_)
    rotate_left
    · (go_simp; (try with_reducible rfl))
    (try simp only [Act.put, Z1, Z2, Z3, Z4, Z5, Z6])
    refine no_implicit_lambda% (wpList_nil ?_)
    go_wp2_with fail
    go_ret
    exact ⟨false, rfl, ⟨fun e => (by cases e), fun e => absurd e HR.out⟩, Below.refl _ _⟩
  | true =>
    rw [hdx] at d1
    replace hdx := Lib.hid hdx
    cases hdy : y.1.done with
    | false =>
      have HR : Hid (¬ P.dep (his R) i k) := fun e => by have := (dep_done hx.out hy.out e).2; rw [hdy] at this; cases this
      rw [hdy] at d2
      clear hdy
      go_upto_region 1 with (fail)
      refine no_implicit_lambda% (wp_region_lit ?_)
      iterate 8
        refine no_implicit_lambda% (wpl_val ?_ rfl ?_ ?_)
        rotate_left
        · (go_simp; (try with_reducible rfl))
        (try simp only [Act.put, Z1, Z2, Z3, Z4, Z5, Z6])
      refine no_implicit_lambda% (wpl_val ?_ rfl ?_ ?_)
      rotate_left
      · (have c0 := d1; go_simp; (try with_reducible rfl))
      (try simp only [Act.put, Z1, Z2, Z3, Z4, Z5, Z6])
      iterate 7
        refine no_implicit_lambda% (wpl_val ?_ rfl ?_ ?_)
        rotate_left
        · (go_simp; (try with_reducible rfl))
        (try simp only [Act.put, Z1, Z2, Z3, Z4, Z5, Z6])
      refine no_implicit_lambda% (wpl_val ?_ rfl ?_ ?_)
      rotate_left
      · (have c0 := d2; go_simp; (try with_reducible rfl))
      (try simp only [Act.put, Z1, Z2, Z3, Z4, Z5, Z6])
      iterate 2
        refine no_implicit_lambda% (wpl_val ?_ rfl ?_ ?_)
        rotate_left
        · (go_simp; (try with_reducible rfl))
        (try simp only [Act.put, Z1, Z2, Z3, Z4, Z5, Z6])
      refine no_implicit_lambda% (wpList_nil ?_)
      go_wp2_with fail
      go_ret
      exact ⟨false, rfl, ⟨fun e => (by cases e), fun e => absurd e HR.out⟩, Below.refl _ _⟩
    | true =>
      rw [hdy] at d2
      have hdep := Lib.hid (dep_iff hx.out hy.out hik.out hdx.out hdy)
      clear hdy
      go_upto_region 1 with (fail)
      refine no_implicit_lambda% (wp_region_lit ?_)
      iterate 8
        refine no_implicit_lambda% (wpl_val ?_ rfl ?_ ?_)
        rotate_left
        · (go_simp; (try with_reducible rfl))
        (try simp only [Act.put, Z1, Z2, Z3, Z4, Z5, Z6])
      refine no_implicit_lambda% (wpl_val ?_ rfl ?_ ?_)
      rotate_left
      · (have c0 := d1; go_simp; (try with_reducible rfl))
      (try simp only [Act.put, Z1, Z2, Z3, Z4, Z5, Z6])
      iterate 7
        refine no_implicit_lambda% (wpl_val ?_ rfl ?_ ?_)
        rotate_left
        · (go_simp; (try with_reducible rfl))
        (try simp only [Act.put, Z1, Z2, Z3, Z4, Z5, Z6])
      refine no_implicit_lambda% (wpl_val ?_ rfl ?_ ?_)
      rotate_left
      · (have c0 := d2; go_simp; (try with_reducible rfl))
      (try simp only [Act.put, Z1, Z2, Z3, Z4, Z5, Z6])
      iterate 2
        refine no_implicit_lambda% (wpl_val ?_ rfl ?_ ?_)
        rotate_left
        · (go_simp; (try with_reducible rfl))
        (try simp only [Act.put, Z1, Z2, Z3, Z4, Z5, Z6])
      refine no_implicit_lambda% (wpList_nil ?_)
      clear d1 d2
      obtain ⟨aor, capr, hrv, _, hrr⟩ := (hH.out.sub y hmy.out).rd
      obtain ⟨aow, capw, hwv, _, hww⟩ := (hH.out.sub x hmx.out).wt
      have cr := hcr.out w hbr.out
      rw [hrv] at cr
      rw [hwv] at hcw
      have hokx := Lib.hid (hH.out.sub x hmx.out).ok
      have hoky := Lib.hid (hH.out.sub y hmy.out).ok
      have hyl := hoky.out.rl
      have hxl := hokx.out.wl
      replace hrr := Lib.hid hrr
      replace hww := Lib.hid hww
      clear hrv hwv
      go_upto_region 3 with (fail)
      refine no_implicit_lambda% (wp_region_lit ?_)
      iterate 4
        refine no_implicit_lambda% (wpl_val ?_ rfl ?_ ?_)
        rotate_left
        · (go_simp; (try with_reducible rfl))
        (try simp only [Act.put, Z1, Z2, Z3, Z4, Z5, Z6])
      refine no_implicit_lambda% (wpl_val ?_ rfl ?_ ?_)
      rotate_left
      · (have c0 := cr; go_simp; (try with_reducible rfl))
      (try simp only [Act.put, Z1, Z2, Z3, Z4, Z5, Z6])
      refine no_implicit_lambda% (wpl_val ?_ rfl ?_ ?_)
      rotate_left
      · (go_simp; (try with_reducible rfl))
      (try simp only [Act.put, Z1, Z2, Z3, Z4, Z5, Z6])
      refine no_implicit_lambda% (wpl_val ?_ rfl ?_ ?_)
      rotate_left
      · (go_simp; (try with_reducible rfl))
      (try simp only [Act.put, Z1, Z2, Z3, Z4, Z5, Z6])
      refine no_implicit_lambda% (wpList_nil ?_)
      clear cr
      go_wp2_with fail
      go_loopw [36] (fun i wr => ∃ m : Nat, i = .int .i64 m ∧ m ≤ y.1.reads.length ∧ Below w.heap.size w wr ∧ Hid (∀ (j : Nat) (v : Int × Int), j < m → y.1.reads[j]? = some v → ¬ (wroB x.1 v.1 = true ∧ x.1.commit = v.2))) (fun i _ => y.1.reads.length - (intOf i).toNat)
      case atStart => exact ⟨0, rfl, Nat.zero_le _, hbr.out, fun j v hj => by omega⟩
      case round =>
        obtain ⟨m, rfl, hm, hS, hT⟩ := hrel
        by_cases hlm : m < y.1.reads.length
        · have hlm' : (m : Int) < (y.1.reads.length : Int) := by omega
          obtain ⟨v, hv⟩ : ∃ v, y.1.reads[m]? = some v := ⟨_, List.getElem?_eq_getElem hlm⟩
          obtain ⟨b2, o2, rfl, hbl2, hr2⟩ := (hrr.out.below hS) m v hv
          replace hr2 := Lib.hid hr2
          replace hv := Lib.hid hv
          go_upto_region 5 with (fail)
          refine no_implicit_lambda% (wp_region_lit ?_)
          refine no_implicit_lambda% (wpl_val ?_ rfl ?_ ?_)
          rotate_left
          · (go_simp; (try with_reducible rfl))
          (try simp only [Act.put, Z1, Z2, Z4, Z5, Z6])
          refine wpList_load_mid rfl 43 _ rfl b2 (o2 + m * 2) rfl (seC v) _ hr2.out Try.underlying43 rfl zero43.2 ?_
          (try simp only [Act.put, Z1, Z2, Z3, Z4, Z5, Z6])
          refine wpl_alloc 43 #[.int .u16 0, .int .u32 0] rfl rfl hz43 ?_
          (try simp only [Act.put, Z1, Z2, Z3, Z4, Z5, Z6])
          refine wpList_store_fr rfl 43 _ _ rfl wr.heap.size #[.int .u16 v.1, .int .u32 v.2] rfl rfl 43 _ (Blk.alloc_new _ _ _) zero43.2 rfl (by simp [Value.oneCell']) ?_
          intro w9 hB9 hF9
          (try simp only [Act.put, Z1, Z2, Z3, Z4, Z5, Z6])
          refine no_implicit_lambda% (wpList_nil ?_)
          replace hS := hS.trans ((box_below hF9).mono hS.size)
          clear hF9 hr2 hbl2
          generalize wr.heap.size = bx at *
          have hT2 : Hid (¬ (wroB x.1 v.1 = true ∧ x.1.commit = v.2) → ∀ (j : Nat) (u : Int × Int), j < m + 1 → y.1.reads[j]? = some u → ¬ (wroB x.1 u.1 = true ∧ x.1.commit = u.2)) := fun hc j u hj hu => by
            by_cases e : j = m
            · rw [e, hv.out] at hu
              obtain rfl := Option.some.inj hu
              exact hc
            · exact hT.out j u (by omega) hu
          clear hT
          go_upto_region 6 with (fail)
          refine wp_region_held (S := (fun w' => Blk w' bx #[.int .u16 v.1, .int .u32 v.2] 43 ∧ Below w.heap.size w w')) (by kernel_rfl) ?_
          change wpAnyH _ _ _ _ _ _ _ _ (World.drew _)
          (try simp only [Act.put])
          have hS2 := And.intro hB9.drew hS.drew
          clear hB9 hS
          generalize w9.drew = V at *
          have hS := hS2
          clear hS2
          refine anyH_pure 0 _ ?_ rfl (by kernel_rfl) (by kernel_rfl) (by kernel_rfl) (fun _ _ _ h => h) rfl ?_ hS ?_
          rotate_left
          · (intro w'; go_simp; (try with_reducible rfl))
          (try simp only [Act.put, Z1, Z2, Z4, Z5, Z6])
          refine anyH_pure 1 _ ?_ rfl (by kernel_rfl) (by kernel_rfl) (by kernel_rfl) (fun _ _ _ h => h) rfl ?_ hS ?_
          rotate_left
          · (intro w'; go_simp; (try with_reducible rfl))
          (try simp only [Act.put, Z1, Z2, Z3, Z4, Z5, Z6])
          refine anyH_pure 2 _ ?_ rfl (by kernel_rfl) (by kernel_rfl) (by kernel_rfl) (fun _ _ _ h => h) rfl ?_ hS ?_
          rotate_left
          · (intro w'; go_simp; (try with_reducible rfl))
          (try simp only [Act.put, Z1, Z2, Z3, Z4, Z5, Z6])
          refine anyH_if 3 _ (.agg (pcA x)) rfl (by kernel_rfl) (by kernel_rfl) (by kernel_rfl) (fun _ _ _ h => h) rfl (fun w' h => run_load_midv rfl rfl (hrx.out w' h.2) Try.underlying36 rfl (size36' x)) hS ?_
          (try simp only [Act.put, Z1, Z2, Z3, Z4, Z5, Z6])
          refine anyH_pure 4 _ ?_ rfl (by kernel_rfl) (by kernel_rfl) (by kernel_rfl) (fun _ _ _ h => h) rfl ?_ hS ?_
          rotate_left
          · (intro w'; go_simp; (try with_reducible rfl))
          (try simp only [Act.put, Z1, Z2, Z3, Z4, Z5, Z6])
          refine anyH_if 5 _ ?_ rfl (by kernel_rfl) (by kernel_rfl) (by kernel_rfl) (fun _ _ _ h => h) rfl ?_ hS ?_
          rotate_left
          · (intro w' h; have c0 := (show w'.cell? ⟨bx, 0, none⟩ = some (.int .u16 v.1) by rw [h.1.cell]; rfl); go_simp; (try with_reducible rfl))
          (try simp only [Act.put, Z1, Z2, Z3, Z4, Z5, Z6])
          have hcx := wrote_any x v.1 V ((hH.out.below hS.2).sub x hmx.out)
          refine anyH_callR 6 _ _ _ _ (by kernel_rfl) rfl rfl (by go_simp) (_) (hcx) ?_
          intro w5 hb5
          replace hS := And.intro (hS.1.below hb5) (hS.2.trans (hb5.mono hS.2.size))
          refine ⟨hS, ?_⟩
          clear hcx hb5
          (try simp only [Act.put, Z1, Z2, Z3, Z4, Z5, Z6])
          cases hwx : wroB x.1 v.1 with
          | false =>
            have hT3 := Lib.hid (hT2.out (fun e => by have := e.1; rw [hwx] at this; cases this))
            clear hT2 hwx
            refine anyH_pure 7 _ ?_ rfl (by kernel_rfl) (by kernel_rfl) (by kernel_rfl) (fun _ _ _ h => h) rfl ?_ hS ?_
            rotate_left
            · (intro w'; go_simp; (try with_reducible rfl))
            (try simp only [Act.put, Z1, Z2, Z3, Z4, Z5, Z6])
            refine anyH_skip 8 _ rfl (by kernel_rfl) (by kernel_rfl) (by kernel_rfl) (fun _ _ _ h => h) rfl hS ?_
            (try simp only [Act.put, Z1, Z2, Z3, Z4, Z5, Z6])
            refine anyH_skip 9 _ rfl (by kernel_rfl) (by kernel_rfl) (by kernel_rfl) (fun _ _ _ h => h) rfl hS ?_
            (try simp only [Act.put, Z1, Z2, Z3, Z4, Z5, Z6])
            refine anyH_skip 10 _ rfl (by kernel_rfl) (by kernel_rfl) (by kernel_rfl) (fun _ _ _ h => h) rfl hS ?_
            (try simp only [Act.put, Z1, Z2, Z3, Z4, Z5, Z6])
            refine anyH_skip 11 _ rfl (by kernel_rfl) (by kernel_rfl) (by kernel_rfl) (fun _ _ _ h => h) rfl hS ?_
            (try simp only [Act.put, Z1, Z2, Z3, Z4, Z5, Z6])
            refine anyH_skip 12 _ rfl (by kernel_rfl) (by kernel_rfl) (by kernel_rfl) (fun _ _ _ h => h) rfl hS ?_
            (try simp only [Act.put, Z1, Z2, Z3, Z4, Z5, Z6])
            refine anyH_skip 13 _ rfl (by kernel_rfl) (by kernel_rfl) (by kernel_rfl) (fun _ _ _ h => h) rfl hS ?_
            (try simp only [Act.put, Z1, Z2, Z3, Z4, Z5, Z6])
            refine anyH_skip 14 _ rfl (by kernel_rfl) (by kernel_rfl) (by kernel_rfl) (fun _ _ _ h => h) rfl hS ?_
            (try simp only [Act.put, Z1, Z2, Z3, Z4, Z5, Z6])
            refine anyH_skip 15 _ rfl (by kernel_rfl) (by kernel_rfl) (by kernel_rfl) (fun _ _ _ h => h) rfl hS ?_
            (try simp only [Act.put, Z1, Z2, Z3, Z4, Z5, Z6])
            refine anyH_pure 16 _ ?_ rfl (by kernel_rfl) (by kernel_rfl) (by kernel_rfl) (fun _ _ _ h => h) rfl ?_ hS ?_
            rotate_left
            · (intro w'; go_simp; (try with_reducible rfl))
            (try simp only [Act.put, Z1, Z2, Z3, Z4, Z5, Z6])
            refine wpAnyH_done (by kernel_rfl) ?_ _
            go_wp2_with fail
            go_roundw
            case rel => exact ⟨m + 1, by go_num, by omega, hS.2, hT3⟩
            case measure => simp [intOf]; omega
          | true =>
            by_cases he : x.1.commit = v.2
            · have he' : (x.1.commit == v.2) = true := by simp [he]
              have HR : Hid (P.dep (his R) i k) := hdep.out.2 (.inl ⟨v, List.mem_of_getElem? hv.out, hwx, he⟩)
              replace he := Lib.hid he
              clear hwx
              refine anyH_pure 7 _ ?_ rfl (by kernel_rfl) (by kernel_rfl) (by kernel_rfl) (fun _ _ _ h => h) rfl ?_ hS ?_
              rotate_left
              · (intro w'; go_simp; (try with_reducible rfl))
              (try simp only [Act.put, Z1, Z2, Z3, Z4, Z5, Z6])
              refine anyH_pure 8 _ ?_ rfl (by kernel_rfl) (by kernel_rfl) (by kernel_rfl) (fun _ _ _ h => h) rfl ?_ hS ?_
              rotate_left
              · (intro w'; go_simp; (try with_reducible rfl))
              (try simp only [Act.put, Z1, Z2, Z3, Z4, Z5, Z6])
              refine anyH_pure 9 _ ?_ rfl (by kernel_rfl) (by kernel_rfl) (by kernel_rfl) (fun _ _ _ h => h) rfl ?_ hS ?_
              rotate_left
              · (intro w'; go_simp; (try with_reducible rfl))
              (try simp only [Act.put, Z1, Z2, Z3, Z4, Z5, Z6])
              refine anyH_pure 10 _ ?_ rfl (by kernel_rfl) (by kernel_rfl) (by kernel_rfl) (fun _ _ _ h => h) rfl ?_ hS ?_
              rotate_left
              · (intro w'; go_simp; (try with_reducible rfl))
              (try simp only [Act.put, Z1, Z2, Z3, Z4, Z5, Z6])
              refine anyH_pure 11 _ ?_ rfl (by kernel_rfl) (by kernel_rfl) (by kernel_rfl) (fun _ _ _ h => h) rfl ?_ hS ?_
              rotate_left
              · (intro w'; go_simp; (try with_reducible rfl))
              (try simp only [Act.put, Z1, Z2, Z3, Z4, Z5, Z6])
              refine anyH_if 12 _ ?_ rfl (by kernel_rfl) (by kernel_rfl) (by kernel_rfl) (fun _ _ _ h => h) rfl ?_ hS ?_
              rotate_left
              · (intro w' h; have c0 := hcc.out w' h.2; go_simp; (try with_reducible rfl))
              (try simp only [Act.put, Z1, Z2, Z3, Z4, Z5, Z6])
              refine anyH_pure 13 _ ?_ rfl (by kernel_rfl) (by kernel_rfl) (by kernel_rfl) (fun _ _ _ h => h) rfl ?_ hS ?_
              rotate_left
              · (intro w'; go_simp; (try with_reducible rfl))
              (try simp only [Act.put, Z1, Z2, Z3, Z4, Z5, Z6])
              refine anyH_if 14 _ ?_ rfl (by kernel_rfl) (by kernel_rfl) (by kernel_rfl) (fun _ _ _ h => h) rfl ?_ hS ?_
              rotate_left
              · (intro w' h; have c0 := (show w'.cell? ⟨bx, 1, none⟩ = some (.int .u32 v.2) by rw [h.1.cell]; rfl); go_simp; (try with_reducible rfl))
              (try simp only [Act.put, Z1, Z2, Z3, Z4, Z5, Z6])
              refine anyH_pure 15 _ ?_ rfl (by kernel_rfl) (by kernel_rfl) (by kernel_rfl) (fun _ _ _ h => h) rfl ?_ hS ?_
              rotate_left
              · (intro w'; go_simp; (try with_reducible rfl))
              (try simp only [Act.put, Z1, Z2, Z3, Z4, Z5, Z6])
              refine anyH_pure 16 _ ?_ rfl (by kernel_rfl) (by kernel_rfl) (by kernel_rfl) (fun _ _ _ h => h) rfl ?_ hS ?_
              rotate_left
              · (intro w'; go_simp; (try with_reducible rfl))
              (try simp only [Act.put, Z1, Z2, Z3, Z4, Z5, Z6])
              refine wpAnyH_done (by kernel_rfl) ?_ _
              go_wp2_with fail
              go_ret
              exact ⟨true, rfl, ⟨fun _ => HR.out, fun _ => rfl⟩, hS.2⟩
            · have he' : (x.1.commit == v.2) = false := by simp [he]
              have hT3 := Lib.hid (hT2.out (fun e => he e.2))
              replace he := Lib.hid he
              clear hT2 hwx
              refine anyH_pure 7 _ ?_ rfl (by kernel_rfl) (by kernel_rfl) (by kernel_rfl) (fun _ _ _ h => h) rfl ?_ hS ?_
              rotate_left
              · (intro w'; go_simp; (try with_reducible rfl))
              (try simp only [Act.put, Z1, Z2, Z3, Z4, Z5, Z6])
              refine anyH_pure 8 _ ?_ rfl (by kernel_rfl) (by kernel_rfl) (by kernel_rfl) (fun _ _ _ h => h) rfl ?_ hS ?_
              rotate_left
              · (intro w'; go_simp; (try with_reducible rfl))
              (try simp only [Act.put, Z1, Z2, Z3, Z4, Z5, Z6])
              refine anyH_pure 9 _ ?_ rfl (by kernel_rfl) (by kernel_rfl) (by kernel_rfl) (fun _ _ _ h => h) rfl ?_ hS ?_
              rotate_left
              · (intro w'; go_simp; (try with_reducible rfl))
              (try simp only [Act.put, Z1, Z2, Z3, Z4, Z5, Z6])
              refine anyH_pure 10 _ ?_ rfl (by kernel_rfl) (by kernel_rfl) (by kernel_rfl) (fun _ _ _ h => h) rfl ?_ hS ?_
              rotate_left
              · (intro w'; go_simp; (try with_reducible rfl))
              (try simp only [Act.put, Z1, Z2, Z3, Z4, Z5, Z6])
              refine anyH_pure 11 _ ?_ rfl (by kernel_rfl) (by kernel_rfl) (by kernel_rfl) (fun _ _ _ h => h) rfl ?_ hS ?_
              rotate_left
              · (intro w'; go_simp; (try with_reducible rfl))
              (try simp only [Act.put, Z1, Z2, Z3, Z4, Z5, Z6])
              refine anyH_if 12 _ ?_ rfl (by kernel_rfl) (by kernel_rfl) (by kernel_rfl) (fun _ _ _ h => h) rfl ?_ hS ?_
              rotate_left
              · (intro w' h; have c0 := hcc.out w' h.2; go_simp; (try with_reducible rfl))
              (try simp only [Act.put, Z1, Z2, Z3, Z4, Z5, Z6])
              refine anyH_pure 13 _ ?_ rfl (by kernel_rfl) (by kernel_rfl) (by kernel_rfl) (fun _ _ _ h => h) rfl ?_ hS ?_
              rotate_left
              · (intro w'; go_simp; (try with_reducible rfl))
              (try simp only [Act.put, Z1, Z2, Z3, Z4, Z5, Z6])
              refine anyH_if 14 _ ?_ rfl (by kernel_rfl) (by kernel_rfl) (by kernel_rfl) (fun _ _ _ h => h) rfl ?_ hS ?_
              rotate_left
              · (intro w' h; have c0 := (show w'.cell? ⟨bx, 1, none⟩ = some (.int .u32 v.2) by rw [h.1.cell]; rfl); go_simp; (try with_reducible rfl))
              (try simp only [Act.put, Z1, Z2, Z3, Z4, Z5, Z6])
              refine anyH_pure 15 _ ?_ rfl (by kernel_rfl) (by kernel_rfl) (by kernel_rfl) (fun _ _ _ h => h) rfl ?_ hS ?_
              rotate_left
              · (intro w'; go_simp; (try with_reducible rfl))
              (try simp only [Act.put, Z1, Z2, Z3, Z4, Z5, Z6])
              refine anyH_pure 16 _ ?_ rfl (by kernel_rfl) (by kernel_rfl) (by kernel_rfl) (fun _ _ _ h => h) rfl ?_ hS ?_
              rotate_left
              · (intro w'; go_simp; (try with_reducible rfl))
              (try simp only [Act.put, Z1, Z2, Z3, Z4, Z5, Z6])
              refine wpAnyH_done (by kernel_rfl) ?_ _
              go_wp2_with fail
              go_roundw
              case rel => exact ⟨m + 1, by go_num, by omega, hS.2, hT3⟩
              case measure => simp [intOf]; omega
        · obtain rfl : m = y.1.reads.length := by omega
          have hno : Hid (¬ ∃ v ∈ y.1.reads, wroB x.1 v.1 = true ∧ x.1.commit = v.2) := fun ⟨v, hv, h1⟩ => by
            obtain ⟨j, hj⟩ := List.mem_iff_getElem?.1 hv
            exact hT.out j v (List.getElem?_eq_some_iff.1 hj).1 hj h1
          clear hT hlm
          have cw := hcw.out wr hS
          go_upto_region 9 with (fail)
          refine no_implicit_lambda% (wp_region_lit ?_)
          iterate 4
            refine no_implicit_lambda% (wpl_val ?_ rfl ?_ ?_)
            rotate_left
            · (go_simp; (try with_reducible rfl))
            (try simp only [Act.put, Z1, Z2, Z3, Z4, Z5, Z6])
          refine no_implicit_lambda% (wpl_val ?_ rfl ?_ ?_)
          rotate_left
          · (have c0 := cw; go_simp; (try with_reducible rfl))
          (try simp only [Act.put, Z1, Z2, Z3, Z4, Z5, Z6])
          refine no_implicit_lambda% (wpl_val ?_ rfl ?_ ?_)
          rotate_left
          · (go_simp; (try with_reducible rfl))
          (try simp only [Act.put, Z1, Z2, Z3, Z4, Z5, Z6])
          refine no_implicit_lambda% (wpl_val ?_ rfl ?_ ?_)
          rotate_left
          · (go_simp; (try with_reducible rfl))
          (try simp only [Act.put, Z1, Z2, Z3, Z4, Z5, Z6])
          refine no_implicit_lambda% (wpList_nil ?_)
          clear cw
          replace hS := Lib.hid hS
          go_wp2_with fail
          go_loopw [64] (fun i wr => ∃ m : Nat, i = .int .i64 m ∧ m ≤ x.1.writes.length ∧ Below w.heap.size w wr ∧ Hid (∀ (j : Nat) (p : Int), j < m → x.1.writes[j]? = some p → ¬ P.nxt (his R) p x.1.commit k)) (fun i _ => x.1.writes.length - (intOf i).toNat)
          case atStart => exact ⟨0, rfl, Nat.zero_le _, hS.out, fun j v hj => by omega⟩
          case round =>
            clear hS
            obtain ⟨m, rfl, hm, hS, hT⟩ := hrel
            by_cases hlm : m < x.1.writes.length
            · have hlm' : (m : Int) < (x.1.writes.length : Int) := by omega
              obtain ⟨p, hp⟩ : ∃ p, x.1.writes[m]? = some p := ⟨_, List.getElem?_eq_getElem hlm⟩
              obtain ⟨b2, o2, rfl, hbl2, hr2⟩ := (hww.out.below hS) m p hp
              have hcp : wr.cell? ⟨b2, o2 + m, none⟩ = some (.int .u16 p) := by have := hr2 0 _ rfl; simpa using this
              replace hp := Lib.hid hp
              clear hr2 hbl2
              go_upto_region 11 with (fail)
              refine no_implicit_lambda% (wp_region_lit ?_)
              refine no_implicit_lambda% (wpl_val ?_ rfl ?_ ?_)
              rotate_left
              · (go_simp; (try with_reducible rfl))
              (try simp only [Act.put, Z1, Z2, Z4, Z5, Z6])
              refine no_implicit_lambda% (wpl_val ?_ rfl ?_ ?_)
              rotate_left
              · (have c0 := hcp; go_simp; (try with_reducible rfl))
              (try simp only [Act.put, Z1, Z2, Z3, Z4, Z5, Z6])
              refine no_implicit_lambda% (wpl_val ?_ rfl ?_ ?_)
              rotate_left
              · (go_simp; (try with_reducible rfl))
              (try simp only [Act.put, Z1, Z2, Z3, Z4, Z5, Z6])
              refine no_implicit_lambda% (wpList_nil ?_)
              clear hcp
              have cc := hcc.out wr hS
              have hfo := follows_any (cap := cap) (hH.out.below hS) hR p x.1.commit hk
              go_upto_region 12 with (fail)
              refine no_implicit_lambda% (wp_region_lit ?_)
              iterate 6
                refine no_implicit_lambda% (wpl_val ?_ rfl ?_ ?_)
                rotate_left
                · (go_simp; (try with_reducible rfl))
                (try simp only [Act.put, Z1, Z2, Z3, Z4, Z5, Z6])
              refine no_implicit_lambda% (wpl_val ?_ rfl ?_ ?_)
              rotate_left
              · (have c0 := cc; go_simp; (try with_reducible rfl))
              (try simp only [Act.put, Z1, Z2, Z3, Z4, Z5, Z6])
              refine no_implicit_lambda% (wpl_val ?_ rfl ?_ ?_)
              rotate_left
              · (go_simp; (try with_reducible rfl))
              (try simp only [Act.put, Z1, Z2, Z3, Z4, Z5, Z6])
              refine wpl_call _ _ rfl (by go_simp) _ hfo ?_
              rintro e w5 ⟨c, rfl, hc, hb5⟩
              refine ⟨_, rfl, ?_⟩
              replace hS := hS.trans (hb5.mono hS.size)
              clear hfo hb5 cc
              (try simp only [Act.put, Z1, Z2, Z3, Z4, Z5, Z6])
              refine no_implicit_lambda% (wpList_nil ?_)
              cases c with
              | true =>
                have HR : Hid (P.dep (his R) i k) := hdep.out.2 (.inr ⟨p, List.mem_of_getElem? hp.out, hc.1 rfl⟩)
                clear hc
                go_wp2_with fail
                go_ret
                exact ⟨true, rfl, ⟨fun _ => HR.out, fun _ => rfl⟩, hS⟩
              | false =>
                have hT3 : Hid (∀ (j : Nat) (q : Int), j < m + 1 → x.1.writes[j]? = some q → ¬ P.nxt (his R) q x.1.commit k) := fun j q hj hq e => by
                  by_cases e2 : j = m
                  · rw [e2, hp.out] at hq
                    obtain rfl := Option.some.inj hq
                    have := hc.2 e; cases this
                  · exact hT.out j q (by omega) hq e
                clear hT hc
                go_wp2_with fail
                go_roundw
                case rel => exact ⟨m + 1, by go_num, by omega, hS, hT3⟩
                case measure => simp [intOf]; omega
            · obtain rfl : m = x.1.writes.length := by omega
              have HR : Hid (¬ P.dep (his R) i k) := fun e => by
                rcases hdep.out.1 e with h1 | ⟨p, hp, h1⟩
                · exact hno.out h1
                · obtain ⟨j, hj⟩ := List.mem_iff_getElem?.1 hp
                  exact hT.out j p (List.getElem?_eq_some_iff.1 hj).1 hj h1
              clear hT hlm
              go_wp2_with fail
              go_ret
              exact ⟨false, rfl, ⟨fun e => (by cases e), fun e => absurd e HR.out⟩, hS⟩
end Go.Proofs.Ytnemaolbmocncaa
