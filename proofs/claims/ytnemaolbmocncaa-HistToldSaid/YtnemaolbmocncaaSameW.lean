/- The walk of the document's Same, of two histories that are the same. -/
import Derived.Test.YtnemaolbmocncaaRcW
namespace Go.Proofs.Ytnemaolbmocncaa
open Go.RowKit
set_option linter.unusedSimpArgs false
set_option linter.unusedVariables false
attribute [local irreducible] wpList
theorem eqt43 : Try.prog.eqGuardType Try.prog.depth 43 = false := by kernel_rfl
theorem eqS_yes (v : Int × Int) (hv : DS v) (w : World) : (Op.equalIn 10000 43 (.agg #[.int .u16 v.1, .int .u32 v.2]) (.agg #[.int .u16 v.1, .int .u32 v.2])).run Try.prog w = .ok true w := by
  have := eqS v v w hv hv
  rw [decide_eq_true rfl] at this
  exact this
theorem below_setRow {B : Nat} {w W : World} {g : Nat} (h : Below B w W) (hB : B ≤ w.heap.size) (hg : B ≤ g) (cs : Array Value) : Below B w (W.setRow g cs) :=
  Fr.below h ((Fr.refl (fun k => k = g) W).setRow g cs fun _ => rfl) hB fun i e => e ▸ hg
theorem two_new {w V : World} (h : Below w.heap.size w V) (c d : Array Value) (s t : TypeId) :
    Blk ((V.alloc (.cells c s)).alloc (.cells d t)) V.heap.size c s ∧ Blk ((V.alloc (.cells c s)).alloc (.cells d t)) (V.alloc (.cells c s)).heap.size d t ∧ V.heap.size ≠ (V.alloc (.cells c s)).heap.size ∧ Below w.heap.size w ((V.alloc (.cells c s)).alloc (.cells d t)) ∧ w.heap.size ≤ V.heap.size ∧ w.heap.size ≤ (V.alloc (.cells c s)).heap.size := by
  have h1 := h.size
  have h2 : (V.alloc (.cells c s)).heap.size = V.heap.size + 1 := by simp
  exact ⟨(Blk.alloc_new V c s).alloc _, Blk.alloc_new _ d t, by omega, (h.alloc h1 _).alloc (by omega) _, h1, by omega⟩
set_option maxRecDepth 100000 in
set_option maxHeartbeats 16000000 in
theorem same_any {w : World} {ao ao' : Option Addr} {cap cap' : Nat} {R R' : List Rec} (h : HAt w ao R) (h' : HAt w ao' R') (he : his R = his R') (hR : R.length ≤ 1000) :
    Calls Try.prog 13 #[.slice ao R.length cap, .slice ao' R'.length cap'] w fun e w' => e = .returned (.bool true) ∧ Below w.heap.size w w' := by
  have hln : R'.length = R.length := by rw [← his_length R', ← he, his_length]
  rw [hln]
  have hz36 := zero36.1
  have hH := Lib.hid h
  have hH' := Lib.hid h'
  replace he := Lib.hid he
  have h0 : Hid (Below w.heap.size w w) := Below.refl _ _
  replace hln := Lib.hid hln
  clear h h'
  go_enter Try.func13, Try.ntmps13
  go_upto_region 1 with (fail)
  refine no_implicit_lambda% (wp_region_lit ?_)
  refine no_implicit_lambda% (wpl_val ?_ rfl ?_ ?_)
  rotate_left
  · (go_simp; (try with_reducible rfl))
  (try simp only [Act.put, Z1, Z2, Z4, Z5, Z6])
  refine no_implicit_lambda% (wpl_val ?_ rfl ?_ ?_)
  rotate_left
  · (go_simp; (try with_reducible rfl))
  (try simp only [Act.put, Z1, Z2, Z3, Z4, Z5, Z6])
  refine no_implicit_lambda% (wpl_val ?_ rfl ?_ ?_)
  rotate_left
  · (go_simp; (try with_reducible rfl))
  (try simp only [Act.put, Z1, Z2, Z3, Z4, Z5, Z6])
  refine no_implicit_lambda% (wpl_val ?_ rfl ?_ ?_)
  rotate_left
  · (go_simp; (try with_reducible rfl))
  (try simp only [Act.put, Z1, Z2, Z3, Z4, Z5, Z6])
  refine no_implicit_lambda% (wpl_val ?_ rfl ?_ ?_)
  rotate_left
  · (go_simp; (try with_reducible rfl))
  (try simp only [Act.put, Z1, Z2, Z3, Z4, Z5, Z6])
  refine no_implicit_lambda% (wpList_nil ?_)
  go_upto_region 3 with (fail)
  refine no_implicit_lambda% (wp_region_lit ?_)
  refine no_implicit_lambda% (wpl_val ?_ rfl ?_ ?_)
  rotate_left
  · (go_simp; (try with_reducible rfl))
  (try simp only [Act.put, Z1, Z2, Z4, Z5, Z6])
  refine no_implicit_lambda% (wpl_val ?_ rfl ?_ ?_)
  rotate_left
  · (go_simp; (try with_reducible rfl))
  (try simp only [Act.put, Z1, Z2, Z3, Z4, Z5, Z6])
  refine no_implicit_lambda% (wpl_val ?_ rfl ?_ ?_)
  rotate_left
  · (go_simp; (try with_reducible rfl))
  (try simp only [Act.put, Z1, Z2, Z3, Z4, Z5, Z6])
  refine no_implicit_lambda% (wpList_nil ?_)
  go_wp2_with fail
  go_loopw [17] (fun i wr => ∃ k : Nat, i = .int .i64 k ∧ k ≤ R.length ∧ Below w.heap.size w wr) (fun i _ => R.length - (intOf i).toNat)
  case atStart => exact ⟨0, rfl, Nat.zero_le _, h0.out⟩
  case round =>
    obtain ⟨k, rfl, hk, hS⟩ := hrel
    by_cases hlt : k < R.length
    · have hlt' : (k : Int) < (R.length : Int) := by omega
      obtain ⟨x, hx⟩ : ∃ x, R[k]? = some x := ⟨_, List.getElem?_eq_getElem hlt⟩
      obtain ⟨y, hy⟩ : ∃ y, R'[k]? = some y := ⟨_, List.getElem?_eq_getElem (by rw [hln.out]; exact hlt)⟩
      have hxy : Hid (y.1 = x.1) := by
        have h1 := his_get hx
        have h2 := his_get hy
        rw [he.out, h2] at h1
        exact Option.some.inj h1
      obtain ⟨b, o, rfl, _, _⟩ := hH.out.row k x hx
      obtain ⟨b', o', rfl, _, _⟩ := hH'.out.row k y hy
      have hrx : Hid (∀ W, Below w.heap.size w W → W.rangeAt b (o + k * 5) (pcL x)) := fun W hW => ((hH.out.row.below hW).at' hx).2
      have hry : Hid (∀ W, Below w.heap.size w W → W.rangeAt b' (o' + k * 5) (pcL y)) := fun W hW => ((hH'.out.row.below hW).at' hy).2
      have hsx := hH.out.sub x (List.mem_of_getElem? hx)
      have hsy := hH'.out.sub y (List.mem_of_getElem? hy)
      have hox := Lib.hid hsx.one
      have hoy := Lib.hid hsy.one
      have hok := Lib.hid hsx.ok
      obtain ⟨aor, capr, hrv, _, hrr⟩ := hsx.rd
      obtain ⟨aow, capw, hwv, _, hww⟩ := hsx.wt
      obtain ⟨aor', capr', hrv', _, hrr'⟩ := hsy.rd
      obtain ⟨aow', capw', hwv', _, hww'⟩ := hsy.wt
      rw [hxy.out] at hrv' hwv' hrr' hww'
      replace hrv := Lib.hid hrv
      replace hwv := Lib.hid hwv
      replace hrv' := Lib.hid hrv'
      replace hwv' := Lib.hid hwv'
      replace hrr := Lib.hid hrr
      replace hww := Lib.hid hww
      replace hrr' := Lib.hid hrr'
      replace hww' := Lib.hid hww'
      clear hx hy hsx hsy
      go_upto_region 6 with (fail)
      go_cut [6, 7] (fun p6 p7 wx => ∃ b6 b7 : Nat, p6 = .pointer (some ⟨b6, 0, none⟩) ∧ p7 = .pointer (some ⟨b7, 0, none⟩) ∧ Below w.heap.size w wx ∧ Blk wx b6 (pcA x) 36 ∧ Blk wx b7 (pcA y) 36)
      case first =>
        refine wp_region_held (S := (fun w' => Below w.heap.size w w')) (by kernel_rfl) ?_
        change wpAnyH _ _ _ _ _ _ _ _ (World.drew _)
        (try simp only [Act.put])
        replace hS := hS.drew
        generalize wr.drew = V at *
        refine anyH_pure 0 _ ?_ rfl (by kernel_rfl) (by kernel_rfl) (by kernel_rfl) (fun _ _ _ h => h) rfl ?_ hS ?_
        rotate_left
        · (intro w'; go_simp; (try with_reducible rfl))
        (try simp only [Act.put, Z1, Z2, Z4, Z5, Z6])
        refine anyH_pure 1 _ ?_ rfl (by kernel_rfl) (by kernel_rfl) (by kernel_rfl) (fun _ _ _ h => h) rfl ?_ hS ?_
        rotate_left
        · (intro w'; go_simp; (try with_reducible rfl))
        (try simp only [Act.put, Z1, Z2, Z3, Z4, Z5, Z6])
        refine anyH_pure 2 _ ?_ rfl (by kernel_rfl) (by kernel_rfl) (by kernel_rfl) (fun _ _ _ h => h) rfl ?_ hS ?_
        rotate_left
        · (intro w'; go_simp; (try with_reducible rfl))
        (try simp only [Act.put, Z1, Z2, Z3, Z4, Z5, Z6])
        refine anyH_if 3 _ (.agg (pcA x)) rfl (by kernel_rfl) (by kernel_rfl) (by kernel_rfl) (fun _ _ _ h => h) rfl (fun w' h => run_load_midv rfl rfl (hrx.out w' h) Try.underlying36 rfl (size36' x)) hS ?_
        (try simp only [Act.put, Z1, Z2, Z3, Z4, Z5, Z6])
        refine anyH_pure 4 _ ?_ rfl (by kernel_rfl) (by kernel_rfl) (by kernel_rfl) (fun _ _ _ h => h) rfl ?_ hS ?_
        rotate_left
        · (intro w'; go_simp; (try with_reducible rfl))
        (try simp only [Act.put, Z1, Z2, Z3, Z4, Z5, Z6])
        refine anyH_pure 5 _ ?_ rfl (by kernel_rfl) (by kernel_rfl) (by kernel_rfl) (fun _ _ _ h => h) rfl ?_ hS ?_
        rotate_left
        · (intro w'; go_simp; (try with_reducible rfl))
        (try simp only [Act.put, Z1, Z2, Z3, Z4, Z5, Z6])
        refine anyH_pure 6 _ ?_ rfl (by kernel_rfl) (by kernel_rfl) (by kernel_rfl) (fun _ _ _ h => h) rfl ?_ hS ?_
        rotate_left
        · (intro w'; go_simp; (try with_reducible rfl))
        (try simp only [Act.put, Z1, Z2, Z3, Z4, Z5, Z6])
        refine anyH_if 7 _ (.agg (pcA y)) rfl (by kernel_rfl) (by kernel_rfl) (by kernel_rfl) (fun _ _ _ h => h) rfl (fun w' h => run_load_midv rfl rfl (hry.out w' h) Try.underlying36 rfl (size36' y)) hS ?_
        (try simp only [Act.put, Z1, Z2, Z3, Z4, Z5, Z6])
        have hT := two_new hS (pcA noR) (pcA noR) 36 36
        refine anyH_all2 8 9 (by kernel_rfl) ?_ ?_
        · refine wpOp_alloc 8 _ 36 (pcA noR) rfl rfl rfl hz36 ⟨hS.alloc hS.size _, ?_⟩
          (try simp only [Act.put, Z1, Z2, Z3, Z4, Z5, Z6])
          refine anyH_all1 9 (by kernel_rfl) ?_
          refine wpOp_alloc 9 _ 36 (pcA noR) rfl rfl rfl hz36 ⟨hT.2.2.2.1, ?_⟩
          (try simp only [Act.put, Z1, Z2, Z3, Z4, Z5, Z6])
          have hB6 := hT.1
          have hB7 := hT.2.1
          generalize (V.alloc (.cells (pcA noR) 36)).alloc (.cells (pcA noR) 36) = W2 at *
          generalize (V.alloc (.cells (pcA noR) 36)).heap.size = n7 at *
          generalize V.heap.size = n6 at *
          have hnb := Lib.hid hT.2.2.1
          have hg6 : w.heap.size ≤ n6 := by have := hT.2.2.2.2; omega
          have hg7 : w.heap.size ≤ n7 := by have := hT.2.2.2.2; omega
          refine anyH_one 10 _ (by kernel_rfl) rfl rfl (wp_store_row 36 _ _ rfl n6 (pcA x) rfl rfl 36 _ hB6 (size36 _) rfl hox.out ⟨below_setRow hT.2.2.2.1 (Nat.le_refl _) hg6 _, ?_⟩)
          (try simp only [Act.put, Z1, Z2, Z3, Z4, Z5, Z6])
          have hS2 := below_setRow hT.2.2.2.1 (Nat.le_refl _) hg6 (pcA x)
          replace hB6 := hB6.setRow (pcA x)
          replace hB7 := hB7.setRow_other (b' := n6) (fun e => by have := hnb.out; omega) (pcA x)
          clear hT
          generalize World.setRow _ _ _ = W3 at *
          refine anyH_one 11 _ (by kernel_rfl) rfl rfl (wp_store_row 36 _ _ rfl n7 (pcA y) rfl rfl 36 _ hB7 (size36 _) rfl hoy.out ⟨below_setRow hS2 (Nat.le_refl _) hg7 _, ?_⟩)
          (try simp only [Act.put, Z1, Z2, Z3, Z4, Z5, Z6])
          have hS3 := below_setRow hS2 (Nat.le_refl _) hg7 (pcA y)
          replace hB7 := hB7.setRow (pcA y)
          replace hB6 := hB6.setRow_other (b' := n7) (fun e => by have := hnb.out; omega) (pcA y)
          generalize World.setRow _ _ _ = W4 at *
          refine wpAnyH_done (by kernel_rfl) ?_ _
          go_wp2_with fail
          go_meet
          case rel => exact ⟨n6, n7, rfl, rfl, hS3, hB6, hB7⟩
        · refine wpOp_alloc 9 _ 36 (pcA noR) rfl rfl rfl hz36 ⟨hS.alloc hS.size _, ?_⟩
          (try simp only [Act.put, Z1, Z2, Z3, Z4, Z5, Z6])
          refine anyH_all1 8 (by kernel_rfl) ?_
          refine wpOp_alloc 8 _ 36 (pcA noR) rfl rfl rfl hz36 ⟨hT.2.2.2.1, ?_⟩
          (try simp only [Act.put, Z1, Z2, Z3, Z4, Z5, Z6])
          have hB6 := hT.2.1
          have hB7 := hT.1
          generalize (V.alloc (.cells (pcA noR) 36)).alloc (.cells (pcA noR) 36) = W2 at *
          generalize (V.alloc (.cells (pcA noR) 36)).heap.size = n6 at *
          generalize V.heap.size = n7 at *
          have hnb := Lib.hid hT.2.2.1
          have hg6 : w.heap.size ≤ n6 := by have := hT.2.2.2.2; omega
          have hg7 : w.heap.size ≤ n7 := by have := hT.2.2.2.2; omega
          refine anyH_one 10 _ (by kernel_rfl) rfl rfl (wp_store_row 36 _ _ rfl n6 (pcA x) rfl rfl 36 _ hB6 (size36 _) rfl hox.out ⟨below_setRow hT.2.2.2.1 (Nat.le_refl _) hg6 _, ?_⟩)
          (try simp only [Act.put, Z1, Z2, Z3, Z4, Z5, Z6])
          have hS2 := below_setRow hT.2.2.2.1 (Nat.le_refl _) hg6 (pcA x)
          replace hB6 := hB6.setRow (pcA x)
          replace hB7 := hB7.setRow_other (b' := n6) (fun e => by have := hnb.out; omega) (pcA x)
          clear hT
          generalize World.setRow _ _ _ = W3 at *
          refine anyH_one 11 _ (by kernel_rfl) rfl rfl (wp_store_row 36 _ _ rfl n7 (pcA y) rfl rfl 36 _ hB7 (size36 _) rfl hoy.out ⟨below_setRow hS2 (Nat.le_refl _) hg7 _, ?_⟩)
          (try simp only [Act.put, Z1, Z2, Z3, Z4, Z5, Z6])
          have hS3 := below_setRow hS2 (Nat.le_refl _) hg7 (pcA y)
          replace hB7 := hB7.setRow (pcA y)
          replace hB6 := hB6.setRow_other (b' := n7) (fun e => by have := hnb.out; omega) (pcA y)
          generalize World.setRow _ _ _ = W4 at *
          refine wpAnyH_done (by kernel_rfl) ?_ _
          go_wp2_with fail
          go_meet
          case rel => exact ⟨n6, n7, rfl, rfl, hS3, hB6, hB7⟩
      case rest =>
        clear hS
        obtain ⟨b6, b7, rfl, rfl, hS, hB6, hB7⟩ := hcut
        clear hrx hry hox hoy
        go_upto_region 7 with (fail)
        refine no_implicit_lambda% (wp_region_lit ?_)
        have e1 : wc.cell? ⟨b6, 0, none⟩ = some (.int .u32 x.1.start) := by rw [hB6.cell]; rfl
        have e2 : wc.cell? ⟨b7, 0, none⟩ = some (.int .u32 x.1.start) := by rw [hB7.cell, ← hxy.out]; rfl
        have e3 : wc.cell? ⟨b6, 1, none⟩ = some (.int .u32 x.1.commit) := by rw [hB6.cell]; rfl
        have e4 : wc.cell? ⟨b7, 1, none⟩ = some (.int .u32 x.1.commit) := by rw [hB7.cell, ← hxy.out]; rfl
        have e5 : wc.cell? ⟨b6, 2, none⟩ = some (.bool x.1.done) := by rw [hB6.cell]; rfl
        have e6 : wc.cell? ⟨b7, 2, none⟩ = some (.bool x.1.done) := by rw [hB7.cell, ← hxy.out]; rfl
        have e7 : wc.cell? ⟨b6, 3, none⟩ = some (.slice aor x.1.reads.length capr) := by rw [hB6.cell, ← hrv.out]; rfl
        have e8 : wc.cell? ⟨b7, 3, none⟩ = some (.slice aor' x.1.reads.length capr') := by rw [hB7.cell, ← hrv'.out]; rfl
        have e9 : wc.cell? ⟨b6, 4, none⟩ = some (.slice aow x.1.writes.length capw) := by rw [hB6.cell, ← hwv.out]; rfl
        have e10 : wc.cell? ⟨b7, 4, none⟩ = some (.slice aow' x.1.writes.length capw') := by rw [hB7.cell, ← hwv'.out]; rfl
        have hrl := hok.out.rl
        have hwl := hok.out.wl
        refine no_implicit_lambda% (wpl_val ?_ rfl ?_ ?_)
        rotate_left
        · (go_simp; (try with_reducible rfl))
        (try simp only [Act.put, Z1, Z2, Z4, Z5, Z6])
        refine no_implicit_lambda% (wpl_val ?_ rfl ?_ ?_)
        rotate_left
        · (have c0 := e1; go_simp; (try with_reducible rfl))
        (try simp only [Act.put, Z1, Z2, Z3, Z4, Z5, Z6])
        refine no_implicit_lambda% (wpl_val ?_ rfl ?_ ?_)
        rotate_left
        · (go_simp; (try with_reducible rfl))
        (try simp only [Act.put, Z1, Z2, Z3, Z4, Z5, Z6])
        refine no_implicit_lambda% (wpl_val ?_ rfl ?_ ?_)
        rotate_left
        · (have c0 := e2; go_simp; (try with_reducible rfl))
        (try simp only [Act.put, Z1, Z2, Z3, Z4, Z5, Z6])
        iterate 3
          refine no_implicit_lambda% (wpl_val ?_ rfl ?_ ?_)
          rotate_left
          · (go_simp; (try with_reducible rfl))
          (try simp only [Act.put, Z1, Z2, Z3, Z4, Z5, Z6])
        refine no_implicit_lambda% (wpl_val ?_ rfl ?_ ?_)
        rotate_left
        · (have c0 := e3; go_simp; (try with_reducible rfl))
        (try simp only [Act.put, Z1, Z2, Z3, Z4, Z5, Z6])
        refine no_implicit_lambda% (wpl_val ?_ rfl ?_ ?_)
        rotate_left
        · (go_simp; (try with_reducible rfl))
        (try simp only [Act.put, Z1, Z2, Z3, Z4, Z5, Z6])
        refine no_implicit_lambda% (wpl_val ?_ rfl ?_ ?_)
        rotate_left
        · (have c0 := e4; go_simp; (try with_reducible rfl))
        (try simp only [Act.put, Z1, Z2, Z3, Z4, Z5, Z6])
        iterate 4
          refine no_implicit_lambda% (wpl_val ?_ rfl ?_ ?_)
          rotate_left
          · (go_simp; (try with_reducible rfl))
          (try simp only [Act.put, Z1, Z2, Z3, Z4, Z5, Z6])
        refine no_implicit_lambda% (wpl_val ?_ rfl ?_ ?_)
        rotate_left
        · (have c0 := e5; go_simp; (try with_reducible rfl))
        (try simp only [Act.put, Z1, Z2, Z3, Z4, Z5, Z6])
        refine no_implicit_lambda% (wpl_val ?_ rfl ?_ ?_)
        rotate_left
        · (go_simp; (try with_reducible rfl))
        (try simp only [Act.put, Z1, Z2, Z3, Z4, Z5, Z6])
        refine no_implicit_lambda% (wpl_val ?_ rfl ?_ ?_)
        rotate_left
        · (have c0 := e6; go_simp; (try with_reducible rfl))
        (try simp only [Act.put, Z1, Z2, Z3, Z4, Z5, Z6])
        iterate 4
          refine no_implicit_lambda% (wpl_val ?_ rfl ?_ ?_)
          rotate_left
          · (go_simp; (try with_reducible rfl))
          (try simp only [Act.put, Z1, Z2, Z3, Z4, Z5, Z6])
        refine no_implicit_lambda% (wpl_val ?_ rfl ?_ ?_)
        rotate_left
        · (have c0 := e7; go_simp; (try with_reducible rfl))
        (try simp only [Act.put, Z1, Z2, Z3, Z4, Z5, Z6])
        refine no_implicit_lambda% (wpl_val ?_ rfl ?_ ?_)
        rotate_left
        · (go_simp; (try with_reducible rfl))
        (try simp only [Act.put, Z1, Z2, Z3, Z4, Z5, Z6])
        refine no_implicit_lambda% (wpl_val ?_ rfl ?_ ?_)
        rotate_left
        · (go_simp; (try with_reducible rfl))
        (try simp only [Act.put, Z1, Z2, Z3, Z4, Z5, Z6])
        refine no_implicit_lambda% (wpl_val ?_ rfl ?_ ?_)
        rotate_left
        · (have c0 := e8; go_simp; (try with_reducible rfl))
        (try simp only [Act.put, Z1, Z2, Z3, Z4, Z5, Z6])
        refine no_implicit_lambda% (wpl_val ?_ rfl ?_ ?_)
        rotate_left
        · (go_simp; (try with_reducible rfl))
        (try simp only [Act.put, Z1, Z2, Z3, Z4, Z5, Z6])
        iterate 4
          refine no_implicit_lambda% (wpl_val ?_ rfl ?_ ?_)
          rotate_left
          · (go_simp; (try with_reducible rfl))
          (try simp only [Act.put, Z1, Z2, Z3, Z4, Z5, Z6])
        refine no_implicit_lambda% (wpl_val ?_ rfl ?_ ?_)
        rotate_left
        · (have c0 := e9; go_simp; (try with_reducible rfl))
        (try simp only [Act.put, Z1, Z2, Z3, Z4, Z5, Z6])
        refine no_implicit_lambda% (wpl_val ?_ rfl ?_ ?_)
        rotate_left
        · (go_simp; (try with_reducible rfl))
        (try simp only [Act.put, Z1, Z2, Z3, Z4, Z5, Z6])
        refine no_implicit_lambda% (wpl_val ?_ rfl ?_ ?_)
        rotate_left
        · (go_simp; (try with_reducible rfl))
        (try simp only [Act.put, Z1, Z2, Z3, Z4, Z5, Z6])
        refine no_implicit_lambda% (wpl_val ?_ rfl ?_ ?_)
        rotate_left
        · (have c0 := e10; go_simp; (try with_reducible rfl))
        (try simp only [Act.put, Z1, Z2, Z3, Z4, Z5, Z6])
        refine no_implicit_lambda% (wpl_val ?_ rfl ?_ ?_)
        rotate_left
        · (go_simp; (try with_reducible rfl))
        (try simp only [Act.put, Z1, Z2, Z3, Z4, Z5, Z6])
        iterate 2
          refine no_implicit_lambda% (wpl_val ?_ rfl ?_ ?_)
          rotate_left
          · (go_simp; (try with_reducible rfl))
          (try simp only [Act.put, Z1, Z2, Z3, Z4, Z5, Z6])
        refine no_implicit_lambda% (wpList_nil ?_)
        go_upto_region 9 with (fail)
        refine no_implicit_lambda% (wp_region_lit ?_)
        refine no_implicit_lambda% (wpl_val ?_ rfl ?_ ?_)
        rotate_left
        · (go_simp; (try with_reducible rfl))
        (try simp only [Act.put, Z1, Z2, Z4, Z5, Z6])
        refine no_implicit_lambda% (wpl_val ?_ rfl ?_ ?_)
        rotate_left
        · (have c0 := e7; go_simp; (try with_reducible rfl))
        (try simp only [Act.put, Z1, Z2, Z3, Z4, Z5, Z6])
        refine no_implicit_lambda% (wpl_val ?_ rfl ?_ ?_)
        rotate_left
        · (go_simp; (try with_reducible rfl))
        (try simp only [Act.put, Z1, Z2, Z3, Z4, Z5, Z6])
        refine no_implicit_lambda% (wpl_val ?_ rfl ?_ ?_)
        rotate_left
        · (go_simp; (try with_reducible rfl))
        (try simp only [Act.put, Z1, Z2, Z3, Z4, Z5, Z6])
        refine no_implicit_lambda% (wpList_nil ?_)
        clear e1 e2 e3 e4 e5 e6 e7 e8 e9 e10
        replace hS := Lib.hid (And.intro hS (And.intro hB6 hB7))
        clear hB6 hB7
        go_wp2_with fail
        go_loopw [68] (fun i wr => ∃ m : Nat, i = .int .i64 m ∧ m ≤ x.1.reads.length ∧ Below w.heap.size w wr ∧ Blk wr b6 (pcA x) 36 ∧ Blk wr b7 (pcA y) 36) (fun i _ => x.1.reads.length - (intOf i).toNat)
        case atStart => exact ⟨0, rfl, Nat.zero_le _, hS.out⟩
        case round =>
          clear hS
          obtain ⟨m, rfl, hm, hS⟩ := hrel
          by_cases hlm : m < x.1.reads.length
          · have hlm' : (m : Int) < (x.1.reads.length : Int) := by omega
            obtain ⟨v, hv⟩ : ∃ v, x.1.reads[m]? = some v := ⟨_, List.getElem?_eq_getElem hlm⟩
            have hds : Hid (DS v) := hok.out.reads v (List.mem_of_getElem? hv)
            obtain ⟨br, or_, rfl, _, _⟩ := hrr.out m v hv
            obtain ⟨br', or', rfl, _, _⟩ := hrr'.out m v hv
            have hr : Hid (∀ W, Below w.heap.size w W → W.rangeAt br (or_ + m * 2) (seC v)) := fun W hW => ((hrr.out.below hW).at' hv).2
            have hr' : Hid (∀ W, Below w.heap.size w W → W.rangeAt br' (or' + m * 2) (seC v)) := fun W hW => ((hrr'.out.below hW).at' hv).2
            clear hv
            go_upto_region 12 with (fail)
            refine wp_region_held (S := (fun w' => Below w.heap.size w w' ∧ Blk w' b6 (pcA x) 36 ∧ Blk w' b7 (pcA y) 36)) (by kernel_rfl) ?_
            change wpAnyH _ _ _ _ _ _ _ _ (World.drew _)
            (try simp only [Act.put])
            have hS2 := And.intro hS.1.drew (And.intro hS.2.1.drew hS.2.2.drew)
            clear hS
            have hS := hS2
            clear hS2
            generalize wr.drew = V at *
            refine anyH_pure 0 _ ?_ rfl (by kernel_rfl) (by kernel_rfl) (by kernel_rfl) (fun _ _ _ h => h) rfl ?_ hS ?_
            rotate_left
            · (intro w'; go_simp; (try with_reducible rfl))
            (try simp only [Act.put, Z1, Z2, Z4, Z5, Z6])
            refine anyH_if 1 _ ?_ rfl (by kernel_rfl) (by kernel_rfl) (by kernel_rfl) (fun _ _ _ h => h) rfl ?_ hS ?_
            rotate_left
            · (intro w' h; have c0 := (show w'.cell? ⟨b6, 3, none⟩ = some (.slice (some ⟨br, or_, none⟩) x.1.reads.length capr) by rw [h.2.1.cell, ← hrv.out]; rfl); go_simp; (try with_reducible rfl))
            (try simp only [Act.put, Z1, Z2, Z3, Z4, Z5, Z6])
            refine anyH_pure 2 _ ?_ rfl (by kernel_rfl) (by kernel_rfl) (by kernel_rfl) (fun _ _ _ h => h) rfl ?_ hS ?_
            rotate_left
            · (intro w'; go_simp; (try with_reducible rfl))
            (try simp only [Act.put, Z1, Z2, Z3, Z4, Z5, Z6])
            refine anyH_pure 3 _ ?_ rfl (by kernel_rfl) (by kernel_rfl) (by kernel_rfl) (fun _ _ _ h => h) rfl ?_ hS ?_
            rotate_left
            · (intro w'; go_simp; (try with_reducible rfl))
            (try simp only [Act.put, Z1, Z2, Z3, Z4, Z5, Z6])
            refine anyH_if 4 _ (.agg #[.int .u16 v.1, .int .u32 v.2]) rfl (by kernel_rfl) (by kernel_rfl) (by kernel_rfl) (fun _ _ _ h => h) rfl (fun w' h => run_load_midv rfl rfl (hr.out w' h.1) Try.underlying43 rfl zero43.2) hS ?_
            (try simp only [Act.put, Z1, Z2, Z3, Z4, Z5, Z6])
            refine anyH_pure 5 _ ?_ rfl (by kernel_rfl) (by kernel_rfl) (by kernel_rfl) (fun _ _ _ h => h) rfl ?_ hS ?_
            rotate_left
            · (intro w'; go_simp; (try with_reducible rfl))
            (try simp only [Act.put, Z1, Z2, Z3, Z4, Z5, Z6])
            refine anyH_if 6 _ ?_ rfl (by kernel_rfl) (by kernel_rfl) (by kernel_rfl) (fun _ _ _ h => h) rfl ?_ hS ?_
            rotate_left
            · (intro w' h; have c0 := (show w'.cell? ⟨b7, 3, none⟩ = some (.slice (some ⟨br', or', none⟩) x.1.reads.length capr') by rw [h.2.2.cell, ← hrv'.out]; rfl); go_simp; (try with_reducible rfl))
            (try simp only [Act.put, Z1, Z2, Z3, Z4, Z5, Z6])
            refine anyH_pure 7 _ ?_ rfl (by kernel_rfl) (by kernel_rfl) (by kernel_rfl) (fun _ _ _ h => h) rfl ?_ hS ?_
            rotate_left
            · (intro w'; go_simp; (try with_reducible rfl))
            (try simp only [Act.put, Z1, Z2, Z3, Z4, Z5, Z6])
            refine anyH_pure 8 _ ?_ rfl (by kernel_rfl) (by kernel_rfl) (by kernel_rfl) (fun _ _ _ h => h) rfl ?_ hS ?_
            rotate_left
            · (intro w'; go_simp; (try with_reducible rfl))
            (try simp only [Act.put, Z1, Z2, Z3, Z4, Z5, Z6])
            refine anyH_if 9 _ (.agg #[.int .u16 v.1, .int .u32 v.2]) rfl (by kernel_rfl) (by kernel_rfl) (by kernel_rfl) (fun _ _ _ h => h) rfl (fun w' h => run_load_midv rfl rfl (hr'.out w' h.1) Try.underlying43 rfl zero43.2) hS ?_
            (try simp only [Act.put, Z1, Z2, Z3, Z4, Z5, Z6])
            refine anyH_pure 10 _ (.bool (!true)) rfl (by kernel_rfl) (by kernel_rfl) (by kernel_rfl) (fun _ _ _ h => h) rfl (fun w' => run_opNe 43 43 _ _ _ _ true rfl rfl rfl eqt43 (eqS_yes v hds.out w')) hS ?_
            (try simp only [Act.put, Z1, Z2, Z3, Z4, Z5, Z6])
            refine wpAnyH_done (by kernel_rfl) ?_ _
            clear hr hr' hds
            go_wp2_with fail
            go_roundw
            case rel => exact ⟨m + 1, by go_num, by omega, hS⟩
            case measure => simp [intOf]; omega
          · obtain rfl : m = x.1.reads.length := by omega
            have e9 : wr.cell? ⟨b6, 4, none⟩ = some (.slice aow x.1.writes.length capw) := by rw [hS.2.1.cell, ← hwv.out]; rfl
            clear hlm
            go_upto_region 15 with (fail)
            refine no_implicit_lambda% (wp_region_lit ?_)
            refine no_implicit_lambda% (wpl_val ?_ rfl ?_ ?_)
            rotate_left
            · (go_simp; (try with_reducible rfl))
            (try simp only [Act.put, Z1, Z2, Z4, Z5, Z6])
            refine no_implicit_lambda% (wpl_val ?_ rfl ?_ ?_)
            rotate_left
            · (have c0 := e9; go_simp; (try with_reducible rfl))
            (try simp only [Act.put, Z1, Z2, Z3, Z4, Z5, Z6])
            refine no_implicit_lambda% (wpl_val ?_ rfl ?_ ?_)
            rotate_left
            · (go_simp; (try with_reducible rfl))
            (try simp only [Act.put, Z1, Z2, Z3, Z4, Z5, Z6])
            refine no_implicit_lambda% (wpl_val ?_ rfl ?_ ?_)
            rotate_left
            · (go_simp; (try with_reducible rfl))
            (try simp only [Act.put, Z1, Z2, Z3, Z4, Z5, Z6])
            refine no_implicit_lambda% (wpList_nil ?_)
            clear e9
            replace hS := Lib.hid hS
            go_wp2_with fail
            go_loopw [86] (fun i wr => ∃ m : Nat, i = .int .i64 m ∧ m ≤ x.1.writes.length ∧ Below w.heap.size w wr ∧ Blk wr b6 (pcA x) 36 ∧ Blk wr b7 (pcA y) 36) (fun i _ => x.1.writes.length - (intOf i).toNat)
            case atStart => exact ⟨0, rfl, Nat.zero_le _, hS.out⟩
            case round =>
              clear hS
              obtain ⟨m, rfl, hm, hS⟩ := hrel
              by_cases hlm : m < x.1.writes.length
              · have hlm' : (m : Int) < (x.1.writes.length : Int) := by omega
                obtain ⟨p, hp⟩ : ∃ p, x.1.writes[m]? = some p := ⟨_, List.getElem?_eq_getElem hlm⟩
                obtain ⟨br, or_, rfl, _, _⟩ := hww.out m p hp
                obtain ⟨br', or', rfl, _, _⟩ := hww'.out m p hp
                have hr : Hid (∀ W, Below w.heap.size w W → W.cell? ⟨br, or_ + m, none⟩ = some (.int .u16 p)) := fun W hW => by have := ((hww.out.below hW).at' hp).2 0 _ rfl; simpa using this
                have hr' : Hid (∀ W, Below w.heap.size w W → W.cell? ⟨br', or' + m, none⟩ = some (.int .u16 p)) := fun W hW => by have := ((hww'.out.below hW).at' hp).2 0 _ rfl; simpa using this
                clear hp
                go_upto_region 18 with (fail)
                refine wp_region_held (S := (fun w' => Below w.heap.size w w' ∧ Blk w' b6 (pcA x) 36 ∧ Blk w' b7 (pcA y) 36)) (by kernel_rfl) ?_
                change wpAnyH _ _ _ _ _ _ _ _ (World.drew _)
                (try simp only [Act.put])
                have hS2 := And.intro hS.1.drew (And.intro hS.2.1.drew hS.2.2.drew)
                clear hS
                have hS := hS2
                clear hS2
                generalize wr.drew = V at *
                refine anyH_pure 0 _ ?_ rfl (by kernel_rfl) (by kernel_rfl) (by kernel_rfl) (fun _ _ _ h => h) rfl ?_ hS ?_
                rotate_left
                · (intro w'; go_simp; (try with_reducible rfl))
                (try simp only [Act.put, Z1, Z2, Z4, Z5, Z6])
                refine anyH_if 1 _ ?_ rfl (by kernel_rfl) (by kernel_rfl) (by kernel_rfl) (fun _ _ _ h => h) rfl ?_ hS ?_
                rotate_left
                · (intro w' h; have c0 := (show w'.cell? ⟨b6, 4, none⟩ = some (.slice (some ⟨br, or_, none⟩) x.1.writes.length capw) by rw [h.2.1.cell, ← hwv.out]; rfl); go_simp; (try with_reducible rfl))
                (try simp only [Act.put, Z1, Z2, Z3, Z4, Z5, Z6])
                refine anyH_pure 2 _ ?_ rfl (by kernel_rfl) (by kernel_rfl) (by kernel_rfl) (fun _ _ _ h => h) rfl ?_ hS ?_
                rotate_left
                · (intro w'; go_simp; (try with_reducible rfl))
                (try simp only [Act.put, Z1, Z2, Z3, Z4, Z5, Z6])
                refine anyH_pure 3 _ ?_ rfl (by kernel_rfl) (by kernel_rfl) (by kernel_rfl) (fun _ _ _ h => h) rfl ?_ hS ?_
                rotate_left
                · (intro w'; go_simp; (try with_reducible rfl))
                (try simp only [Act.put, Z1, Z2, Z3, Z4, Z5, Z6])
                refine anyH_if 4 _ ?_ rfl (by kernel_rfl) (by kernel_rfl) (by kernel_rfl) (fun _ _ _ h => h) rfl ?_ hS ?_
                rotate_left
                · (intro w' h; have c0 := hr.out w' h.1; go_simp; (try with_reducible rfl))
                (try simp only [Act.put, Z1, Z2, Z3, Z4, Z5, Z6])
                refine anyH_pure 5 _ ?_ rfl (by kernel_rfl) (by kernel_rfl) (by kernel_rfl) (fun _ _ _ h => h) rfl ?_ hS ?_
                rotate_left
                · (intro w'; go_simp; (try with_reducible rfl))
                (try simp only [Act.put, Z1, Z2, Z3, Z4, Z5, Z6])
                refine anyH_if 6 _ ?_ rfl (by kernel_rfl) (by kernel_rfl) (by kernel_rfl) (fun _ _ _ h => h) rfl ?_ hS ?_
                rotate_left
                · (intro w' h; have c0 := (show w'.cell? ⟨b7, 4, none⟩ = some (.slice (some ⟨br', or', none⟩) x.1.writes.length capw') by rw [h.2.2.cell, ← hwv'.out]; rfl); go_simp; (try with_reducible rfl))
                (try simp only [Act.put, Z1, Z2, Z3, Z4, Z5, Z6])
                refine anyH_pure 7 _ ?_ rfl (by kernel_rfl) (by kernel_rfl) (by kernel_rfl) (fun _ _ _ h => h) rfl ?_ hS ?_
                rotate_left
                · (intro w'; go_simp; (try with_reducible rfl))
                (try simp only [Act.put, Z1, Z2, Z3, Z4, Z5, Z6])
                refine anyH_pure 8 _ ?_ rfl (by kernel_rfl) (by kernel_rfl) (by kernel_rfl) (fun _ _ _ h => h) rfl ?_ hS ?_
                rotate_left
                · (intro w'; go_simp; (try with_reducible rfl))
                (try simp only [Act.put, Z1, Z2, Z3, Z4, Z5, Z6])
                refine anyH_if 9 _ ?_ rfl (by kernel_rfl) (by kernel_rfl) (by kernel_rfl) (fun _ _ _ h => h) rfl ?_ hS ?_
                rotate_left
                · (intro w' h; have c0 := hr'.out w' h.1; go_simp; (try with_reducible rfl))
                (try simp only [Act.put, Z1, Z2, Z3, Z4, Z5, Z6])
                refine anyH_pure 10 _ ?_ rfl (by kernel_rfl) (by kernel_rfl) (by kernel_rfl) (fun _ _ _ h => h) rfl ?_ hS ?_
                rotate_left
                · (intro w'; go_simp; (try with_reducible rfl))
                (try simp only [Act.put, Z1, Z2, Z3, Z4, Z5, Z6])
                refine wpAnyH_done (by kernel_rfl) ?_ _
                clear hr hr'
                go_wp2_with fail
                go_roundw
                case rel => exact ⟨m + 1, by go_num, by omega, hS⟩
                case measure => simp [intOf]; omega
              · obtain rfl : m = x.1.writes.length := by omega
                clear hlm
                go_wp2_with fail
                go_roundw
                case rel => exact ⟨k + 1, by go_num, by omega, hS.1⟩
                case measure => simp [intOf]; omega
    · obtain rfl : k = R.length := by omega
      clear hlt
      go_wp2_with fail
      go_ret
      exact ⟨rfl, hS⟩
end Go.Proofs.Ytnemaolbmocncaa
