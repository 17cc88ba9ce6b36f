/- The walk of Do: a call. -/
import Derived.Test.YtnemaolbmocncaaMdOf
namespace Go.Proofs.Ytnemaolbmocncaa
open Go.RowKit
set_option linter.unusedSimpArgs false
set_option linter.unusedVariables false
theorem OfS.done {base : Nat} {w w8 w9 : World} {m m2 : MW} {M2 : P.Md} (e : m2.c = m.c) (hms : MS base w8 m2 M2) (lt : ∀ b, m.own b → b < w.heap.size) (hf : Fr m.own w w8) (hown : ∀ b, m2.own b → m.own b ∨ w.heap.size + 1 < b) (k : Fr (fun i => i = w.heap.size + 1) w8 w9) :
    ∃ m', m'.c = m.c ∧ MS base w9 m' M2 ∧ Fr m.own w w9 ∧ ∀ b, m'.own b → m.own b ∨ w.heap.size ≤ b := by
  refine ⟨m2, e, hms.fr k (fun b hb e => ?_), hf.trans k (fun i hi e => by omega), fun b hb => ?_⟩
  · rcases hown b hb with h | h
    · have := lt b h; omega
    · omega
  · rcases hown b hb with h | h
    · exact .inl h
    · right; omega
theorem OfS.setC {base : Nat} {w wr : World} {m : MW} {M M' : P.Md} {c : P.Cl} (h : OfS base w wr m M c) (i : Nat) (v : Value) (ho : M'.old = M.old) (hl : M'.live = M.live)
    (hc : (#[.int .i64 M.pages, .int .u32 M.last, .int .u32 M.max, .int .u64 M.count, .map (some m.o), .map (some m.l), .bool M.shut] : Array Value).setIfInBounds i v = #[.int .i64 M'.pages, .int .u32 M'.last, .int .u32 M'.max, .int .u64 M'.count, .map (some m.o), .map (some m.l), .bool M'.shut]) :
    MS base (wr.setCell ⟨m.c, i, none⟩ v) m M' ∧ Blk (wr.setCell ⟨m.c, i, none⟩ v) w.heap.size (clA c) 59 ∧ Blk (wr.setCell ⟨m.c, i, none⟩ v) (w.heap.size + 1) (rpA ⟨0, 0, 0, P.zb⟩) 56 ∧ Fr m.own w (wr.setCell ⟨m.c, i, none⟩ v) := by
  obtain ⟨h1, h2⟩ := h.ms.setC i v ho hl hc
  have hlt := h.lt _ ⟨.c, rfl⟩
  exact ⟨h1, h.box.fr h2 (fun e => by have e' : w.heap.size = m.c := e; omega), h.res.fr h2 (fun e => by have e' : w.heap.size + 1 = m.c := e; omega), (Fr.of_below h.below m.own).trans h2 fun i hi e => by rw [e]; exact ⟨.c, rfl⟩⟩
theorem cl_load {w : World} {b : Nat} {c : P.Cl} (h : Blk w b (clA c) 59) {a : Act} {o : Oper} {x : Operand} (ho : o.op = .load 59 x) (hx : a.eval x = .pointer (some ⟨b, 0, none⟩)) : (execOp a.eval o).run Try.prog w = .ok (.value (.agg (clA c))) w :=
  run_load_cs ho hx h Try.underlying59 rfl (by kernel_rfl)
set_option maxRecDepth 100000 in
set_option maxHeartbeats 16000000 in
theorem do_any {base : Nat} {w : World} {m : MW} {M : P.Md} {c : P.Cl} {k : Nat} (h : MS base w m M) (ok : P.Ok M k) (hk : k ≤ 1000) (hc : ClOk c) :
    Calls Try.prog 18 #[.pointer (some ⟨m.c, 0, none⟩), .agg (clA c)] w fun e w' => e = .returned (.agg (rpA (P.step M c).2)) ∧
      ∃ m', m'.c = m.c ∧ MS base w' m' (P.step M c).1 ∧ Fr m.own w w' ∧ ∀ b, m'.own b → m.own b ∨ w.heap.size ≤ b := by
  have hz40 := zero40.1
  have e1 : (w.alloc (.cells (clA c) 59)).heap.size = w.heap.size + 1 := by simp
  have hS : OfS base w ((w.alloc (.cells (clA c) 59)).alloc (.cells (rpA ⟨0, 0, 0, P.zb⟩) 56)) m M c := ⟨((Below.refl _ _).alloc (Nat.le_refl _) _).alloc (by simp) _, (h.alloc _).alloc _, (Blk.alloc_new _ _ _).alloc _, by
    have := Blk.alloc_new (w.alloc (.cells (clA c) 59)) (rpA ⟨0, 0, 0, P.zb⟩) 56
    rwa [e1] at this, h.lt⟩
  have hlt := Lib.hid h.lt
  go_enter Try.func18, Try.ntmps18
  go_upto_region 1 with (fail)
  generalize (w.alloc (.cells (clA c) 59)).alloc (.cells (rpA ⟨0, 0, 0, P.zb⟩) 56) = V at *
  cases hsh : M.shut with
  | true =>
    have HC : Hid (P.step M c = (M, P.err 12)) := by unfold Hid P.step; rw [if_pos hsh]
    have c6 := hS.ms.c6
    rw [hsh] at c6
    clear hsh
    refine no_implicit_lambda% (wp_region_lit ?_)
    iterate 6
      refine no_implicit_lambda% (wpl_val ?_ rfl ?_ ?_)
      rotate_left
      · (go_simp; (try with_reducible rfl))
      (try simp only [Act.put, Z1, Z2, Z3, Z4, Z5, Z6])
    refine no_implicit_lambda% (wpl_val ?_ rfl ?_ ?_)
    rotate_left
    · (have c0 := c6; go_simp; (try with_reducible rfl))
    (try simp only [Act.put, Z1, Z2, Z3, Z4, Z5, Z6])
    refine no_implicit_lambda% (wpl_val ?_ rfl ?_ ?_)
    rotate_left
    · (go_simp; (try with_reducible rfl))
    (try simp only [Act.put, Z1, Z2, Z3, Z4, Z5, Z6])
    refine no_implicit_lambda% (wpList_nil ?_)
    go_upto_region 2 with (fail)
    refine no_implicit_lambda% (wp_region_lit ?_)
    refine wpList_buildE rfl 56 _ rfl (rpA ⟨12, 0, 0, P.zb⟩) (by go_simp; exact b40_0 _) ?_
    (try simp only [Act.put, Z1, Z2, Z3, Z4, Z5, Z6])
    refine wpList_store_fr rfl 56 _ _ rfl (w.heap.size + 1) (rpA ⟨12, 0, 0, P.zb⟩) rfl rfl 56 _ hS.res (size40 _) (by simp only [rpA_size]) (rpA_one _) ?_
    intro w9 hB9 hF9
    refine no_implicit_lambda% (wpList_nil ?_)
    go_wp2_with fail
    refine bodyPost_ret (v := .agg (rpA ⟨12, 0, 0, P.zb⟩)) ?_ rfl ?_
    · exact results_cell_row rfl _ _ (w.heap.size + 1) 56 (rpA ⟨12, 0, 0, P.zb⟩) (0, 0) _ rfl hB9 Try.underlying56 rfl (size40 _)
    rw [HC.out]
    exact ⟨rfl, hS.fin hF9⟩
  | false =>
    have HSH := Lib.hid hsh
    have c6 := hS.ms.c6
    rw [hsh] at c6
    clear hsh
    refine no_implicit_lambda% (wp_region_lit ?_)
    iterate 6
      refine no_implicit_lambda% (wpl_val ?_ rfl ?_ ?_)
      rotate_left
      · (go_simp; (try with_reducible rfl))
      (try simp only [Act.put, Z1, Z2, Z3, Z4, Z5, Z6])
    refine no_implicit_lambda% (wpl_val ?_ rfl ?_ ?_)
    rotate_left
    · (have c0 := c6; go_simp; (try with_reducible rfl))
    (try simp only [Act.put, Z1, Z2, Z3, Z4, Z5, Z6])
    refine no_implicit_lambda% (wpl_val ?_ rfl ?_ ?_)
    rotate_left
    · (go_simp; (try with_reducible rfl))
    (try simp only [Act.put, Z1, Z2, Z3, Z4, Z5, Z6])
    refine no_implicit_lambda% (wpList_nil ?_)
    go_upto_region 3 with (fail)
    refine no_implicit_lambda% (wp_region_lit ?_)
    refine no_implicit_lambda% (wpl_val ?_ rfl ?_ ?_)
    rotate_left
    · (go_simp; (try with_reducible rfl))
    (try simp only [Act.put, Z1, Z2, Z4, Z5, Z6])
    refine no_implicit_lambda% (wpl_val ?_ rfl ?_ ?_)
    rotate_left
    · (have c0 := hS.b0; go_simp; (try with_reducible rfl))
    (try simp only [Act.put, Z1, Z2, Z3, Z4, Z5, Z6])
    refine no_implicit_lambda% (wpList_nil ?_)
    by_cases h0 : c.kind = 0
    · have hk0 : (c.kind == 0) = true := by simp [h0]
      have hlen := run_lenA (P := Try.prog) Try.underlying88 hS.ms.l 3
      have hll : m.txs.length = M.live.length := by rw [h.live, List.length_map]
      rw [List.length_map, hll] at hlen
      replace hlen := Lib.hid hlen
      by_cases h8 : M.live.length = 8
      · have HC : Hid (P.step M c = (M, P.err 10)) := by
          unfold Hid P.step
          rw [if_neg (by rw [HSH.out]; simp), if_pos h0, if_pos h8]
        have hl8 : ((M.live.length : Int) == 8) = true := by simp [h8]
        clear h0 hll h8
        go_upto_region 5 with (fail)
        refine no_implicit_lambda% (wp_region_lit ?_)
        iterate 3
          refine no_implicit_lambda% (wpl_val ?_ rfl ?_ ?_)
          rotate_left
          · (go_simp; (try with_reducible rfl))
          (try simp only [Act.put, Z1, Z2, Z3, Z4, Z5, Z6])
        refine no_implicit_lambda% (wpl_val ?_ rfl ?_ ?_)
        rotate_left
        · (have c0 := hS.ms.c5; go_simp; (try with_reducible rfl))
        (try simp only [Act.put, Z1, Z2, Z3, Z4, Z5, Z6])
        refine no_implicit_lambda% (wpl_val ?_ rfl ?_ ?_)
        rotate_left
        · (have c0 := hlen.out; go_simp; (try with_reducible rfl))
        (try simp only [Act.put, Z1, Z2, Z3, Z4, Z5, Z6])
        refine no_implicit_lambda% (wpl_val ?_ rfl ?_ ?_)
        rotate_left
        · (go_simp; (try with_reducible rfl))
        (try simp only [Act.put, Z1, Z2, Z3, Z4, Z5, Z6])
        refine no_implicit_lambda% (wpList_nil ?_)
        go_upto_region 6 with (fail)
        refine no_implicit_lambda% (wp_region_lit ?_)
        refine wpList_buildE rfl 56 _ rfl (rpA ⟨10, 0, 0, P.zb⟩) (by go_simp; exact b40_0 _) ?_
        (try simp only [Act.put, Z1, Z2, Z3, Z4, Z5, Z6])
        refine wpList_store_fr rfl 56 _ _ rfl (w.heap.size + 1) (rpA ⟨10, 0, 0, P.zb⟩) rfl rfl 56 _ hS.res (size40 _) (by simp only [rpA_size]) (rpA_one _) ?_
        intro w9 hB9 hF9
        refine no_implicit_lambda% (wpList_nil ?_)
        go_wp2_with fail
        refine bodyPost_ret (v := .agg (rpA ⟨10, 0, 0, P.zb⟩)) ?_ rfl ?_
        · exact results_cell_row rfl _ _ (w.heap.size + 1) 56 (rpA ⟨10, 0, 0, P.zb⟩) (0, 0) _ rfl hB9 Try.underlying56 rfl (size40 _)
        rw [HC.out]
        exact ⟨rfl, hS.fin hF9⟩
      · have HC : Hid (P.step M c = ({ M with count := M.count + 1, live := put M.live (M.count + 1) ⟨M.last, []⟩ }, ⟨0, M.count + 1, M.last, P.zb⟩)) := by
          unfold Hid P.step
          rw [if_neg (by rw [HSH.out]; simp), if_pos h0, if_neg h8]
        have hl8 : ((M.live.length : Int) == 8) = false := by simp; omega
        have hwr : IntKind.u64.wrap ((M.count : Int) + 1) = (M.count : Int) + 1 := by
          have := ok.cnt
          exact IntWalk.u64_in _ (by omega)
        have HG : Hid (get m.txs ((M.count : Int) + 1) = none) := by
          refine get_none fun p hp e => ?_
          have := ok.key (p.1, p.2.2.2) (by rw [h.live]; exact List.mem_map_of_mem (f := fun x : Int × Nat × Nat × P.Tx => (x.1, x.2.2.2)) hp)
          have e' : p.1 = _ := e
          have : p.1 ≤ M.count := this.2
          omega
        clear h0 hll h8
        go_upto_region 5 with (fail)
        refine no_implicit_lambda% (wp_region_lit ?_)
        iterate 3
          refine no_implicit_lambda% (wpl_val ?_ rfl ?_ ?_)
          rotate_left
          · (go_simp; (try with_reducible rfl))
          (try simp only [Act.put, Z1, Z2, Z3, Z4, Z5, Z6])
        refine no_implicit_lambda% (wpl_val ?_ rfl ?_ ?_)
        rotate_left
        · (have c0 := hS.ms.c5; go_simp; (try with_reducible rfl))
        (try simp only [Act.put, Z1, Z2, Z3, Z4, Z5, Z6])
        refine no_implicit_lambda% (wpl_val ?_ rfl ?_ ?_)
        rotate_left
        · (have c0 := hlen.out; go_simp; (try with_reducible rfl))
        (try simp only [Act.put, Z1, Z2, Z3, Z4, Z5, Z6])
        refine no_implicit_lambda% (wpl_val ?_ rfl ?_ ?_)
        rotate_left
        · (go_simp; (try with_reducible rfl))
        (try simp only [Act.put, Z1, Z2, Z3, Z4, Z5, Z6])
        refine no_implicit_lambda% (wpList_nil ?_)
        clear hlen
        go_upto_region 7 with (fail)
        refine no_implicit_lambda% (wp_region_lit ?_)
        iterate 3
          refine no_implicit_lambda% (wpl_val ?_ rfl ?_ ?_)
          rotate_left
          · (go_simp; (try with_reducible rfl))
          (try simp only [Act.put, Z1, Z2, Z3, Z4, Z5, Z6])
        refine no_implicit_lambda% (wpl_val ?_ rfl ?_ ?_)
        rotate_left
        · (have c0 := hS.ms.c3; go_simp; (try with_reducible rfl))
        (try simp only [Act.put, Z1, Z2, Z3, Z4, Z5, Z6])
        iterate 3
          refine no_implicit_lambda% (wpl_val ?_ rfl ?_ ?_)
          rotate_left
          · (go_simp; (try with_reducible rfl))
          (try simp only [Act.put, Z1, Z2, Z3, Z4, Z5, Z6])
        obtain ⟨hms1, hbox1, hres1, hfr1⟩ := hS.setC (M' := { M with count := M.count + 1 }) 3 (.int .u64 ((M.count : Int) + 1)) rfl rfl rfl
        have hc3 := hS.ms.c3
        have hf3 := hS.ms.c.free 3
        have hsz1 : w.heap.size + 1 < V.heap.size := hS.res.lt
        have hsz2 : (V.setCell ⟨m.c, 3, none⟩ (.int .u64 ((M.count : Int) + 1))).heap.size = V.heap.size := by simp [World.setCell]
        refine wpl_law rfl (wp_store_one 52 _ _ rfl ⟨m.c, 3, none⟩ _ (.int .u64 ((M.count : Int) + 1)) rfl rfl (by kernel_rfl) rfl hc3 hf3 ?_)
        (try simp only [Act.put, Z1, Z2, Z3, Z4, Z5, Z6])
        refine no_implicit_lambda% (wpList_nil ?_)
        generalize V.setCell ⟨m.c, 3, none⟩ (.int .u64 ((M.count : Int) + 1)) = V1 at *
        rw [← hsz2] at hsz1
        clear hsz2 hS hc3 hf3
        go_upto_region 8 with (fail)
        refine wp_region_K (k := 15) (S := (fun w' => MS base w' m { M with count := M.count + 1 })) (by kernel_rfl) ?_
        change wpAnyK _ _ _ _ _ _ _ _ _ (World.drew _)
        (try simp only [Act.put])
        have hS := hms1.drew
        replace hres1 := hres1.drew
        replace hfr1 := hfr1.drew
        have hsz1' : w.heap.size + 1 < V1.drew.heap.size := hsz1
        generalize V1.drew = V2 at *
        clear hms1 hbox1 hsz1
        refine anyK_pure 0 _ ?_ rfl (by kernel_rfl) (by kernel_rfl) (by kernel_rfl) (fun _ _ _ h => h) (by decide) rfl ?_ hS ?_
        rotate_left
        · (intro w'; go_simp; (try with_reducible rfl))
        (try simp only [Act.put, Z1, Z2, Z4, Z5, Z6])
        refine anyK_pure 1 _ ?_ rfl (by kernel_rfl) (by kernel_rfl) (by kernel_rfl) (fun _ _ _ h => h) (by decide) rfl ?_ hS ?_
        rotate_left
        · (intro w'; go_simp; (try with_reducible rfl))
        (try simp only [Act.put, Z1, Z2, Z3, Z4, Z5, Z6])
        refine anyK_pure 2 _ ?_ rfl (by kernel_rfl) (by kernel_rfl) (by kernel_rfl) (fun _ _ _ h => h) (by decide) rfl ?_ hS ?_
        rotate_left
        · (intro w'; go_simp; (try with_reducible rfl))
        (try simp only [Act.put, Z1, Z2, Z3, Z4, Z5, Z6])
        refine anyK_if 3 _ ?_ rfl (by kernel_rfl) (by kernel_rfl) (by kernel_rfl) (fun _ _ _ h => h) (by decide) (by kernel_rfl) (by kernel_rfl) rfl ?_ hS ?_
        rotate_left
        · (intro w' h; have c0 := h.c5; go_simp; (try with_reducible rfl))
        (try simp only [Act.put, Z1, Z2, Z3, Z4, Z5, Z6])
        refine anyK_pure 4 _ ?_ rfl (by kernel_rfl) (by kernel_rfl) (by kernel_rfl) (fun _ _ _ h => h) (by decide) rfl ?_ hS ?_
        rotate_left
        · (intro w'; go_simp; (try with_reducible rfl))
        (try simp only [Act.put, Z1, Z2, Z3, Z4, Z5, Z6])
        refine anyK_pure 5 _ ?_ rfl (by kernel_rfl) (by kernel_rfl) (by kernel_rfl) (fun _ _ _ h => h) (by decide) rfl ?_ hS ?_
        rotate_left
        · (intro w'; go_simp; (try with_reducible rfl))
        (try simp only [Act.put, Z1, Z2, Z3, Z4, Z5, Z6])
        refine anyK_pure 6 _ ?_ rfl (by kernel_rfl) (by kernel_rfl) (by kernel_rfl) (fun _ _ _ h => h) (by decide) rfl ?_ hS ?_
        rotate_left
        · (intro w'; go_simp; (try with_reducible rfl))
        (try simp only [Act.put, Z1, Z2, Z3, Z4, Z5, Z6])
        refine anyK_if 7 _ ?_ rfl (by kernel_rfl) (by kernel_rfl) (by kernel_rfl) (fun _ _ _ h => h) (by decide) (by kernel_rfl) (by kernel_rfl) rfl ?_ hS ?_
        rotate_left
        · (intro w' h; have c0 := (show w'.cell? ⟨m.c, 3, none⟩ = some (.int .u64 ((M.count : Int) + 1)) from h.c3); go_simp; (try with_reducible rfl))
        (try simp only [Act.put, Z1, Z2, Z3, Z4, Z5, Z6])
        refine anyK_pure 8 _ ?_ rfl (by kernel_rfl) (by kernel_rfl) (by kernel_rfl) (fun _ _ _ h => h) (by decide) rfl ?_ hS ?_
        rotate_left
        · (intro w'; go_simp; (try with_reducible rfl))
        (try simp only [Act.put, Z1, Z2, Z3, Z4, Z5, Z6])
        refine anyK_pure 9 _ ?_ rfl (by kernel_rfl) (by kernel_rfl) (by kernel_rfl) (fun _ _ _ h => h) (by decide) rfl ?_ hS ?_
        rotate_left
        · (intro w'; go_simp; (try with_reducible rfl))
        (try simp only [Act.put, Z1, Z2, Z3, Z4, Z5, Z6])
        refine anyK_pure 10 _ ?_ rfl (by kernel_rfl) (by kernel_rfl) (by kernel_rfl) (fun _ _ _ h => h) (by decide) rfl ?_ hS ?_
        rotate_left
        · (intro w'; go_simp; (try with_reducible rfl))
        (try simp only [Act.put, Z1, Z2, Z3, Z4, Z5, Z6])
        refine anyK_if 11 _ ?_ rfl (by kernel_rfl) (by kernel_rfl) (by kernel_rfl) (fun _ _ _ h => h) (by decide) (by kernel_rfl) (by kernel_rfl) rfl ?_ hS ?_
        rotate_left
        · (intro w' h; have c0 := h.c1; go_simp; (try with_reducible rfl))
        (try simp only [Act.put, Z1, Z2, Z3, Z4, Z5, Z6])
        have hnb := MapAt.made V2 .u16
        have s1 : (V2.alloc (.map #[] 0)).heap.size = V2.heap.size + 1 := by simp
        refine anyK_one 12 _ (by kernel_rfl) rfl rfl (wp_of_run (v := .map (some V2.heap.size)) (w' := V2.alloc (.map #[] 0)) (by have c0 := @run_makeMap Try.prog; go_simp) ⟨hS.alloc _, ?_⟩)
        replace hS := hS.alloc (.map #[] 0)
        (try simp only [Act.put, Z1, Z2, Z3, Z4, Z5, Z6])
        refine anyK_pure 13 _ (.agg #[.int .u32 M.last, .map (some V2.heap.size)]) rfl (by kernel_rfl) (by kernel_rfl) (by kernel_rfl) (fun _ _ _ h => h) (by decide) rfl (fun w' => run_buildE rfl (by go_simp; exact b62_01 M.last V2.heap.size)) hS ?_
        (try simp only [Act.put, Z1, Z2, Z3, Z4, Z5, Z6])
        refine anyK_one 14 _ (by kernel_rfl) rfl rfl (wp_of_run (v := .pointer (some ⟨V2.heap.size + 1, 0, none⟩)) (w' := (V2.alloc (.map #[] 0)).alloc (.cells #[.int .u32 M.last, .map (some V2.heap.size)] 94)) (by go_simp; try exact ⟨rfl, rfl⟩) ⟨hS.alloc _, ?_⟩)
        have htb := Blk.alloc_new (V2.alloc (.map #[] 0)) #[.int .u32 M.last, .map (some V2.heap.size)] 94
        rw [s1] at htb
        replace hnb := hnb.fr ((Fr.refl (fun _ => False) _).alloc (.cells #[.int .u32 M.last, .map (some V2.heap.size)] 94)) id
        replace hres1 := (hres1.alloc (.map #[] 0)).alloc (.cells #[.int .u32 M.last, .map (some V2.heap.size)] 94)
        replace hfr1 := (hfr1.alloc (.map #[] 0)).alloc (.cells #[.int .u32 M.last, .map (some V2.heap.size)] 94)
        replace hS := hS.alloc (.cells #[.int .u32 M.last, .map (some V2.heap.size)] 94)
        (try simp only [Act.put, Z1, Z2, Z3, Z4, Z5, Z6])
        generalize (V2.alloc (.map #[] 0)).alloc (.cells #[.int .u32 M.last, .map (some V2.heap.size)] 94) = V3 at *
        generalize V2.heap.size = nb at *
        clear s1
        obtain ⟨w8, hu, hm8, hf8⟩ := run_updateA Try.underlying88 Try.underlying52 hS.l ((M.count : Int) + 1) (.pointer (some ⟨nb + 1, 0, none⟩))
        have hlm : m.l < w.heap.size := hlt.out _ ⟨.l, rfl⟩
        have hbl : base ≤ m.l := hS.lo .l _ rfl
        obtain ⟨m2, e2, hms2, hown2⟩ := hS.addTx (t := nb + 1) (n := nb) (T := ⟨M.last, []⟩) HG.out hf8 hm8 ⟨htb.fr hf8 (fun e => by have e' : nb + 1 = m.l := e; omega), hnb.fr hf8 (fun e => by have e' : nb = m.l := e; omega)⟩
          (fun e => by have := hlt.out _ e; omega) (fun e => by have := hlt.out _ e; omega) (by omega) (by omega) (by omega)
        have hres8 := hres1.fr hf8 (fun e => by have e' : w.heap.size + 1 = m.l := e; omega)
        have hfr8 := hfr1.trans hf8 (fun i hi e => by rw [e]; exact ⟨.l, rfl⟩)
        refine anyK_last _ (by kernel_rfl) rfl (by decide) rfl (wp_mapUpdateE rfl rfl rfl rfl hu ?_)
        clear hu hm8 hf8 hnb htb hres1 hfr1 hS
        (try simp only [Act.put, Z1, Z2, Z3, Z4, Z5, Z6])
        refine anyK_done (by kernel_rfl) ?_ _
        go_upto_region 9 with (fail)
        have c3 : w8.drew.cell? ⟨m.c, 3, none⟩ = some (.int .u64 ((M.count : Int) + 1)) := by rw [← e2]; exact hms2.drew.c3
        have c1 : w8.drew.cell? ⟨m.c, 1, none⟩ = some (.int .u32 M.last) := by rw [← e2]; exact hms2.drew.c1
        replace hms2 := hms2.drew
        replace hres8 := hres8.drew
        replace hfr8 := hfr8.drew
        refine wp_region_K (k := 9) (S := (fun w' => w'.cell? ⟨m.c, 3, none⟩ = some (.int .u64 ((M.count : Int) + 1)) ∧ w'.cell? ⟨m.c, 1, none⟩ = some (.int .u32 M.last))) (by kernel_rfl) ?_
        change wpAnyK _ _ _ _ _ _ _ _ _ (World.drew _)
        (try simp only [Act.put])
        have hS := And.intro c3 c1
        clear c3 c1
        generalize w8.drew = V4 at *
        refine anyK_pure 0 _ ?_ rfl (by kernel_rfl) (by kernel_rfl) (by kernel_rfl) (fun _ _ _ h => h) (by decide) rfl ?_ hS ?_
        rotate_left
        · (intro w'; go_simp; (try with_reducible rfl))
        (try simp only [Act.put, Z1, Z2, Z4, Z5, Z6])
        refine anyK_pure 1 _ ?_ rfl (by kernel_rfl) (by kernel_rfl) (by kernel_rfl) (fun _ _ _ h => h) (by decide) rfl ?_ hS ?_
        rotate_left
        · (intro w'; go_simp; (try with_reducible rfl))
        (try simp only [Act.put, Z1, Z2, Z3, Z4, Z5, Z6])
        refine anyK_pure 2 _ ?_ rfl (by kernel_rfl) (by kernel_rfl) (by kernel_rfl) (fun _ _ _ h => h) (by decide) rfl ?_ hS ?_
        rotate_left
        · (intro w'; go_simp; (try with_reducible rfl))
        (try simp only [Act.put, Z1, Z2, Z3, Z4, Z5, Z6])
        refine anyK_if 3 _ ?_ rfl (by kernel_rfl) (by kernel_rfl) (by kernel_rfl) (fun _ _ _ h => h) (by decide) (by kernel_rfl) (by kernel_rfl) rfl ?_ hS ?_
        rotate_left
        · (intro w' h; have c0 := h.1; go_simp; (try with_reducible rfl))
        (try simp only [Act.put, Z1, Z2, Z3, Z4, Z5, Z6])
        refine anyK_pure 4 _ ?_ rfl (by kernel_rfl) (by kernel_rfl) (by kernel_rfl) (fun _ _ _ h => h) (by decide) rfl ?_ hS ?_
        rotate_left
        · (intro w'; go_simp; (try with_reducible rfl))
        (try simp only [Act.put, Z1, Z2, Z3, Z4, Z5, Z6])
        refine anyK_pure 5 _ ?_ rfl (by kernel_rfl) (by kernel_rfl) (by kernel_rfl) (fun _ _ _ h => h) (by decide) rfl ?_ hS ?_
        rotate_left
        · (intro w'; go_simp; (try with_reducible rfl))
        (try simp only [Act.put, Z1, Z2, Z3, Z4, Z5, Z6])
        refine anyK_pure 6 _ ?_ rfl (by kernel_rfl) (by kernel_rfl) (by kernel_rfl) (fun _ _ _ h => h) (by decide) rfl ?_ hS ?_
        rotate_left
        · (intro w'; go_simp; (try with_reducible rfl))
        (try simp only [Act.put, Z1, Z2, Z3, Z4, Z5, Z6])
        refine anyK_if 7 _ ?_ rfl (by kernel_rfl) (by kernel_rfl) (by kernel_rfl) (fun _ _ _ h => h) (by decide) (by kernel_rfl) (by kernel_rfl) rfl ?_ hS ?_
        rotate_left
        · (intro w' h; have c0 := h.2; go_simp; (try with_reducible rfl))
        (try simp only [Act.put, Z1, Z2, Z3, Z4, Z5, Z6])
        refine anyK_pure 8 _ (.agg (rpA ⟨0, (M.count : Int) + 1, M.last, P.zb⟩)) rfl (by kernel_rfl) (by kernel_rfl) (by kernel_rfl) (fun _ _ _ h => h) (by decide) rfl (fun w' => run_buildE rfl (by go_simp; exact b40_12 _ _)) hS ?_
        (try simp only [Act.put, Z1, Z2, Z3, Z4, Z5, Z6])
        refine anyK_last _ (by kernel_rfl) rfl (by decide) rfl (wp_store_row 56 _ _ rfl (w.heap.size + 1) (rpA ⟨0, (M.count : Int) + 1, M.last, P.zb⟩) rfl rfl 56 _ hres8 (size40 _) (by simp only [rpA_size]) (rpA_one _) ?_)
        have hB9 := hres8.setRow (rpA ⟨0, (M.count : Int) + 1, M.last, P.zb⟩)
        have hF9 : Fr (fun i => i = w.heap.size + 1) V4 (V4.setRow (w.heap.size + 1) (rpA ⟨0, (M.count : Int) + 1, M.last, P.zb⟩)) := (Fr.refl _ _).setRow _ _ fun _ => rfl
        refine anyK_done (by kernel_rfl) ?_ _
        generalize World.setRow _ (w.heap.size + 1) (rpA ⟨0, (M.count : Int) + 1, M.last, P.zb⟩) = w9 at *
        go_wp2_with fail
        refine bodyPost_ret (v := .agg (rpA ⟨0, (M.count : Int) + 1, M.last, P.zb⟩)) ?_ rfl ?_
        · exact results_cell_row rfl _ _ (w.heap.size + 1) 56 (rpA ⟨0, (M.count : Int) + 1, M.last, P.zb⟩) (0, 0) _ rfl hB9 Try.underlying56 rfl (size40 _)
        rw [HC.out]
        refine ⟨rfl, OfS.done e2 hms2 hlt.out hfr8 (fun b hb => ?_) hF9⟩
        rcases hown2 b hb with e | e | e
        · exact .inl e
        · right; omega
        · right; omega
    · have hk0 : (c.kind == 0) = false := by simp [h0]
      by_cases h14 : c.kind = 1 ∨ c.kind = 2 ∨ c.kind = 3 ∨ c.kind = 4
      · have HC : Hid (P.step M c = P.of M c) := by
          unfold Hid P.step
          rw [if_neg (by rw [HSH.out]; simp), if_neg h0, if_pos h14]
        have hof := Lib.hid (fun w' (h : MS base w' m M) => mof_any (w := w') h ok hc)
        rcases h14 with h1 | h1 | h1 | h1
        · have hk1 : (c.kind == 1) = true := by simp [h1]
          clear h0 h1
          go_upto_region 14 with (fail)
          refine no_implicit_lambda% (wp_region_lit ?_)
          refine no_implicit_lambda% (wpl_val ?_ rfl ?_ ?_)
          rotate_left
          · (go_simp; (try with_reducible rfl))
          (try simp only [Act.put, Z1, Z2, Z4, Z5, Z6])
          refine wpl_val (.agg (clA c)) rfl (cl_load hS.box rfl rfl) ?_
          (try simp only [Act.put, Z1, Z2, Z3, Z4, Z5, Z6])
          have hcal := hof.out V hS.ms
          have hres := hS.res
          have hbel := hS.below
          generalize P.of M c = R at *
          obtain ⟨M9, r9⟩ := R
          refine wpl_call _ _ rfl (by go_simp) _ hcal ?_
          rintro e w6 ⟨rfl, m3, e3, hms3, hf6, hown3⟩
          refine ⟨_, rfl, ?_⟩
          have hlt8 := hf6.size
          have hres6 := hres.fr hf6 (fun e => by have := hlt.out _ e; omega)
          have hrl := hres.lt
          clear hcal hof hS
          (try simp only [Act.put, Z1, Z2, Z3, Z4, Z5, Z6])
          refine wpList_store_fr rfl 56 _ _ rfl (w.heap.size + 1) (rpA r9) rfl rfl 56 _ hres6 (size40 _) (by simp only [rpA_size]) (rpA_one _) ?_
          intro w9 hB9 hF9
          refine no_implicit_lambda% (wpList_nil ?_)
          go_wp2_with fail
          refine bodyPost_ret (v := .agg (rpA r9)) ?_ rfl ?_
          · exact results_cell_row rfl _ _ (w.heap.size + 1) 56 (rpA r9) (0, 0) _ rfl hB9 Try.underlying56 rfl (size40 _)
          rw [HC.out]
          exact ⟨rfl, OfS.done e3 hms3 hlt.out ((Fr.of_below hbel m.own).trans hf6 fun i hi e => e) (fun b hb => (hown3 b hb).imp id fun h => by omega) hF9⟩
        · have hk1 : (c.kind == 1) = false := by simp [h1]
          have hk2 : (c.kind == 2) = true := by simp [h1]
          clear h0 h1
          go_upto_region 14 with (fail)
          refine no_implicit_lambda% (wp_region_lit ?_)
          refine no_implicit_lambda% (wpl_val ?_ rfl ?_ ?_)
          rotate_left
          · (go_simp; (try with_reducible rfl))
          (try simp only [Act.put, Z1, Z2, Z4, Z5, Z6])
          refine wpl_val (.agg (clA c)) rfl (cl_load hS.box rfl rfl) ?_
          (try simp only [Act.put, Z1, Z2, Z3, Z4, Z5, Z6])
          have hcal := hof.out V hS.ms
          have hres := hS.res
          have hbel := hS.below
          generalize P.of M c = R at *
          obtain ⟨M9, r9⟩ := R
          refine wpl_call _ _ rfl (by go_simp) _ hcal ?_
          rintro e w6 ⟨rfl, m3, e3, hms3, hf6, hown3⟩
          refine ⟨_, rfl, ?_⟩
          have hlt8 := hf6.size
          have hres6 := hres.fr hf6 (fun e => by have := hlt.out _ e; omega)
          have hrl := hres.lt
          clear hcal hof hS
          (try simp only [Act.put, Z1, Z2, Z3, Z4, Z5, Z6])
          refine wpList_store_fr rfl 56 _ _ rfl (w.heap.size + 1) (rpA r9) rfl rfl 56 _ hres6 (size40 _) (by simp only [rpA_size]) (rpA_one _) ?_
          intro w9 hB9 hF9
          refine no_implicit_lambda% (wpList_nil ?_)
          go_wp2_with fail
          refine bodyPost_ret (v := .agg (rpA r9)) ?_ rfl ?_
          · exact results_cell_row rfl _ _ (w.heap.size + 1) 56 (rpA r9) (0, 0) _ rfl hB9 Try.underlying56 rfl (size40 _)
          rw [HC.out]
          exact ⟨rfl, OfS.done e3 hms3 hlt.out ((Fr.of_below hbel m.own).trans hf6 fun i hi e => e) (fun b hb => (hown3 b hb).imp id fun h => by omega) hF9⟩
        · have hk1 : (c.kind == 1) = false := by simp [h1]
          have hk2 : (c.kind == 2) = false := by simp [h1]
          have hk3 : (c.kind == 3) = true := by simp [h1]
          clear h0 h1
          go_upto_region 14 with (fail)
          refine no_implicit_lambda% (wp_region_lit ?_)
          refine no_implicit_lambda% (wpl_val ?_ rfl ?_ ?_)
          rotate_left
          · (go_simp; (try with_reducible rfl))
          (try simp only [Act.put, Z1, Z2, Z4, Z5, Z6])
          refine wpl_val (.agg (clA c)) rfl (cl_load hS.box rfl rfl) ?_
          (try simp only [Act.put, Z1, Z2, Z3, Z4, Z5, Z6])
          have hcal := hof.out V hS.ms
          have hres := hS.res
          have hbel := hS.below
          generalize P.of M c = R at *
          obtain ⟨M9, r9⟩ := R
          refine wpl_call _ _ rfl (by go_simp) _ hcal ?_
          rintro e w6 ⟨rfl, m3, e3, hms3, hf6, hown3⟩
          refine ⟨_, rfl, ?_⟩
          have hlt8 := hf6.size
          have hres6 := hres.fr hf6 (fun e => by have := hlt.out _ e; omega)
          have hrl := hres.lt
          clear hcal hof hS
          (try simp only [Act.put, Z1, Z2, Z3, Z4, Z5, Z6])
          refine wpList_store_fr rfl 56 _ _ rfl (w.heap.size + 1) (rpA r9) rfl rfl 56 _ hres6 (size40 _) (by simp only [rpA_size]) (rpA_one _) ?_
          intro w9 hB9 hF9
          refine no_implicit_lambda% (wpList_nil ?_)
          go_wp2_with fail
          refine bodyPost_ret (v := .agg (rpA r9)) ?_ rfl ?_
          · exact results_cell_row rfl _ _ (w.heap.size + 1) 56 (rpA r9) (0, 0) _ rfl hB9 Try.underlying56 rfl (size40 _)
          rw [HC.out]
          exact ⟨rfl, OfS.done e3 hms3 hlt.out ((Fr.of_below hbel m.own).trans hf6 fun i hi e => e) (fun b hb => (hown3 b hb).imp id fun h => by omega) hF9⟩
        · have hk1 : (c.kind == 1) = false := by simp [h1]
          have hk2 : (c.kind == 2) = false := by simp [h1]
          have hk3 : (c.kind == 3) = false := by simp [h1]
          have hk4 : (c.kind == 4) = true := by simp [h1]
          clear h0 h1
          go_upto_region 14 with (fail)
          refine no_implicit_lambda% (wp_region_lit ?_)
          refine no_implicit_lambda% (wpl_val ?_ rfl ?_ ?_)
          rotate_left
          · (go_simp; (try with_reducible rfl))
          (try simp only [Act.put, Z1, Z2, Z4, Z5, Z6])
          refine wpl_val (.agg (clA c)) rfl (cl_load hS.box rfl rfl) ?_
          (try simp only [Act.put, Z1, Z2, Z3, Z4, Z5, Z6])
          have hcal := hof.out V hS.ms
          have hres := hS.res
          have hbel := hS.below
          generalize P.of M c = R at *
          obtain ⟨M9, r9⟩ := R
          refine wpl_call _ _ rfl (by go_simp) _ hcal ?_
          rintro e w6 ⟨rfl, m3, e3, hms3, hf6, hown3⟩
          refine ⟨_, rfl, ?_⟩
          have hlt8 := hf6.size
          have hres6 := hres.fr hf6 (fun e => by have := hlt.out _ e; omega)
          have hrl := hres.lt
          clear hcal hof hS
          (try simp only [Act.put, Z1, Z2, Z3, Z4, Z5, Z6])
          refine wpList_store_fr rfl 56 _ _ rfl (w.heap.size + 1) (rpA r9) rfl rfl 56 _ hres6 (size40 _) (by simp only [rpA_size]) (rpA_one _) ?_
          intro w9 hB9 hF9
          refine no_implicit_lambda% (wpList_nil ?_)
          go_wp2_with fail
          refine bodyPost_ret (v := .agg (rpA r9)) ?_ rfl ?_
          · exact results_cell_row rfl _ _ (w.heap.size + 1) 56 (rpA r9) (0, 0) _ rfl hB9 Try.underlying56 rfl (size40 _)
          rw [HC.out]
          exact ⟨rfl, OfS.done e3 hms3 hlt.out ((Fr.of_below hbel m.own).trans hf6 fun i hi e => e) (fun b hb => (hown3 b hb).imp id fun h => by omega) hF9⟩
      · have hk1 : (c.kind == 1) = false := by simp; omega
        have hk2 : (c.kind == 2) = false := by simp; omega
        have hk3 : (c.kind == 3) = false := by simp; omega
        have hk4 : (c.kind == 4) = false := by simp; omega
        by_cases h5 : c.kind = 5
        · have HC : Hid (P.step M c = (M, P.ok 0 P.zb)) := by
            unfold Hid P.step
            rw [if_neg (by rw [HSH.out]; simp), if_neg h0, if_neg h14, if_pos (.inl h5)]
          have hk5 : (c.kind == 5) = true := by simp [h5]
          clear h0 h14 h5
          go_upto_region 17 with (fail)
          refine no_implicit_lambda% (wp_region_lit ?_)
          refine wpList_buildE rfl 56 _ rfl (rpA ⟨0, 0, 0, P.zb⟩) (by go_simp; exact b40) ?_
          (try simp only [Act.put, Z1, Z2, Z3, Z4, Z5, Z6])
          refine wpList_store_fr rfl 56 _ _ rfl (w.heap.size + 1) (rpA ⟨0, 0, 0, P.zb⟩) rfl rfl 56 _ hS.res (size40 _) (by simp only [rpA_size]) (rpA_one _) ?_
          intro w9 hB9 hF9
          refine no_implicit_lambda% (wpList_nil ?_)
          go_wp2_with fail
          refine bodyPost_ret (v := .agg (rpA ⟨0, 0, 0, P.zb⟩)) ?_ rfl ?_
          · exact results_cell_row rfl _ _ (w.heap.size + 1) 56 (rpA ⟨0, 0, 0, P.zb⟩) (0, 0) _ rfl hB9 Try.underlying56 rfl (size40 _)
          rw [HC.out]
          exact ⟨rfl, hS.fin hF9⟩
        · have hk5 : (c.kind == 5) = false := by simp [h5]
          by_cases h6 : c.kind = 6
          · have HC : Hid (P.step M c = (M, P.ok 0 P.zb)) := by
              unfold Hid P.step
              rw [if_neg (by rw [HSH.out]; simp), if_neg h0, if_neg h14, if_pos (.inr h6)]
            have hk6 : (c.kind == 6) = true := by simp [h6]
            clear h0 h14 h5 h6
            go_upto_region 17 with (fail)
            refine no_implicit_lambda% (wp_region_lit ?_)
            refine wpList_buildE rfl 56 _ rfl (rpA ⟨0, 0, 0, P.zb⟩) (by go_simp; exact b40) ?_
            (try simp only [Act.put, Z1, Z2, Z3, Z4, Z5, Z6])
            refine wpList_store_fr rfl 56 _ _ rfl (w.heap.size + 1) (rpA ⟨0, 0, 0, P.zb⟩) rfl rfl 56 _ hS.res (size40 _) (by simp only [rpA_size]) (rpA_one _) ?_
            intro w9 hB9 hF9
            refine no_implicit_lambda% (wpList_nil ?_)
            go_wp2_with fail
            refine bodyPost_ret (v := .agg (rpA ⟨0, 0, 0, P.zb⟩)) ?_ rfl ?_
            · exact results_cell_row rfl _ _ (w.heap.size + 1) 56 (rpA ⟨0, 0, 0, P.zb⟩) (0, 0) _ rfl hB9 Try.underlying56 rfl (size40 _)
            rw [HC.out]
            exact ⟨rfl, hS.fin hF9⟩
          · have hk6 : (c.kind == 6) = false := by simp [h6]
            by_cases h7 : c.kind = 7
            · have HC : Hid (P.step M c = ({ M with shut := true }, P.ok 0 P.zb)) := by
                unfold Hid P.step
                rw [if_neg (by rw [HSH.out]; simp), if_neg h0, if_neg h14, if_neg (by omega), if_pos h7]
              have hk7 : (c.kind == 7) = true := by simp [h7]
              clear h0 h14 h5 h6 h7
              go_upto_region 19 with (fail)
              refine no_implicit_lambda% (wp_region_lit ?_)
              iterate 3
                refine no_implicit_lambda% (wpl_val ?_ rfl ?_ ?_)
                rotate_left
                · (go_simp; (try with_reducible rfl))
                (try simp only [Act.put, Z1, Z2, Z3, Z4, Z5, Z6])
              obtain ⟨hms1, hbox1, hres1, hfr1⟩ := hS.setC (M' := { M with shut := true }) 6 (.bool true) rfl rfl rfl
              have hc6 := hS.ms.c6
              have hf6 := hS.ms.c.free 6
              have hsz1 : w.heap.size + 1 < V.heap.size := hS.res.lt
              refine wpl_law rfl (wp_store_one 4 _ _ rfl ⟨m.c, 6, none⟩ _ (.bool true) rfl rfl (by kernel_rfl) rfl hc6 hf6 ?_)
              (try simp only [Act.put, Z1, Z2, Z3, Z4, Z5, Z6])
              refine no_implicit_lambda% (wpList_nil ?_)
              generalize V.setCell ⟨m.c, 6, none⟩ (.bool true) = V1 at *
              clear hc6 hf6 hS c6
              go_upto_region 20 with (fail)
              refine no_implicit_lambda% (wp_region_lit ?_)
              refine wpList_buildE rfl 56 _ rfl (rpA ⟨0, 0, 0, P.zb⟩) (by go_simp; exact b40) ?_
              (try simp only [Act.put, Z1, Z2, Z3, Z4, Z5, Z6])
              refine wpList_store_fr rfl 56 _ _ rfl (w.heap.size + 1) (rpA ⟨0, 0, 0, P.zb⟩) rfl rfl 56 _ hres1 (size40 _) (by simp only [rpA_size]) (rpA_one _) ?_
              intro w9 hB9 hF9
              refine no_implicit_lambda% (wpList_nil ?_)
              go_wp2_with fail
              refine bodyPost_ret (v := .agg (rpA ⟨0, 0, 0, P.zb⟩)) ?_ rfl ?_
              · exact results_cell_row rfl _ _ (w.heap.size + 1) 56 (rpA ⟨0, 0, 0, P.zb⟩) (0, 0) _ rfl hB9 Try.underlying56 rfl (size40 _)
              rw [HC.out]
              exact ⟨rfl, OfS.done rfl hms1 hlt.out hfr1 (fun b hb => .inl hb) hF9⟩
            · have HC : Hid (P.step M c = (M, P.err 1)) := by
                unfold Hid P.step
                rw [if_neg (by rw [HSH.out]; simp), if_neg h0, if_neg h14, if_neg (by omega), if_neg h7]
              have hk7 : (c.kind == 7) = false := by simp [h7]
              clear h0 h14 h5 h6 h7
              go_upto_region 21 with (fail)
              refine no_implicit_lambda% (wp_region_lit ?_)
              refine wpList_buildE rfl 56 _ rfl (rpA ⟨1, 0, 0, P.zb⟩) (by go_simp; exact b40_0 _) ?_
              (try simp only [Act.put, Z1, Z2, Z3, Z4, Z5, Z6])
              refine wpList_store_fr rfl 56 _ _ rfl (w.heap.size + 1) (rpA ⟨1, 0, 0, P.zb⟩) rfl rfl 56 _ hS.res (size40 _) (by simp only [rpA_size]) (rpA_one _) ?_
              intro w9 hB9 hF9
              refine no_implicit_lambda% (wpList_nil ?_)
              go_wp2_with fail
              refine bodyPost_ret (v := .agg (rpA ⟨1, 0, 0, P.zb⟩)) ?_ rfl ?_
              · exact results_cell_row rfl _ _ (w.heap.size + 1) 56 (rpA ⟨1, 0, 0, P.zb⟩) (0, 0) _ rfl hB9 Try.underlying56 rfl (size40 _)
              rw [HC.out]
              exact ⟨rfl, hS.fin hF9⟩
set_option maxRecDepth 100000 in
set_option maxHeartbeats 4000000 in
theorem do_nil (w : World) (c : P.Cl) : Calls Try.prog 18 #[.pointer none, .agg (clA c)] w fun e w' => e = .returned (.agg (rpA (P.err 12))) ∧ Below w.heap.size w w' := by
  have hz40 := zero40.1
  have e1 : (w.alloc (.cells (clA c) 59)).heap.size = w.heap.size + 1 := by simp
  have hres := Blk.alloc_new (w.alloc (.cells (clA c) 59)) (rpA ⟨0, 0, 0, P.zb⟩) 56
  rw [e1] at hres
  have hbel : Below w.heap.size w ((w.alloc (.cells (clA c) 59)).alloc (.cells (rpA ⟨0, 0, 0, P.zb⟩) 56)) := ((Below.refl _ _).alloc (Nat.le_refl _) _).alloc (by simp) _
  have HC : Hid (P.err 12 = ⟨12, 0, 0, P.zb⟩) := rfl
  go_enter Try.func18, Try.ntmps18
  go_upto_region 1 with (fail)
  generalize (w.alloc (.cells (clA c) 59)).alloc (.cells (rpA ⟨0, 0, 0, P.zb⟩) 56) = V at *
  refine no_implicit_lambda% (wp_region_lit ?_)
  iterate 3
    refine no_implicit_lambda% (wpl_val ?_ rfl ?_ ?_)
    rotate_left
    · (go_simp; (try with_reducible rfl))
    (try simp only [Act.put, Z1, Z2, Z3, Z4, Z5, Z6])
  iterate 4
    refine no_implicit_lambda% (wpl_skip rfl ?_)
    (try simp only [Act.put, Z1, Z2, Z3, Z4, Z5, Z6])
  refine no_implicit_lambda% (wpl_val ?_ rfl ?_ ?_)
  rotate_left
  · (go_simp; (try with_reducible rfl))
  (try simp only [Act.put, Z1, Z2, Z3, Z4, Z5, Z6])
  refine no_implicit_lambda% (wpList_nil ?_)
  go_upto_region 2 with (fail)
  refine no_implicit_lambda% (wp_region_lit ?_)
  refine wpList_buildE rfl 56 _ rfl (rpA ⟨12, 0, 0, P.zb⟩) (by go_simp; exact b40_0 _) ?_
  (try simp only [Act.put, Z1, Z2, Z3, Z4, Z5, Z6])
  refine wpList_store_fr rfl 56 _ _ rfl (w.heap.size + 1) (rpA ⟨12, 0, 0, P.zb⟩) rfl rfl 56 _ hres (size40 _) (by simp only [rpA_size]) (rpA_one _) ?_
  intro w9 hB9 hF9
  refine no_implicit_lambda% (wpList_nil ?_)
  go_wp2_with fail
  refine bodyPost_ret (v := .agg (rpA ⟨12, 0, 0, P.zb⟩)) ?_ rfl ?_
  · exact results_cell_row rfl _ _ (w.heap.size + 1) 56 (rpA ⟨12, 0, 0, P.zb⟩) (0, 0) _ rfl hB9 Try.underlying56 rfl (size40 _)
  rw [HC.out]
  exact ⟨rfl, Fr.below hbel hF9 (Nat.le_refl _) fun i hi => by omega⟩
end Go.Proofs.Ytnemaolbmocncaa
