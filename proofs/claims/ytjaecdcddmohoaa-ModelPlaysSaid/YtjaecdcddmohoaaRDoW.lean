/- The walk of the document's Do: a call, answered and written down. -/
import Derived.Test.YtjaecdcddmohoaaAnsJ
namespace Go.Proofs.Ytjaecdcddmohoaa
open Go.RowKit
set_option linter.unusedSimpArgs false
set_option linter.unusedVariables false
/-- The document's machine, whole: its block c and its log's block lie above base. -/
structure RM (base : Nat) (w : World) (c : Nat) (v : Value) (pages : Int) (mx : Nat) (log : List P.De) : Prop where
  bk : Blk w c #[.int .i64 pages, .int .u32 mx, v] 30
  own : w.ownsRow base 64 72 v log.length (flatD log)
  ne : v.ownBlock ≠ some c
  lo : base ≤ c
def RM.has (c : Nat) (v : Value) (b : Nat) : Prop := b = c ∨ v.ownBlock = some b
theorem RM.at_ {base : Nat} {w : World} {c : Nat} {v : Value} {pages : Int} {mx : Nat} {log : List P.De} (h : RM base w c v pages mx log) : ∃ ao cap, v = .slice ao log.length cap ∧ RefAt w c pages mx ao cap log := by
  obtain ⟨ao, cap, rfl, hl⟩ := LogAt.of_own h.own
  exact ⟨ao, cap, rfl, h.bk, hl⟩
theorem RM.fr {base : Nat} {w w' : World} {c : Nat} {v : Value} {pages : Int} {mx : Nat} {log : List P.De} (h : RM base w c v pages mx log) {S : Nat → Prop} (k : Fr S w w') (hn : ∀ b, RM.has c v b → ¬ S b) : RM base w' c v pages mx log :=
  ⟨h.bk.fr k (hn c (.inl rfl)), own_fr h.own k fun b hb => hn b (.inr hb), h.ne, h.lo⟩
theorem RM.lt {base : Nat} {w : World} {c : Nat} {v : Value} {pages : Int} {mx : Nat} {log : List P.De} (h : RM base w c v pages mx log) : ∀ b, RM.has c v b → base ≤ b ∧ b < w.heap.size := fun b hb => by
  rcases hb with rfl | hb
  · exact ⟨h.lo, h.bk.lt⟩
  · exact h.own.lt b hb
/-- The world in the drawn region. -/
structure RdK (wr : World) (c : Nat) (v : Value) (pg : Int) (mx : Nat) (b : Nat) (cl : P.Cl) (x : Nat) (r : P.Rp) : Prop where
  c : Blk wr c #[.int .i64 pg, .int .u32 mx, v] 30
  box : Blk wr b (clA cl) 35
  res : Blk wr (b + 1) (rpA ⟨0, 0, 0, P.zb⟩) 40
  ans : Blk wr x (rpA r) 40
theorem RdK.fr {wr w' : World} {c : Nat} {v : Value} {pg : Int} {mx : Nat} {b : Nat} {cl : P.Cl} {x : Nat} {r : P.Rp} (h : RdK wr c v pg mx b cl x r) {S : Nat → Prop} (k : Fr S wr w') (h1 : ¬ S c) (h2 : ¬ S b) (h3 : ¬ S (b + 1)) (h4 : ¬ S x) : RdK w' c v pg mx b cl x r :=
  ⟨h.c.fr k h1, h.box.fr k h2, h.res.fr k h3, h.ans.fr k h4⟩
theorem RdK.go {wr w' : World} {c : Nat} {v : Value} {pg : Int} {mx : Nat} {b : Nat} {cl : P.Cl} {x : Nat} {r : P.Rp} (h : RdK wr c v pg mx b cl x r) (k : Below wr.heap.size wr w') : RdK w' c v pg mx b cl x r :=
  h.fr (Fr.of_below k fun _ => False) id id id id
theorem RdK.c2 {wr : World} {c : Nat} {v : Value} {pg : Int} {mx : Nat} {b : Nat} {cl : P.Cl} {x : Nat} {r : P.Rp} (h : RdK wr c v pg mx b cl x r) : wr.cell? ⟨c, 2, none⟩ = some v := by rw [h.c.cell]; rfl
theorem info64 : (Try.prog.info? 64).map (fun i => (i.zero, i.size, i.bytes)) = some (some (.agg (deA noDe)), 72, 136) := by kernel_rfl
theorem b64 (c : P.Cl) (r : P.Rp) : Try.prog.built 64 [(0, .agg (clA c)), (1, .agg (rpA r))] = some (deA (c, r)) := by kernel_rfl
theorem fill64 (d : P.De) : Instr.fill (fun i => some (i * 72, 72)) ((Array.range (1 * 72)).map ((Value.agg (deA noDe)).cells[· % (Value.agg (deA noDe)).cells.size]!)) [(0, .agg (deA d))] = some (deA d) := by kernel_rfl
theorem size28 : (Try.prog.info? 28).map (·.size) = some 1 := by kernel_rfl
set_option maxRecDepth 100000 in
set_option maxHeartbeats 16000000 in
theorem rdo_any {M : P.Md} {m : Nat} {log : List P.De} (hsim : P.Sim M m log) {base : Nat} {w : World} {c : Nat} {v : Value} {pg : Nat} (hpg : M.pages = (pg : Int)) (h : RM base w c v pg M.max log) (hn : log.length ≤ 900) (hm : m ≤ 900) {cl : P.Cl} (hc : ClOk cl) :
    Calls Try.prog 13 #[.pointer (some ⟨c, 0, none⟩), .agg (clA cl)] w fun e w' => e = .returned (.agg (rpA (P.step M cl).2)) ∧
      ∃ v', RM base w' c v' pg M.max (log ++ [(cl, (P.step M cl).2)]) ∧ Fr (RM.has c v) w w' ∧ ∀ b, RM.has c v' b → RM.has c v b ∨ w.heap.size ≤ b := by
  obtain ⟨i64, hi64, z64, s64, y64⟩ := info_parts info64
  have hz40 := zero40.1
  have hlt := Lib.hid h.lt
  have e1 : (w.alloc (.cells (clA cl) 35)).heap.size = w.heap.size + 1 := by simp
  have hB : Below w.heap.size w ((w.alloc (.cells (clA cl) 35)).alloc (.cells (rpA ⟨0, 0, 0, P.zb⟩) 40)) := ((Below.refl _ _).alloc (Nat.le_refl _) _).alloc (by simp) _
  have hbox : Blk ((w.alloc (.cells (clA cl) 35)).alloc (.cells (rpA ⟨0, 0, 0, P.zb⟩) 40)) w.heap.size (clA cl) 35 := (Blk.alloc_new _ _ _).alloc _
  have hres : Blk ((w.alloc (.cells (clA cl) 35)).alloc (.cells (rpA ⟨0, 0, 0, P.zb⟩) 40)) (w.heap.size + 1) (rpA ⟨0, 0, 0, P.zb⟩) 40 := by
    have := Blk.alloc_new (w.alloc (.cells (clA cl) 35)) (rpA ⟨0, 0, 0, P.zb⟩) 40
    rwa [e1] at this
  clear e1
  go_enter Try.func13, Try.ntmps13
  go_upto_region 1 with (fail)
  generalize (w.alloc (.cells (clA cl) 35)).alloc (.cells (rpA ⟨0, 0, 0, P.zb⟩) 40) = V at *
  refine no_implicit_lambda% (wp_region_lit ?_)
  refine no_implicit_lambda% (wpl_val ?_ rfl ?_ ?_)
  rotate_left
  · (go_simp; (try with_reducible rfl))
  (try simp only [Act.put, Z1, Z2, Z4, Z5, Z6])
  refine wpl_val (.agg (clA cl)) rfl (cl_load hbox rfl rfl) ?_
  (try simp only [Act.put, Z1, Z2, Z3, Z4, Z5, Z6])
  have hcal : Calls Try.prog 20 #[.pointer (some ⟨c, 0, none⟩), .agg (clA cl)] V fun e w' => e = .returned (.agg (rpA (P.step M cl).2)) ∧ Below V.heap.size V w' := by
    obtain ⟨ao, cap, _, hat⟩ := h.at_
    exact answer_any hsim hpg hn hm hc V (hat.below hB)
  generalize hr : (P.step M cl).2 = r at hcal
  have HC := Lib.hid hr
  clear hr
  refine wpl_call _ _ rfl (by go_simp) _ hcal ?_
  rintro e w6 ⟨rfl, hb6⟩
  refine ⟨_, rfl, ?_⟩
  clear hcal
  (try simp only [Act.put, Z1, Z2, Z3, Z4, Z5, Z6])
  refine wpl_alloc 40 (rpA ⟨0, 0, 0, P.zb⟩) rfl rfl hz40 ?_
  (try simp only [Act.put, Z1, Z2, Z3, Z4, Z5, Z6])
  refine wpList_store_fr rfl 40 _ _ rfl w6.heap.size (rpA r) rfl rfl 40 _ (Blk.alloc_new _ _ _) (size40 _) (by simp only [rpA_size]) (rpA_one _) ?_
  intro w9 hB9 hF9
  (try simp only [Act.put, Z1, Z2, Z3, Z4, Z5, Z6])
  refine no_implicit_lambda% (wpList_nil ?_)
  have hVs := hres.lt
  have h6s := hb6.size
  have hB8 : Below w.heap.size w (w6.alloc (.cells (rpA ⟨0, 0, 0, P.zb⟩) 40)) := (Fr.below hB (Fr.of_below hb6 (fun _ => False)) (Nat.le_refl _) (fun _ e => e.elim)).alloc (by omega) _
  have hBw : Below w.heap.size w w9 := Fr.below hB8 hF9 (Nat.le_refl _) (fun i e => by omega)
  have hK9 : RdK w9 c v pg M.max w.heap.size cl w6.heap.size r := ⟨h.bk.below hBw, ((hbox.below hb6).alloc _).fr hF9 (by omega), ((hres.below hb6).alloc _).fr hF9 (by omega), hB9⟩
  have hown9 := own_fr h.own (Fr.of_below hBw fun _ => False) (fun _ _ e => e)
  have hxs : w.heap.size + 1 < w6.heap.size := by omega
  generalize hx : w6.heap.size = x at *
  clear hB9 hF9 hB8 hb6 hB hbox hres hVs h6s hx
  go_upto_region 2 with (fail)
  refine wp_region_K (k := 12) (S := (fun w' => RdK w' c v pg M.max w.heap.size cl x r)) (by kernel_rfl) ?_
  change wpAnyK _ _ _ _ _ _ _ _ _ (World.drew _)
  (try simp only [Act.put])
  have hS := hK9.go (Below.refl _ _).drew
  have hBd : Below w.heap.size w w9.drew := hBw.drew
  have hownd : w9.drew.ownsRow base 64 72 v log.length (flatD log) := own_fr hown9 (Fr.refl (fun _ => False) _).drew (fun _ _ e => e)
  clear hK9 hown9 hBw
  generalize w9.drew = V1 at *
  refine anyK_pure 0 _ ?_ rfl (by kernel_rfl) (by kernel_rfl) (by kernel_rfl) (fun _ _ _ h => h) (by decide) rfl ?_ hS ?_
  rotate_left
  · (intro w'; go_simp; (try with_reducible rfl))
  (try simp only [Act.put, Z1, Z2, Z4, Z5, Z6])
  refine anyK_pure 1 _ ?_ rfl (by kernel_rfl) (by kernel_rfl) (by kernel_rfl) (fun _ _ _ h => h) (by decide) rfl ?_ hS ?_
  rotate_left
  · (intro w'; go_simp; (try with_reducible rfl))
  (try simp only [Act.put, Z1, Z2, Z3, Z4, Z5, Z6])
  refine anyK_pure 2 _ ?_ rfl (by kernel_rfl) (by kernel_rfl) (by kernel_rfl) (fun _ _ _ h => h) (by decide) rfl ?_ hS ?_
  rotate_left
  · (intro w'; go_simp; (try with_reducible rfl))
  (try simp only [Act.put, Z1, Z2, Z3, Z4, Z5, Z6])
  refine anyK_pure 3 _ ?_ rfl (by kernel_rfl) (by kernel_rfl) (by kernel_rfl) (fun _ _ _ h => h) (by decide) rfl ?_ hS ?_
  rotate_left
  · (intro w'; go_simp; (try with_reducible rfl))
  (try simp only [Act.put, Z1, Z2, Z3, Z4, Z5, Z6])
  refine anyK_if 4 _ ?_ rfl (by kernel_rfl) (by kernel_rfl) (by kernel_rfl) (fun _ _ _ h => h) (by decide) (by kernel_rfl) (by kernel_rfl) rfl ?_ hS ?_
  rotate_left
  · (intro w' h; have c0 := h.c2; go_simp; (try with_reducible rfl))
  (try simp only [Act.put, Z1, Z2, Z3, Z4, Z5, Z6])
  refine anyK_if 5 _ (.agg (clA cl)) rfl (by kernel_rfl) (by kernel_rfl) (by kernel_rfl) (fun _ _ _ h => h) (by decide) (by kernel_rfl) (by kernel_rfl) rfl (fun w' h => run_load_cs rfl rfl h.box Try.underlying35 rfl (by kernel_rfl)) hS ?_
  (try simp only [Act.put, Z1, Z2, Z3, Z4, Z5, Z6])
  refine anyK_if 6 _ (.agg (rpA r)) rfl (by kernel_rfl) (by kernel_rfl) (by kernel_rfl) (fun _ _ _ h => h) (by decide) (by kernel_rfl) (by kernel_rfl) rfl (fun w' h => run_load_cs rfl rfl h.ans Try.underlying40 rfl (size40 _)) hS ?_
  (try simp only [Act.put, Z1, Z2, Z3, Z4, Z5, Z6])
  refine anyK_pure 7 _ (.agg (deA (cl, r))) rfl (by kernel_rfl) (by kernel_rfl) (by kernel_rfl) (fun _ _ _ h => h) (by decide) rfl (fun w' => run_buildE rfl (by go_simp; exact b64 cl r)) hS ?_
  (try simp only [Act.put, Z1, Z2, Z3, Z4, Z5, Z6])
  refine anyK_one 8 _ (by kernel_rfl) rfl rfl (wp_buildSlice 28 64 1 _ rfl (deA (cl, r)) i64 _ Try.underlying28 hi64 z64 (by rw [s64]; decide) (by rw [s64]; decide) ?c1 ?_)
  case c1 => (simp only [s64, List.map_toArray, List.map_cons, List.map_nil]; exact fill64 _)
  have hlit : Blk (V1.alloc (.cells (deA (cl, r)) 64)) V1.heap.size (deL (cl, r)).toArray 64 := Blk.alloc_new _ _ _
  have hS1 := hS.go ((Below.refl _ _).alloc (Nat.le_refl _) (.cells (deA (cl, r)) 64))
  have hB1 : Below w.heap.size w (V1.alloc (.cells (deA (cl, r)) 64)) := hBd.alloc (hBd.size) _
  have hown1 := own_fr hownd (Fr.of_below ((Below.refl _ _).alloc (Nat.le_refl _) (.cells (deA (cl, r)) 64)) fun _ => False) (fun b _ e => e)
  refine ⟨hS1, ?_⟩
  (try simp only [Act.put, Z1, Z2, Z3, Z4, Z5, Z6])
  clear hS hBd hownd
  generalize V1.alloc (.cells (deA (cl, r)) 64) = V2 at *
  generalize V1.heap.size = lb at *
  have h2s := hB1.size
  have hcl := (hlt.out c (.inl rfl)).2
  have hbc := h.lo
  refine anyK_one 9 _ (by kernel_rfl) rfl rfl (wp_append_src _ _ 28 rfl base 64 i64 _ 72 136 Try.underlying28 hi64 z64 s64 y64 (deA_size _) (by decide) v log.length _ rfl hown1 _ 1 (deL (cl, r)) rfl (src_blk hlit) (deL_length _) (deL_one _) ?_ ?_ ?_ ?_)
  · unfold maxLen; omega
  · omega
  · omega
  intro v3 w3 own3 gr3 _ hloc
  have hvl : ∀ b, v.ownBlock = some b → b < w.heap.size := fun b hb => (hlt.out b (.inr hb)).2
  have hne := h.ne
  have hS3 := hS1.fr (Fr.of_grown gr3) hne (fun e => by have := hvl _ e; omega) (fun e => by have := hvl _ e; omega) (fun e => by have := hvl _ e; omega)
  have hf3 : Fr (RM.has c v) w w3 := (Fr.of_below hB1 (RM.has c v)).trans (Fr.of_grown gr3) fun b _ e => .inr e
  have hr2 := hS1.res.lt
  have hv3 : ∀ b, v3.ownBlock = some b → v.ownBlock = some b ∨ w.heap.size + 1 < b := fun b hb => by
    rcases hloc with e | e
    · exact .inl (by rw [← e]; exact hb)
    · right
      have e2 : V2.heap.size = b := by rw [hb] at e; exact (Option.some.inj e).symm
      omega
  have hne3 : v3.ownBlock ≠ some c := fun e => by
    rcases hv3 c e with e | e
    · exact hne e
    · omega
  have own4 : w3.ownsRow base 64 72 v3 (log ++ [(cl, r)]).length (flatD (log ++ [(cl, r)])) := by
    rw [List.length_append, flatD_append]
    have e5 : flatD [(cl, r)] = deL (cl, r) := by simp [flatD]
    rw [e5]; exact own3
  refine ⟨hS3, ?_⟩
  (try simp only [Act.put, Z1, Z2, Z3, Z4, Z5, Z6])
  clear gr3 hloc hB1 hS1 hown1 hlit own3 h2s
  have hS := hS3
  refine anyK_pure 10 _ ?_ rfl (by kernel_rfl) (by kernel_rfl) (by kernel_rfl) (fun _ _ _ h => h) (by decide) rfl ?_ hS ?_
  rotate_left
  · (intro w'; go_simp; (try with_reducible rfl))
  (try simp only [Act.put, Z1, Z2, Z3, Z4, Z5, Z6])
  refine anyK_pure 11 _ ?_ rfl (by kernel_rfl) (by kernel_rfl) (by kernel_rfl) (fun _ _ _ h => h) (by decide) rfl ?_ hS ?_
  rotate_left
  · (intro w'; go_simp; (try with_reducible rfl))
  (try simp only [Act.put, Z1, Z2, Z3, Z4, Z5, Z6])
  refine anyK_last _ (by kernel_rfl) rfl (by decide) rfl (wp_store_one 28 _ _ rfl ⟨c, 2, none⟩ v v3 rfl rfl size28 (own_one own4) hS3.c2 (hS3.c.free 2) ?_)
  refine anyK_done (by kernel_rfl) ?_ _
  have hfs : Fr (fun i => i = c) w3 (w3.setCell ⟨c, 2, none⟩ v3) := (Fr.refl _ _).setCell _ _ fun _ => rfl
  have hf5 : Fr (RM.has c v) w (w3.setCell ⟨c, 2, none⟩ v3) := hf3.trans hfs fun b _ e => .inl e
  have hc5 : Blk (w3.setCell ⟨c, 2, none⟩ v3) c #[.int .i64 pg, .int .u32 M.max, v3] 30 := by
    rw [hS3.c.setCell]; exact hS3.c.setRow _
  have own5 := own_fr own4 hfs (fun b hb e => hne3 (e ▸ hb))
  have hres5 := hS3.res.fr hfs (by omega)
  have hans5 := hS3.ans.fr hfs (by omega)
  have hRM : RM base (w3.setCell ⟨c, 2, none⟩ v3) c v3 pg M.max (log ++ [(cl, r)]) := ⟨hc5, own5, hne3, hbc⟩
  generalize w3.setCell ⟨c, 2, none⟩ v3 = V4 at *
  clear hS hS3 own4 own5 hc5 hfs hf3
  have hRl := hRM.lt
  go_upto_region 3 with (fail)
  refine no_implicit_lambda% (wp_region_lit ?_)
  refine wpl_val (.agg (rpA r)) rfl (run_load_cs rfl rfl hans5 Try.underlying40 rfl (size40 _)) ?_
  (try simp only [Act.put, Z1, Z2, Z3, Z4, Z5, Z6])
  refine wpList_store_fr rfl 40 _ _ rfl (w.heap.size + 1) (rpA r) rfl rfl 40 _ hres5 (size40 _) (by simp only [rpA_size]) (rpA_one _) ?_
  intro w7 hB7 hF7
  refine no_implicit_lambda% (wpList_nil ?_)
  go_wp2_with fail
  refine bodyPost_ret (v := .agg (rpA r)) ?_ rfl ?_
  · exact results_cell_row rfl _ _ (w.heap.size + 1) 40 (rpA r) (0, 0) _ rfl hB7 Try.underlying40 rfl (size40 _)
  rw [HC.out]
  refine ⟨rfl, v3, hRM.fr hF7 ?_, hf5.trans hF7 (fun i hi e => by omega), fun b hb => ?_⟩
  · rintro b (rfl | hb) e
    · omega
    · rcases hv3 b hb with h1 | h1
      · have := hvl b h1; omega
      · omega
  · rcases hb with rfl | hb
    · exact .inl (.inl rfl)
    · exact (hv3 b hb).imp .inr (fun e => by omega)
end Go.Proofs.Ytjaecdcddmohoaa
