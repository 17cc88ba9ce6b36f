/- The walk of the document's At. -/
import Derived.Test.YtjaecdcddmohoaaWroW
import Derived.Test.YtjaecdcddmohoaaSpl
namespace Go.Proofs.Ytjaecdcddmohoaa
open Go.RowKit
set_option linter.unusedSimpArgs false
set_option linter.unusedVariables false
theorem spl_ver (t : Nat) (f g : P.Bd) : spl (verA ⟨t, f⟩) 1 (rowL 64 g) = verA ⟨t, g⟩ := by
  apply Array.ext_getElem?
  intro j
  rw [spl_get _ _ _ _ (by rw [rowL_length, verA_size]; omega), rowL_length]
  show _ = (Value.int .u32 t :: rowL 64 g).toArray[j]?
  by_cases h : 1 ≤ j ∧ j < 1 + 64
  · rw [if_pos h]
    obtain ⟨k, rfl⟩ : ∃ k, j = k + 1 := ⟨j - 1, by omega⟩
    rw [List.getElem?_toArray, List.getElem?_cons_succ, Nat.add_sub_cancel]
  · rw [if_neg h]
    by_cases h0 : j = 0
    · subst h0; rfl
    · rw [Array.getElem?_eq_none (xs := verA ⟨t, f⟩) (by rw [verA_size]; omega), Array.getElem?_eq_none (by simp [rowL_length]; omega)]
theorem set_ver (t t' : Nat) (f : P.Bd) : (verA ⟨t, f⟩).setIfInBounds 0 (.int .u32 t') = verA ⟨t', f⟩ := by
  simp [verA, verC]
/-- The document's At, at work: the result's box, the choice so far. -/
structure RaS (w wr : World) (v : P.Vr) : Prop where
  below : Below w.heap.size w wr
  a : Blk wr w.heap.size (verA ⟨0, P.zb⟩) 44
  b : Blk wr (w.heap.size + 1) (verA v) 44
section
variable {w wr w' : World} {v : P.Vr}
theorem RaS.fr (h : RaS w wr v) {S : Nat → Prop} (k : Fr S wr w') (hS : ∀ i, S i → w.heap.size + 1 < i) : RaS w w' v :=
  ⟨Fr.below h.below k (Nat.le_refl _) fun i hi => by have := hS i hi; omega, h.a.fr k (fun hs => by have := hS _ hs; omega), h.b.fr k (fun hs => by have := hS _ hs; omega)⟩
theorem RaS.go (h : RaS w wr v) (k : Below wr.heap.size wr w') : RaS w w' v := h.fr (Fr.of_below k fun _ => False) fun _ h => h.elim
theorem RaS.ts (h : RaS w wr v) (t : Nat) : RaS w (wr.setCell ⟨w.heap.size + 1, 0, none⟩ (.int .u32 t)) ⟨t, v.b⟩ := by
  have k : Fr (fun b => b = w.heap.size + 1) wr (wr.setCell ⟨w.heap.size + 1, 0, none⟩ (.int .u32 t)) := (Fr.refl _ _).setCell _ _ fun _ => rfl
  refine ⟨Fr.below h.below k (Nat.le_refl _) fun i hi => by omega, h.a.fr k (fun e => by have e' : w.heap.size = w.heap.size + 1 := e; omega), ?_⟩
  rw [h.b.setCell, set_ver]
  exact h.b.setRow _
theorem RaS.c0 (h : RaS w wr v) : wr.cell? ⟨w.heap.size + 1, 0, none⟩ = some (.int .u32 v.ts) := by rw [h.b.cell]; rfl
end
def atC (log : List P.De) (ts : Nat) (s : Nat) (x : P.De) : Bool := decide (x.1.kind ≠ 3 ∨ x.2.e ≠ 0 ∨ ts < x.2.ts ∨ x.2.ts ≤ s ∨ x.2.ts = P.bgn log x.1.txn)
theorem atS_eq (log : List P.De) (p : Int) (ts : Nat) (s : Nat × Int) (x : P.De) : P.atS log p ts s x = if atC log ts s.1 x = true then s else if (P.wrF log x.1.txn p P.zb).2 = true then (x.2.ts, x.1.txn) else s := by
  unfold P.atS atC
  simp only [decide_eq_true_eq]
set_option maxRecDepth 100000 in
set_option maxHeartbeats 16000000 in
theorem refat_any {M : P.Md} {m : Nat} {log : List P.De} (hsim : P.Sim M m log) {c : Nat} {pages : Int} {mx : Nat} {ao : Option Addr} {cap : Nat} (hn : log.length ≤ 1000) (p : Int) : ∀ (ts : Nat) (w : World) (h : RefAt w c pages mx ao cap log),
    Calls Try.prog 17 #[.pointer (some ⟨c, 0, none⟩), .int .u16 p, .int .u32 ts] w fun e w' => e = .returned (.agg (verA (P.at' M p ts))) ∧ Below w.heap.size w w' := by
  intro ts
  induction ts using Nat.strongRecOn with
  | ind ts ih =>
  intro w h
  have hz64 := zero64.1
  have hz44 := zero44.1
  have hz38 := zero38.1
  have e1 : (w.alloc (.cells (verA ⟨0, P.zb⟩) 44)).heap.size = w.heap.size + 1 := by simp
  have hA := hsim.at_ p ts
  have hoff := Lib.hid hsim.offs
  have hpos := Lib.hid hsim.wrs
  replace hA := Lib.hid hA
  replace ih := Lib.hid ih
  clear hsim
  go_enter Try.func17, Try.ntmps17
  go_upto_region 1 with (fail)
  refine no_implicit_lambda% (wp_region_lit ?_)
  refine wpl_val (.agg (verA ⟨0, P.zb⟩)) rfl (run_buildE rfl (by go_simp; exact b44)) ?_
  (try simp only [Act.put, Z1, Z2, Z3, Z4, Z5, Z6])
  refine wpl_alloc 44 (verA ⟨0, P.zb⟩) rfl rfl hz44 ?_
  (try simp only [Act.put, Z1, Z2, Z3, Z4, Z5, Z6])
  have hb1 : Blk ((w.alloc (.cells (verA ⟨0, P.zb⟩) 44)).alloc (.cells (verA ⟨0, P.zb⟩) 44)) (w.heap.size + 1) (verA ⟨0, P.zb⟩) 44 := by
    have := Blk.alloc_new (w.alloc (.cells (verA ⟨0, P.zb⟩) 44)) (verA ⟨0, P.zb⟩) 44
    rwa [e1] at this
  have ha1 : Blk ((w.alloc (.cells (verA ⟨0, P.zb⟩) 44)).alloc (.cells (verA ⟨0, P.zb⟩) 44)) w.heap.size (verA ⟨0, P.zb⟩) 44 := (Blk.alloc_new _ _ _).alloc _
  have hbl : Below w.heap.size w ((w.alloc (.cells (verA ⟨0, P.zb⟩) 44)).alloc (.cells (verA ⟨0, P.zb⟩) 44)) := ((Below.refl _ _).alloc (Nat.le_refl _) _).alloc (by simp) _
  generalize (w.alloc (.cells (verA ⟨0, P.zb⟩) 44)).alloc (.cells (verA ⟨0, P.zb⟩) 44) = V0 at *
  (try rw [e1])
  refine wpList_store_fr rfl 44 _ _ rfl (w.heap.size + 1) (verA ⟨0, P.zb⟩) rfl rfl 44 _ hb1 (size44 _) (by simp only [verA_size]) (verA_one _) ?_
  intro W1 hB1 hF1
  refine no_implicit_lambda% (wpList_nil ?_)
  have hS : RaS w W1 ⟨0, P.zb⟩ := ⟨Fr.below hbl hF1 (Nat.le_refl _) fun i hi => by omega, ha1.fr hF1 (fun e => by have e' : w.heap.size = w.heap.size + 1 := e; omega), hB1⟩
  have c2 := (h.below hS.below).c2
  clear hb1 ha1 hbl hB1 hF1 e1
  go_upto_region 3 with (fail)
  refine no_implicit_lambda% (wp_region_lit ?_)
  iterate 3
    refine no_implicit_lambda% (wpl_val ?_ rfl ?_ ?_)
    rotate_left
    · (go_simp; (try with_reducible rfl))
    (try simp only [Act.put, Z1, Z2, Z3, Z4, Z5, Z6])
  refine no_implicit_lambda% (wpl_val ?_ rfl ?_ ?_)
  rotate_left
  · (have c0 := c2; go_simp; (try with_reducible rfl))
  (try simp only [Act.put, Z1, Z2, Z3, Z4, Z5, Z6])
  refine no_implicit_lambda% (wpl_val ?_ rfl ?_ ?_)
  rotate_left
  · (go_simp; (try with_reducible rfl))
  (try simp only [Act.put, Z1, Z2, Z3, Z4, Z5, Z6])
  refine no_implicit_lambda% (wpl_val ?_ rfl ?_ ?_)
  rotate_left
  · (go_simp; (try with_reducible rfl))
  (try simp only [Act.put, Z1, Z2, Z3, Z4, Z5, Z6])
  refine no_implicit_lambda% (wpList_nil ?_)
  clear c2
  replace hS := Lib.hid hS
  go_wp2_with fail
  go_loopw [21, 8] (fun i b wr => ∃ k : Nat, i = .int .i64 k ∧ k ≤ log.length ∧ b = .int .u64 ((log.take k).foldl (P.atS log p ts) (0, 0)).2 ∧ RaS w wr ⟨((log.take k).foldl (P.atS log p ts) (0, 0)).1, P.zb⟩) (fun i _ _ => log.length - (intOf i).toNat)
  case atStart => exact ⟨0, rfl, Nat.zero_le _, rfl, hS.out⟩
  case round =>
    clear hS
    obtain ⟨k, rfl, hk, rfl, hS⟩ := hrel
    by_cases hlt : k < log.length
    · obtain ⟨x, hx⟩ : ∃ x, log[k]? = some x := ⟨_, List.getElem?_eq_getElem hlt⟩
      obtain ⟨g, rfl, _, hr⟩ := (h.l.below hS.below).at_ k x hx
      replace hr := Lib.hid hr
      have hlt' : (k : Int) < (log.length : Int) := by omega
      have HT : Hid ((log.take (k + 1)).foldl (P.atS log p ts) (0, 0) = P.atS log p ts ((log.take k).foldl (P.atS log p ts) (0, 0)) x) := by unfold Hid; rw [take_snoc hx, List.foldl_append]; rfl
      generalize (log.take k).foldl (P.atS log p ts) (0, 0) = s at *
      clear hx
      go_upto_region 5 with (fail)
      refine no_implicit_lambda% (wp_region_lit ?_)
      refine no_implicit_lambda% (wpl_val ?_ rfl ?_ ?_)
      rotate_left
      · (go_simp; (try with_reducible rfl))
      (try simp only [Act.put, Z1, Z2, Z4, Z5, Z6])
      refine wpList_load_mid rfl 64 _ rfl g (k * 72) rfl (deL x) _ hr.out Try.underlying64 rfl (size64' x) ?_
      (try simp only [Act.put, Z1, Z2, Z3, Z4, Z5, Z6])
      refine wpl_alloc 64 (deA noDe) rfl rfl hz64 ?_
      (try simp only [Act.put, Z1, Z2, Z3, Z4, Z5, Z6])
      refine wpl_law rfl (wp_store_row 64 _ _ rfl wr.heap.size (deA x) rfl rfl 64 _ (Blk.alloc_new _ _ _) (size64 _) (by simp only [deA_size]) (deA_one _) ?_)
      (try simp only [Act.put, Z1, Z2, Z3, Z4, Z5, Z6])
      refine no_implicit_lambda% (wpList_nil ?_)
      obtain ⟨hB, hb⟩ := de_box (w := wr) x
      have hbx : w.heap.size + 1 < wr.heap.size := hS.b.lt
      replace hS := hS.go hb
      generalize (wr.alloc (.cells (deA noDe) 64)).setRow wr.heap.size (deA x) = V at *
      generalize wr.heap.size = bx at *
      clear hr hb
      go_upto_region 6 with (fail)
      go_cut [60] (fun t wx => t = .bool (atC log ts s.1 x) ∧ RaS w wx ⟨s.1, P.zb⟩ ∧ Blk wx bx (deA x) 64)
      case first =>
        refine wp_region_held (S := (fun w' => RaS w w' ⟨s.1, P.zb⟩ ∧ Blk w' bx (deA x) 64)) (by kernel_rfl) ?_
        change wpAnyH _ _ _ _ _ _ _ _ (World.drew _)
        (try simp only [Act.put])
        replace hS := And.intro (hS.go (Below.refl _ _).drew) hB.drew
        clear hB
        generalize V.drew = V1 at *
        by_cases hk3 : x.1.kind = 3
        · have hk' : (x.1.kind != 3) = false := by simp [hk3]
          by_cases he : x.2.e = 0
          · have he' : (x.2.e != 0) = false := by simp [he]
            by_cases ht : ts < x.2.ts
            · have ht' : decide (ts < x.2.ts) = true := by simp [ht]
              have HC : Hid (atC log ts s.1 x = true) := by unfold Hid atC; simp [ht]
              clear hk3 he ht
              refine anyH_pure 0 _ ?_ rfl (by kernel_rfl) (by kernel_rfl) (by kernel_rfl) (fun _ _ _ h => h) rfl ?_ hS ?_
              rotate_left
              · (intro w'; go_simp; (try with_reducible rfl))
              (try simp only [Act.put, Z1, Z2, Z4, Z5, Z6])
              refine anyH_pure 1 _ ?_ rfl (by kernel_rfl) (by kernel_rfl) (by kernel_rfl) (fun _ _ _ h => h) rfl ?_ hS ?_
              rotate_left
              · (intro w'; go_simp; (try with_reducible rfl))
              (try simp only [Act.put, Z1, Z2, Z3, Z4, Z5, Z6])
              refine anyH_if 2 _ ?_ rfl (by kernel_rfl) (by kernel_rfl) (by kernel_rfl) (fun _ _ _ h => h) rfl ?_ hS ?_
              rotate_left
              · (intro w' h; have c0 := (d_kind h.2); go_simp; (try with_reducible rfl))
              (try simp only [Act.put, Z1, Z2, Z3, Z4, Z5, Z6])
              refine anyH_pure 3 _ ?_ rfl (by kernel_rfl) (by kernel_rfl) (by kernel_rfl) (fun _ _ _ h => h) rfl ?_ hS ?_
              rotate_left
              · (intro w'; go_simp; (try with_reducible rfl))
              (try simp only [Act.put, Z1, Z2, Z3, Z4, Z5, Z6])
              refine anyH_pure 4 _ ?_ rfl (by kernel_rfl) (by kernel_rfl) (by kernel_rfl) (fun _ _ _ h => h) rfl ?_ hS ?_
              rotate_left
              · (intro w'; go_simp; (try with_reducible rfl))
              (try simp only [Act.put, Z1, Z2, Z3, Z4, Z5, Z6])
              refine anyH_pure 5 _ ?_ rfl (by kernel_rfl) (by kernel_rfl) (by kernel_rfl) (fun _ _ _ h => h) rfl ?_ hS ?_
              rotate_left
              · (intro w'; go_simp; (try with_reducible rfl))
              (try simp only [Act.put, Z1, Z2, Z3, Z4, Z5, Z6])
              refine anyH_pure 6 _ ?_ rfl (by kernel_rfl) (by kernel_rfl) (by kernel_rfl) (fun _ _ _ h => h) rfl ?_ hS ?_
              rotate_left
              · (intro w'; go_simp; (try with_reducible rfl))
              (try simp only [Act.put, Z1, Z2, Z3, Z4, Z5, Z6])
              refine anyH_if 7 _ ?_ rfl (by kernel_rfl) (by kernel_rfl) (by kernel_rfl) (fun _ _ _ h => h) rfl ?_ hS ?_
              rotate_left
              · (intro w' h; have c0 := (d_e h.2); go_simp; (try with_reducible rfl))
              (try simp only [Act.put, Z1, Z2, Z3, Z4, Z5, Z6])
              refine anyH_pure 8 _ ?_ rfl (by kernel_rfl) (by kernel_rfl) (by kernel_rfl) (fun _ _ _ h => h) rfl ?_ hS ?_
              rotate_left
              · (intro w'; go_simp; (try with_reducible rfl))
              (try simp only [Act.put, Z1, Z2, Z3, Z4, Z5, Z6])
              refine anyH_pure 9 _ ?_ rfl (by kernel_rfl) (by kernel_rfl) (by kernel_rfl) (fun _ _ _ h => h) rfl ?_ hS ?_
              rotate_left
              · (intro w'; go_simp; (try with_reducible rfl))
              (try simp only [Act.put, Z1, Z2, Z3, Z4, Z5, Z6])
              refine anyH_pure 10 _ ?_ rfl (by kernel_rfl) (by kernel_rfl) (by kernel_rfl) (fun _ _ _ h => h) rfl ?_ hS ?_
              rotate_left
              · (intro w'; go_simp; (try with_reducible rfl))
              (try simp only [Act.put, Z1, Z2, Z3, Z4, Z5, Z6])
              refine anyH_pure 11 _ ?_ rfl (by kernel_rfl) (by kernel_rfl) (by kernel_rfl) (fun _ _ _ h => h) rfl ?_ hS ?_
              rotate_left
              · (intro w'; go_simp; (try with_reducible rfl))
              (try simp only [Act.put, Z1, Z2, Z3, Z4, Z5, Z6])
              refine anyH_pure 12 _ ?_ rfl (by kernel_rfl) (by kernel_rfl) (by kernel_rfl) (fun _ _ _ h => h) rfl ?_ hS ?_
              rotate_left
              · (intro w'; go_simp; (try with_reducible rfl))
              (try simp only [Act.put, Z1, Z2, Z3, Z4, Z5, Z6])
              refine anyH_if 13 _ ?_ rfl (by kernel_rfl) (by kernel_rfl) (by kernel_rfl) (fun _ _ _ h => h) rfl ?_ hS ?_
              rotate_left
              · (intro w' h; have c0 := (d_ts h.2); go_simp; (try with_reducible rfl))
              (try simp only [Act.put, Z1, Z2, Z3, Z4, Z5, Z6])
              refine anyH_pure 14 _ ?_ rfl (by kernel_rfl) (by kernel_rfl) (by kernel_rfl) (fun _ _ _ h => h) rfl ?_ hS ?_
              rotate_left
              · (intro w'; go_simp; (try with_reducible rfl))
              (try simp only [Act.put, Z1, Z2, Z3, Z4, Z5, Z6])
              refine anyH_pure 15 _ ?_ rfl (by kernel_rfl) (by kernel_rfl) (by kernel_rfl) (fun _ _ _ h => h) rfl ?_ hS ?_
              rotate_left
              · (intro w'; go_simp; (try with_reducible rfl))
              (try simp only [Act.put, Z1, Z2, Z3, Z4, Z5, Z6])
              refine anyH_pure 16 _ ?_ rfl (by kernel_rfl) (by kernel_rfl) (by kernel_rfl) (fun _ _ _ h => h) rfl ?_ hS ?_
              rotate_left
              · (intro w'; go_simp; (try with_reducible rfl))
              (try simp only [Act.put, Z1, Z2, Z3, Z4, Z5, Z6])
              refine anyH_pure 17 _ ?_ rfl (by kernel_rfl) (by kernel_rfl) (by kernel_rfl) (fun _ _ _ h => h) rfl ?_ hS ?_
              rotate_left
              · (intro w'; go_simp; (try with_reducible rfl))
              (try simp only [Act.put, Z1, Z2, Z3, Z4, Z5, Z6])
              refine anyH_skip 18 _ rfl (by kernel_rfl) (by kernel_rfl) (by kernel_rfl) (fun _ _ _ h => h) rfl hS ?_
              (try simp only [Act.put, Z1, Z2, Z3, Z4, Z5, Z6])
              refine anyH_skip 19 _ rfl (by kernel_rfl) (by kernel_rfl) (by kernel_rfl) (fun _ _ _ h => h) rfl hS ?_
              (try simp only [Act.put, Z1, Z2, Z3, Z4, Z5, Z6])
              refine anyH_skip 20 _ rfl (by kernel_rfl) (by kernel_rfl) (by kernel_rfl) (fun _ _ _ h => h) rfl hS ?_
              (try simp only [Act.put, Z1, Z2, Z3, Z4, Z5, Z6])
              refine anyH_skip 21 _ rfl (by kernel_rfl) (by kernel_rfl) (by kernel_rfl) (fun _ _ _ h => h) rfl hS ?_
              (try simp only [Act.put, Z1, Z2, Z3, Z4, Z5, Z6])
              refine anyH_skip 22 _ rfl (by kernel_rfl) (by kernel_rfl) (by kernel_rfl) (fun _ _ _ h => h) rfl hS ?_
              (try simp only [Act.put, Z1, Z2, Z3, Z4, Z5, Z6])
              refine anyH_skip 23 _ rfl (by kernel_rfl) (by kernel_rfl) (by kernel_rfl) (fun _ _ _ h => h) rfl hS ?_
              (try simp only [Act.put, Z1, Z2, Z3, Z4, Z5, Z6])
              refine anyH_pure 24 _ ?_ rfl (by kernel_rfl) (by kernel_rfl) (by kernel_rfl) (fun _ _ _ h => h) rfl ?_ hS ?_
              rotate_left
              · (intro w'; go_simp; (try with_reducible rfl))
              (try simp only [Act.put, Z1, Z2, Z3, Z4, Z5, Z6])
              refine anyH_pure 25 _ ?_ rfl (by kernel_rfl) (by kernel_rfl) (by kernel_rfl) (fun _ _ _ h => h) rfl ?_ hS ?_
              rotate_left
              · (intro w'; go_simp; (try with_reducible rfl))
              (try simp only [Act.put, Z1, Z2, Z3, Z4, Z5, Z6])
              refine anyH_skip 26 _ rfl (by kernel_rfl) (by kernel_rfl) (by kernel_rfl) (fun _ _ _ h => h) rfl hS ?_
              (try simp only [Act.put, Z1, Z2, Z3, Z4, Z5, Z6])
              refine anyH_skip 27 _ rfl (by kernel_rfl) (by kernel_rfl) (by kernel_rfl) (fun _ _ _ h => h) rfl hS ?_
              (try simp only [Act.put, Z1, Z2, Z3, Z4, Z5, Z6])
              refine anyH_skip 28 _ rfl (by kernel_rfl) (by kernel_rfl) (by kernel_rfl) (fun _ _ _ h => h) rfl hS ?_
              (try simp only [Act.put, Z1, Z2, Z3, Z4, Z5, Z6])
              refine anyH_skip 29 _ rfl (by kernel_rfl) (by kernel_rfl) (by kernel_rfl) (fun _ _ _ h => h) rfl hS ?_
              (try simp only [Act.put, Z1, Z2, Z3, Z4, Z5, Z6])
              refine anyH_skip 30 _ rfl (by kernel_rfl) (by kernel_rfl) (by kernel_rfl) (fun _ _ _ h => h) rfl hS ?_
              (try simp only [Act.put, Z1, Z2, Z3, Z4, Z5, Z6])
              refine anyH_skip 31 _ rfl (by kernel_rfl) (by kernel_rfl) (by kernel_rfl) (fun _ _ _ h => h) rfl hS ?_
              (try simp only [Act.put, Z1, Z2, Z3, Z4, Z5, Z6])
              refine anyH_skip 32 _ rfl (by kernel_rfl) (by kernel_rfl) (by kernel_rfl) (fun _ _ _ h => h) rfl hS ?_
              (try simp only [Act.put, Z1, Z2, Z3, Z4, Z5, Z6])
              refine anyH_skip 33 _ rfl (by kernel_rfl) (by kernel_rfl) (by kernel_rfl) (fun _ _ _ h => h) rfl hS ?_
              (try simp only [Act.put, Z1, Z2, Z3, Z4, Z5, Z6])
              refine anyH_skip 34 _ rfl (by kernel_rfl) (by kernel_rfl) (by kernel_rfl) (fun _ _ _ h => h) rfl hS ?_
              (try simp only [Act.put, Z1, Z2, Z3, Z4, Z5, Z6])
              refine anyH_pure 35 _ ?_ rfl (by kernel_rfl) (by kernel_rfl) (by kernel_rfl) (fun _ _ _ h => h) rfl ?_ hS ?_
              rotate_left
              · (intro w'; go_simp; (try with_reducible rfl))
              (try simp only [Act.put, Z1, Z2, Z3, Z4, Z5, Z6])
              refine wpAnyH_done (by kernel_rfl) ?_ _
              go_wp2_with fail
              go_meet
              case rel => exact ⟨by rw [HC.out], hS⟩
            · have ht' : decide (ts < x.2.ts) = false := by simp; omega
              by_cases hs : x.2.ts ≤ s.1
              · have hs' : decide (x.2.ts ≤ s.1) = true := by simp [hs]
                have HC : Hid (atC log ts s.1 x = true) := by unfold Hid atC; simp [hs]
                clear hk3 he ht hs
                refine anyH_pure 0 _ ?_ rfl (by kernel_rfl) (by kernel_rfl) (by kernel_rfl) (fun _ _ _ h => h) rfl ?_ hS ?_
                rotate_left
                · (intro w'; go_simp; (try with_reducible rfl))
                (try simp only [Act.put, Z1, Z2, Z4, Z5, Z6])
                refine anyH_pure 1 _ ?_ rfl (by kernel_rfl) (by kernel_rfl) (by kernel_rfl) (fun _ _ _ h => h) rfl ?_ hS ?_
                rotate_left
                · (intro w'; go_simp; (try with_reducible rfl))
                (try simp only [Act.put, Z1, Z2, Z3, Z4, Z5, Z6])
                refine anyH_if 2 _ ?_ rfl (by kernel_rfl) (by kernel_rfl) (by kernel_rfl) (fun _ _ _ h => h) rfl ?_ hS ?_
                rotate_left
                · (intro w' h; have c0 := (d_kind h.2); go_simp; (try with_reducible rfl))
                (try simp only [Act.put, Z1, Z2, Z3, Z4, Z5, Z6])
                refine anyH_pure 3 _ ?_ rfl (by kernel_rfl) (by kernel_rfl) (by kernel_rfl) (fun _ _ _ h => h) rfl ?_ hS ?_
                rotate_left
                · (intro w'; go_simp; (try with_reducible rfl))
                (try simp only [Act.put, Z1, Z2, Z3, Z4, Z5, Z6])
                refine anyH_pure 4 _ ?_ rfl (by kernel_rfl) (by kernel_rfl) (by kernel_rfl) (fun _ _ _ h => h) rfl ?_ hS ?_
                rotate_left
                · (intro w'; go_simp; (try with_reducible rfl))
                (try simp only [Act.put, Z1, Z2, Z3, Z4, Z5, Z6])
                refine anyH_pure 5 _ ?_ rfl (by kernel_rfl) (by kernel_rfl) (by kernel_rfl) (fun _ _ _ h => h) rfl ?_ hS ?_
                rotate_left
                · (intro w'; go_simp; (try with_reducible rfl))
                (try simp only [Act.put, Z1, Z2, Z3, Z4, Z5, Z6])
                refine anyH_pure 6 _ ?_ rfl (by kernel_rfl) (by kernel_rfl) (by kernel_rfl) (fun _ _ _ h => h) rfl ?_ hS ?_
                rotate_left
                · (intro w'; go_simp; (try with_reducible rfl))
                (try simp only [Act.put, Z1, Z2, Z3, Z4, Z5, Z6])
                refine anyH_if 7 _ ?_ rfl (by kernel_rfl) (by kernel_rfl) (by kernel_rfl) (fun _ _ _ h => h) rfl ?_ hS ?_
                rotate_left
                · (intro w' h; have c0 := (d_e h.2); go_simp; (try with_reducible rfl))
                (try simp only [Act.put, Z1, Z2, Z3, Z4, Z5, Z6])
                refine anyH_pure 8 _ ?_ rfl (by kernel_rfl) (by kernel_rfl) (by kernel_rfl) (fun _ _ _ h => h) rfl ?_ hS ?_
                rotate_left
                · (intro w'; go_simp; (try with_reducible rfl))
                (try simp only [Act.put, Z1, Z2, Z3, Z4, Z5, Z6])
                refine anyH_pure 9 _ ?_ rfl (by kernel_rfl) (by kernel_rfl) (by kernel_rfl) (fun _ _ _ h => h) rfl ?_ hS ?_
                rotate_left
                · (intro w'; go_simp; (try with_reducible rfl))
                (try simp only [Act.put, Z1, Z2, Z3, Z4, Z5, Z6])
                refine anyH_pure 10 _ ?_ rfl (by kernel_rfl) (by kernel_rfl) (by kernel_rfl) (fun _ _ _ h => h) rfl ?_ hS ?_
                rotate_left
                · (intro w'; go_simp; (try with_reducible rfl))
                (try simp only [Act.put, Z1, Z2, Z3, Z4, Z5, Z6])
                refine anyH_pure 11 _ ?_ rfl (by kernel_rfl) (by kernel_rfl) (by kernel_rfl) (fun _ _ _ h => h) rfl ?_ hS ?_
                rotate_left
                · (intro w'; go_simp; (try with_reducible rfl))
                (try simp only [Act.put, Z1, Z2, Z3, Z4, Z5, Z6])
                refine anyH_pure 12 _ ?_ rfl (by kernel_rfl) (by kernel_rfl) (by kernel_rfl) (fun _ _ _ h => h) rfl ?_ hS ?_
                rotate_left
                · (intro w'; go_simp; (try with_reducible rfl))
                (try simp only [Act.put, Z1, Z2, Z3, Z4, Z5, Z6])
                refine anyH_if 13 _ ?_ rfl (by kernel_rfl) (by kernel_rfl) (by kernel_rfl) (fun _ _ _ h => h) rfl ?_ hS ?_
                rotate_left
                · (intro w' h; have c0 := (d_ts h.2); go_simp; (try with_reducible rfl))
                (try simp only [Act.put, Z1, Z2, Z3, Z4, Z5, Z6])
                refine anyH_pure 14 _ ?_ rfl (by kernel_rfl) (by kernel_rfl) (by kernel_rfl) (fun _ _ _ h => h) rfl ?_ hS ?_
                rotate_left
                · (intro w'; go_simp; (try with_reducible rfl))
                (try simp only [Act.put, Z1, Z2, Z3, Z4, Z5, Z6])
                refine anyH_pure 15 _ ?_ rfl (by kernel_rfl) (by kernel_rfl) (by kernel_rfl) (fun _ _ _ h => h) rfl ?_ hS ?_
                rotate_left
                · (intro w'; go_simp; (try with_reducible rfl))
                (try simp only [Act.put, Z1, Z2, Z3, Z4, Z5, Z6])
                refine anyH_pure 16 _ ?_ rfl (by kernel_rfl) (by kernel_rfl) (by kernel_rfl) (fun _ _ _ h => h) rfl ?_ hS ?_
                rotate_left
                · (intro w'; go_simp; (try with_reducible rfl))
                (try simp only [Act.put, Z1, Z2, Z3, Z4, Z5, Z6])
                refine anyH_pure 17 _ ?_ rfl (by kernel_rfl) (by kernel_rfl) (by kernel_rfl) (fun _ _ _ h => h) rfl ?_ hS ?_
                rotate_left
                · (intro w'; go_simp; (try with_reducible rfl))
                (try simp only [Act.put, Z1, Z2, Z3, Z4, Z5, Z6])
                refine anyH_pure 18 _ ?_ rfl (by kernel_rfl) (by kernel_rfl) (by kernel_rfl) (fun _ _ _ h => h) rfl ?_ hS ?_
                rotate_left
                · (intro w'; go_simp; (try with_reducible rfl))
                (try simp only [Act.put, Z1, Z2, Z3, Z4, Z5, Z6])
                refine anyH_pure 19 _ ?_ rfl (by kernel_rfl) (by kernel_rfl) (by kernel_rfl) (fun _ _ _ h => h) rfl ?_ hS ?_
                rotate_left
                · (intro w'; go_simp; (try with_reducible rfl))
                (try simp only [Act.put, Z1, Z2, Z3, Z4, Z5, Z6])
                refine anyH_if 20 _ ?_ rfl (by kernel_rfl) (by kernel_rfl) (by kernel_rfl) (fun _ _ _ h => h) rfl ?_ hS ?_
                rotate_left
                · (intro w' h; have c0 := (d_ts h.2); go_simp; (try with_reducible rfl))
                (try simp only [Act.put, Z1, Z2, Z3, Z4, Z5, Z6])
                refine anyH_pure 21 _ ?_ rfl (by kernel_rfl) (by kernel_rfl) (by kernel_rfl) (fun _ _ _ h => h) rfl ?_ hS ?_
                rotate_left
                · (intro w'; go_simp; (try with_reducible rfl))
                (try simp only [Act.put, Z1, Z2, Z3, Z4, Z5, Z6])
                refine anyH_if 22 _ ?_ rfl (by kernel_rfl) (by kernel_rfl) (by kernel_rfl) (fun _ _ _ h => h) rfl ?_ hS ?_
                rotate_left
                · (intro w' h; have c0 := h.1.c0; go_simp; (try with_reducible rfl))
                (try simp only [Act.put, Z1, Z2, Z3, Z4, Z5, Z6])
                refine anyH_pure 23 _ ?_ rfl (by kernel_rfl) (by kernel_rfl) (by kernel_rfl) (fun _ _ _ h => h) rfl ?_ hS ?_
                rotate_left
                · (intro w'; go_simp; (try with_reducible rfl))
                (try simp only [Act.put, Z1, Z2, Z3, Z4, Z5, Z6])
                refine anyH_pure 24 _ ?_ rfl (by kernel_rfl) (by kernel_rfl) (by kernel_rfl) (fun _ _ _ h => h) rfl ?_ hS ?_
                rotate_left
                · (intro w'; go_simp; (try with_reducible rfl))
                (try simp only [Act.put, Z1, Z2, Z3, Z4, Z5, Z6])
                refine anyH_pure 25 _ ?_ rfl (by kernel_rfl) (by kernel_rfl) (by kernel_rfl) (fun _ _ _ h => h) rfl ?_ hS ?_
                rotate_left
                · (intro w'; go_simp; (try with_reducible rfl))
                (try simp only [Act.put, Z1, Z2, Z3, Z4, Z5, Z6])
                refine anyH_skip 26 _ rfl (by kernel_rfl) (by kernel_rfl) (by kernel_rfl) (fun _ _ _ h => h) rfl hS ?_
                (try simp only [Act.put, Z1, Z2, Z3, Z4, Z5, Z6])
                refine anyH_skip 27 _ rfl (by kernel_rfl) (by kernel_rfl) (by kernel_rfl) (fun _ _ _ h => h) rfl hS ?_
                (try simp only [Act.put, Z1, Z2, Z3, Z4, Z5, Z6])
                refine anyH_skip 28 _ rfl (by kernel_rfl) (by kernel_rfl) (by kernel_rfl) (fun _ _ _ h => h) rfl hS ?_
                (try simp only [Act.put, Z1, Z2, Z3, Z4, Z5, Z6])
                refine anyH_skip 29 _ rfl (by kernel_rfl) (by kernel_rfl) (by kernel_rfl) (fun _ _ _ h => h) rfl hS ?_
                (try simp only [Act.put, Z1, Z2, Z3, Z4, Z5, Z6])
                refine anyH_skip 30 _ rfl (by kernel_rfl) (by kernel_rfl) (by kernel_rfl) (fun _ _ _ h => h) rfl hS ?_
                (try simp only [Act.put, Z1, Z2, Z3, Z4, Z5, Z6])
                refine anyH_skip 31 _ rfl (by kernel_rfl) (by kernel_rfl) (by kernel_rfl) (fun _ _ _ h => h) rfl hS ?_
                (try simp only [Act.put, Z1, Z2, Z3, Z4, Z5, Z6])
                refine anyH_skip 32 _ rfl (by kernel_rfl) (by kernel_rfl) (by kernel_rfl) (fun _ _ _ h => h) rfl hS ?_
                (try simp only [Act.put, Z1, Z2, Z3, Z4, Z5, Z6])
                refine anyH_skip 33 _ rfl (by kernel_rfl) (by kernel_rfl) (by kernel_rfl) (fun _ _ _ h => h) rfl hS ?_
                (try simp only [Act.put, Z1, Z2, Z3, Z4, Z5, Z6])
                refine anyH_skip 34 _ rfl (by kernel_rfl) (by kernel_rfl) (by kernel_rfl) (fun _ _ _ h => h) rfl hS ?_
                (try simp only [Act.put, Z1, Z2, Z3, Z4, Z5, Z6])
                refine anyH_pure 35 _ ?_ rfl (by kernel_rfl) (by kernel_rfl) (by kernel_rfl) (fun _ _ _ h => h) rfl ?_ hS ?_
                rotate_left
                · (intro w'; go_simp; (try with_reducible rfl))
                (try simp only [Act.put, Z1, Z2, Z3, Z4, Z5, Z6])
                refine wpAnyH_done (by kernel_rfl) ?_ _
                go_wp2_with fail
                go_meet
                case rel => exact ⟨by rw [HC.out], hS⟩
              · have hs' : decide (x.2.ts ≤ s.1) = false := by simp; omega
                have HC : Hid (atC log ts s.1 x = decide (x.2.ts = P.bgn log x.1.txn)) := by unfold Hid atC; simp [hk3, he, ht, hs]
                clear hk3 he ht hs
                refine anyH_pure 0 _ ?_ rfl (by kernel_rfl) (by kernel_rfl) (by kernel_rfl) (fun _ _ _ h => h) rfl ?_ hS ?_
                rotate_left
                · (intro w'; go_simp; (try with_reducible rfl))
                (try simp only [Act.put, Z1, Z2, Z4, Z5, Z6])
                refine anyH_pure 1 _ ?_ rfl (by kernel_rfl) (by kernel_rfl) (by kernel_rfl) (fun _ _ _ h => h) rfl ?_ hS ?_
                rotate_left
                · (intro w'; go_simp; (try with_reducible rfl))
                (try simp only [Act.put, Z1, Z2, Z3, Z4, Z5, Z6])
                refine anyH_if 2 _ ?_ rfl (by kernel_rfl) (by kernel_rfl) (by kernel_rfl) (fun _ _ _ h => h) rfl ?_ hS ?_
                rotate_left
                · (intro w' h; have c0 := (d_kind h.2); go_simp; (try with_reducible rfl))
                (try simp only [Act.put, Z1, Z2, Z3, Z4, Z5, Z6])
                refine anyH_pure 3 _ ?_ rfl (by kernel_rfl) (by kernel_rfl) (by kernel_rfl) (fun _ _ _ h => h) rfl ?_ hS ?_
                rotate_left
                · (intro w'; go_simp; (try with_reducible rfl))
                (try simp only [Act.put, Z1, Z2, Z3, Z4, Z5, Z6])
                refine anyH_pure 4 _ ?_ rfl (by kernel_rfl) (by kernel_rfl) (by kernel_rfl) (fun _ _ _ h => h) rfl ?_ hS ?_
                rotate_left
                · (intro w'; go_simp; (try with_reducible rfl))
                (try simp only [Act.put, Z1, Z2, Z3, Z4, Z5, Z6])
                refine anyH_pure 5 _ ?_ rfl (by kernel_rfl) (by kernel_rfl) (by kernel_rfl) (fun _ _ _ h => h) rfl ?_ hS ?_
                rotate_left
                · (intro w'; go_simp; (try with_reducible rfl))
                (try simp only [Act.put, Z1, Z2, Z3, Z4, Z5, Z6])
                refine anyH_pure 6 _ ?_ rfl (by kernel_rfl) (by kernel_rfl) (by kernel_rfl) (fun _ _ _ h => h) rfl ?_ hS ?_
                rotate_left
                · (intro w'; go_simp; (try with_reducible rfl))
                (try simp only [Act.put, Z1, Z2, Z3, Z4, Z5, Z6])
                refine anyH_if 7 _ ?_ rfl (by kernel_rfl) (by kernel_rfl) (by kernel_rfl) (fun _ _ _ h => h) rfl ?_ hS ?_
                rotate_left
                · (intro w' h; have c0 := (d_e h.2); go_simp; (try with_reducible rfl))
                (try simp only [Act.put, Z1, Z2, Z3, Z4, Z5, Z6])
                refine anyH_pure 8 _ ?_ rfl (by kernel_rfl) (by kernel_rfl) (by kernel_rfl) (fun _ _ _ h => h) rfl ?_ hS ?_
                rotate_left
                · (intro w'; go_simp; (try with_reducible rfl))
                (try simp only [Act.put, Z1, Z2, Z3, Z4, Z5, Z6])
                refine anyH_pure 9 _ ?_ rfl (by kernel_rfl) (by kernel_rfl) (by kernel_rfl) (fun _ _ _ h => h) rfl ?_ hS ?_
                rotate_left
                · (intro w'; go_simp; (try with_reducible rfl))
                (try simp only [Act.put, Z1, Z2, Z3, Z4, Z5, Z6])
                refine anyH_pure 10 _ ?_ rfl (by kernel_rfl) (by kernel_rfl) (by kernel_rfl) (fun _ _ _ h => h) rfl ?_ hS ?_
                rotate_left
                · (intro w'; go_simp; (try with_reducible rfl))
                (try simp only [Act.put, Z1, Z2, Z3, Z4, Z5, Z6])
                refine anyH_pure 11 _ ?_ rfl (by kernel_rfl) (by kernel_rfl) (by kernel_rfl) (fun _ _ _ h => h) rfl ?_ hS ?_
                rotate_left
                · (intro w'; go_simp; (try with_reducible rfl))
                (try simp only [Act.put, Z1, Z2, Z3, Z4, Z5, Z6])
                refine anyH_pure 12 _ ?_ rfl (by kernel_rfl) (by kernel_rfl) (by kernel_rfl) (fun _ _ _ h => h) rfl ?_ hS ?_
                rotate_left
                · (intro w'; go_simp; (try with_reducible rfl))
                (try simp only [Act.put, Z1, Z2, Z3, Z4, Z5, Z6])
                refine anyH_if 13 _ ?_ rfl (by kernel_rfl) (by kernel_rfl) (by kernel_rfl) (fun _ _ _ h => h) rfl ?_ hS ?_
                rotate_left
                · (intro w' h; have c0 := (d_ts h.2); go_simp; (try with_reducible rfl))
                (try simp only [Act.put, Z1, Z2, Z3, Z4, Z5, Z6])
                refine anyH_pure 14 _ ?_ rfl (by kernel_rfl) (by kernel_rfl) (by kernel_rfl) (fun _ _ _ h => h) rfl ?_ hS ?_
                rotate_left
                · (intro w'; go_simp; (try with_reducible rfl))
                (try simp only [Act.put, Z1, Z2, Z3, Z4, Z5, Z6])
                refine anyH_pure 15 _ ?_ rfl (by kernel_rfl) (by kernel_rfl) (by kernel_rfl) (fun _ _ _ h => h) rfl ?_ hS ?_
                rotate_left
                · (intro w'; go_simp; (try with_reducible rfl))
                (try simp only [Act.put, Z1, Z2, Z3, Z4, Z5, Z6])
                refine anyH_pure 16 _ ?_ rfl (by kernel_rfl) (by kernel_rfl) (by kernel_rfl) (fun _ _ _ h => h) rfl ?_ hS ?_
                rotate_left
                · (intro w'; go_simp; (try with_reducible rfl))
                (try simp only [Act.put, Z1, Z2, Z3, Z4, Z5, Z6])
                refine anyH_pure 17 _ ?_ rfl (by kernel_rfl) (by kernel_rfl) (by kernel_rfl) (fun _ _ _ h => h) rfl ?_ hS ?_
                rotate_left
                · (intro w'; go_simp; (try with_reducible rfl))
                (try simp only [Act.put, Z1, Z2, Z3, Z4, Z5, Z6])
                refine anyH_pure 18 _ ?_ rfl (by kernel_rfl) (by kernel_rfl) (by kernel_rfl) (fun _ _ _ h => h) rfl ?_ hS ?_
                rotate_left
                · (intro w'; go_simp; (try with_reducible rfl))
                (try simp only [Act.put, Z1, Z2, Z3, Z4, Z5, Z6])
                refine anyH_pure 19 _ ?_ rfl (by kernel_rfl) (by kernel_rfl) (by kernel_rfl) (fun _ _ _ h => h) rfl ?_ hS ?_
                rotate_left
                · (intro w'; go_simp; (try with_reducible rfl))
                (try simp only [Act.put, Z1, Z2, Z3, Z4, Z5, Z6])
                refine anyH_if 20 _ ?_ rfl (by kernel_rfl) (by kernel_rfl) (by kernel_rfl) (fun _ _ _ h => h) rfl ?_ hS ?_
                rotate_left
                · (intro w' h; have c0 := (d_ts h.2); go_simp; (try with_reducible rfl))
                (try simp only [Act.put, Z1, Z2, Z3, Z4, Z5, Z6])
                refine anyH_pure 21 _ ?_ rfl (by kernel_rfl) (by kernel_rfl) (by kernel_rfl) (fun _ _ _ h => h) rfl ?_ hS ?_
                rotate_left
                · (intro w'; go_simp; (try with_reducible rfl))
                (try simp only [Act.put, Z1, Z2, Z3, Z4, Z5, Z6])
                refine anyH_if 22 _ ?_ rfl (by kernel_rfl) (by kernel_rfl) (by kernel_rfl) (fun _ _ _ h => h) rfl ?_ hS ?_
                rotate_left
                · (intro w' h; have c0 := h.1.c0; go_simp; (try with_reducible rfl))
                (try simp only [Act.put, Z1, Z2, Z3, Z4, Z5, Z6])
                refine anyH_pure 23 _ ?_ rfl (by kernel_rfl) (by kernel_rfl) (by kernel_rfl) (fun _ _ _ h => h) rfl ?_ hS ?_
                rotate_left
                · (intro w'; go_simp; (try with_reducible rfl))
                (try simp only [Act.put, Z1, Z2, Z3, Z4, Z5, Z6])
                refine anyH_pure 24 _ ?_ rfl (by kernel_rfl) (by kernel_rfl) (by kernel_rfl) (fun _ _ _ h => h) rfl ?_ hS ?_
                rotate_left
                · (intro w'; go_simp; (try with_reducible rfl))
                (try simp only [Act.put, Z1, Z2, Z3, Z4, Z5, Z6])
                refine anyH_pure 25 _ ?_ rfl (by kernel_rfl) (by kernel_rfl) (by kernel_rfl) (fun _ _ _ h => h) rfl ?_ hS ?_
                rotate_left
                · (intro w'; go_simp; (try with_reducible rfl))
                (try simp only [Act.put, Z1, Z2, Z3, Z4, Z5, Z6])
                refine anyH_pure 26 _ ?_ rfl (by kernel_rfl) (by kernel_rfl) (by kernel_rfl) (fun _ _ _ h => h) rfl ?_ hS ?_
                rotate_left
                · (intro w'; go_simp; (try with_reducible rfl))
                (try simp only [Act.put, Z1, Z2, Z3, Z4, Z5, Z6])
                refine anyH_pure 27 _ ?_ rfl (by kernel_rfl) (by kernel_rfl) (by kernel_rfl) (fun _ _ _ h => h) rfl ?_ hS ?_
                rotate_left
                · (intro w'; go_simp; (try with_reducible rfl))
                (try simp only [Act.put, Z1, Z2, Z3, Z4, Z5, Z6])
                refine anyH_if 28 _ ?_ rfl (by kernel_rfl) (by kernel_rfl) (by kernel_rfl) (fun _ _ _ h => h) rfl ?_ hS ?_
                rotate_left
                · (intro w' h; have c0 := (d_ts h.2); go_simp; (try with_reducible rfl))
                (try simp only [Act.put, Z1, Z2, Z3, Z4, Z5, Z6])
                refine anyH_pure 29 _ ?_ rfl (by kernel_rfl) (by kernel_rfl) (by kernel_rfl) (fun _ _ _ h => h) rfl ?_ hS ?_
                rotate_left
                · (intro w'; go_simp; (try with_reducible rfl))
                (try simp only [Act.put, Z1, Z2, Z3, Z4, Z5, Z6])
                refine anyH_pure 30 _ ?_ rfl (by kernel_rfl) (by kernel_rfl) (by kernel_rfl) (fun _ _ _ h => h) rfl ?_ hS ?_
                rotate_left
                · (intro w'; go_simp; (try with_reducible rfl))
                (try simp only [Act.put, Z1, Z2, Z3, Z4, Z5, Z6])
                refine anyH_pure 31 _ ?_ rfl (by kernel_rfl) (by kernel_rfl) (by kernel_rfl) (fun _ _ _ h => h) rfl ?_ hS ?_
                rotate_left
                · (intro w'; go_simp; (try with_reducible rfl))
                (try simp only [Act.put, Z1, Z2, Z3, Z4, Z5, Z6])
                refine anyH_if 32 _ ?_ rfl (by kernel_rfl) (by kernel_rfl) (by kernel_rfl) (fun _ _ _ h => h) rfl ?_ hS ?_
                rotate_left
                · (intro w' h; have c0 := (d_txn h.2); go_simp; (try with_reducible rfl))
                (try simp only [Act.put, Z1, Z2, Z3, Z4, Z5, Z6])
                refine anyH_call 33 _ _ _ _ (by kernel_rfl) rfl rfl (by go_simp) (((refbeg_any (h.below hS.1.below) hn x.1.txn).mono fun e w' ⟨h1, h2⟩ => ⟨h1, hS.1.go h2, hS.2.below h2⟩)) (fun w' hS => ?_)
                (try simp only [Act.put, Z1, Z2, Z3, Z4, Z5, Z6])
                clear hk' he' ht' hs'
                generalize P.bgn log x.1.txn = bg at *
                by_cases hq : x.2.ts = bg
                · have hq' : ((x.2.ts : Int) == (bg : Int)) = true := by simp [hq]
                  have hq2 : (x.2.ts == bg) = true := by simp [hq]
                  have HC2 : Hid (atC log ts s.1 x = true) := by unfold Hid; rw [HC.out]; simp [hq]
                  clear hq HC
                  refine anyH_pure 34 _ ?_ rfl (by kernel_rfl) (by kernel_rfl) (by kernel_rfl) (fun _ _ _ h => h) rfl ?_ hS ?_
                  rotate_left
                  · (intro w'; go_simp; (try with_reducible rfl))
                  (try simp only [Act.put, Z1, Z2, Z3, Z4, Z5, Z6])
                  refine anyH_pure 35 _ ?_ rfl (by kernel_rfl) (by kernel_rfl) (by kernel_rfl) (fun _ _ _ h => h) rfl ?_ hS ?_
                  rotate_left
                  · (intro w'; go_simp; (try with_reducible rfl))
                  (try simp only [Act.put, Z1, Z2, Z3, Z4, Z5, Z6])
                  refine wpAnyH_done (by kernel_rfl) ?_ _
                  go_wp2_with fail
                  go_meet
                  case rel => exact ⟨by rw [HC2.out], hS⟩
                · have hq' : ((x.2.ts : Int) == (bg : Int)) = false := by simp; omega
                  have hq2 : (x.2.ts == bg) = false := by simp [hq]
                  have HC2 : Hid (atC log ts s.1 x = false) := by unfold Hid; rw [HC.out]; simp [hq]
                  clear hq HC
                  refine anyH_pure 34 _ ?_ rfl (by kernel_rfl) (by kernel_rfl) (by kernel_rfl) (fun _ _ _ h => h) rfl ?_ hS ?_
                  rotate_left
                  · (intro w'; go_simp; (try with_reducible rfl))
                  (try simp only [Act.put, Z1, Z2, Z3, Z4, Z5, Z6])
                  refine anyH_pure 35 _ ?_ rfl (by kernel_rfl) (by kernel_rfl) (by kernel_rfl) (fun _ _ _ h => h) rfl ?_ hS ?_
                  rotate_left
                  · (intro w'; go_simp; (try with_reducible rfl))
                  (try simp only [Act.put, Z1, Z2, Z3, Z4, Z5, Z6])
                  refine wpAnyH_done (by kernel_rfl) ?_ _
                  go_wp2_with fail
                  go_meet
                  case rel => exact ⟨by rw [HC2.out], hS⟩
          · have he' : (x.2.e != 0) = true := by simp [he]
            have HC : Hid (atC log ts s.1 x = true) := by unfold Hid atC; simp [he]
            clear hk3 he
            refine anyH_pure 0 _ ?_ rfl (by kernel_rfl) (by kernel_rfl) (by kernel_rfl) (fun _ _ _ h => h) rfl ?_ hS ?_
            rotate_left
            · (intro w'; go_simp; (try with_reducible rfl))
            (try simp only [Act.put, Z1, Z2, Z4, Z5, Z6])
            refine anyH_pure 1 _ ?_ rfl (by kernel_rfl) (by kernel_rfl) (by kernel_rfl) (fun _ _ _ h => h) rfl ?_ hS ?_
            rotate_left
            · (intro w'; go_simp; (try with_reducible rfl))
            (try simp only [Act.put, Z1, Z2, Z3, Z4, Z5, Z6])
            refine anyH_if 2 _ ?_ rfl (by kernel_rfl) (by kernel_rfl) (by kernel_rfl) (fun _ _ _ h => h) rfl ?_ hS ?_
            rotate_left
            · (intro w' h; have c0 := (d_kind h.2); go_simp; (try with_reducible rfl))
            (try simp only [Act.put, Z1, Z2, Z3, Z4, Z5, Z6])
            refine anyH_pure 3 _ ?_ rfl (by kernel_rfl) (by kernel_rfl) (by kernel_rfl) (fun _ _ _ h => h) rfl ?_ hS ?_
            rotate_left
            · (intro w'; go_simp; (try with_reducible rfl))
            (try simp only [Act.put, Z1, Z2, Z3, Z4, Z5, Z6])
            refine anyH_pure 4 _ ?_ rfl (by kernel_rfl) (by kernel_rfl) (by kernel_rfl) (fun _ _ _ h => h) rfl ?_ hS ?_
            rotate_left
            · (intro w'; go_simp; (try with_reducible rfl))
            (try simp only [Act.put, Z1, Z2, Z3, Z4, Z5, Z6])
            refine anyH_pure 5 _ ?_ rfl (by kernel_rfl) (by kernel_rfl) (by kernel_rfl) (fun _ _ _ h => h) rfl ?_ hS ?_
            rotate_left
            · (intro w'; go_simp; (try with_reducible rfl))
            (try simp only [Act.put, Z1, Z2, Z3, Z4, Z5, Z6])
            refine anyH_pure 6 _ ?_ rfl (by kernel_rfl) (by kernel_rfl) (by kernel_rfl) (fun _ _ _ h => h) rfl ?_ hS ?_
            rotate_left
            · (intro w'; go_simp; (try with_reducible rfl))
            (try simp only [Act.put, Z1, Z2, Z3, Z4, Z5, Z6])
            refine anyH_if 7 _ ?_ rfl (by kernel_rfl) (by kernel_rfl) (by kernel_rfl) (fun _ _ _ h => h) rfl ?_ hS ?_
            rotate_left
            · (intro w' h; have c0 := (d_e h.2); go_simp; (try with_reducible rfl))
            (try simp only [Act.put, Z1, Z2, Z3, Z4, Z5, Z6])
            refine anyH_pure 8 _ ?_ rfl (by kernel_rfl) (by kernel_rfl) (by kernel_rfl) (fun _ _ _ h => h) rfl ?_ hS ?_
            rotate_left
            · (intro w'; go_simp; (try with_reducible rfl))
            (try simp only [Act.put, Z1, Z2, Z3, Z4, Z5, Z6])
            refine anyH_pure 9 _ ?_ rfl (by kernel_rfl) (by kernel_rfl) (by kernel_rfl) (fun _ _ _ h => h) rfl ?_ hS ?_
            rotate_left
            · (intro w'; go_simp; (try with_reducible rfl))
            (try simp only [Act.put, Z1, Z2, Z3, Z4, Z5, Z6])
            refine anyH_pure 10 _ ?_ rfl (by kernel_rfl) (by kernel_rfl) (by kernel_rfl) (fun _ _ _ h => h) rfl ?_ hS ?_
            rotate_left
            · (intro w'; go_simp; (try with_reducible rfl))
            (try simp only [Act.put, Z1, Z2, Z3, Z4, Z5, Z6])
            refine anyH_skip 11 _ rfl (by kernel_rfl) (by kernel_rfl) (by kernel_rfl) (fun _ _ _ h => h) rfl hS ?_
            (try simp only [Act.put, Z1, Z2, Z3, Z4, Z5, Z6])
            refine anyH_skip 12 _ rfl (by kernel_rfl) (by kernel_rfl) (by kernel_rfl) (fun _ _ _ h => h) rfl hS ?_
            (try simp only [Act.put, Z1, Z2, Z3, Z4, Z5, Z6])
            refine anyH_skip 13 _ rfl (by kernel_rfl) (by kernel_rfl) (by kernel_rfl) (fun _ _ _ h => h) rfl hS ?_
            (try simp only [Act.put, Z1, Z2, Z3, Z4, Z5, Z6])
            refine anyH_skip 14 _ rfl (by kernel_rfl) (by kernel_rfl) (by kernel_rfl) (fun _ _ _ h => h) rfl hS ?_
            (try simp only [Act.put, Z1, Z2, Z3, Z4, Z5, Z6])
            refine anyH_skip 15 _ rfl (by kernel_rfl) (by kernel_rfl) (by kernel_rfl) (fun _ _ _ h => h) rfl hS ?_
            (try simp only [Act.put, Z1, Z2, Z3, Z4, Z5, Z6])
            refine anyH_pure 16 _ ?_ rfl (by kernel_rfl) (by kernel_rfl) (by kernel_rfl) (fun _ _ _ h => h) rfl ?_ hS ?_
            rotate_left
            · (intro w'; go_simp; (try with_reducible rfl))
            (try simp only [Act.put, Z1, Z2, Z3, Z4, Z5, Z6])
            refine anyH_pure 17 _ ?_ rfl (by kernel_rfl) (by kernel_rfl) (by kernel_rfl) (fun _ _ _ h => h) rfl ?_ hS ?_
            rotate_left
            · (intro w'; go_simp; (try with_reducible rfl))
            (try simp only [Act.put, Z1, Z2, Z3, Z4, Z5, Z6])
            refine anyH_skip 18 _ rfl (by kernel_rfl) (by kernel_rfl) (by kernel_rfl) (fun _ _ _ h => h) rfl hS ?_
            (try simp only [Act.put, Z1, Z2, Z3, Z4, Z5, Z6])
            refine anyH_skip 19 _ rfl (by kernel_rfl) (by kernel_rfl) (by kernel_rfl) (fun _ _ _ h => h) rfl hS ?_
            (try simp only [Act.put, Z1, Z2, Z3, Z4, Z5, Z6])
            refine anyH_skip 20 _ rfl (by kernel_rfl) (by kernel_rfl) (by kernel_rfl) (fun _ _ _ h => h) rfl hS ?_
            (try simp only [Act.put, Z1, Z2, Z3, Z4, Z5, Z6])
            refine anyH_skip 21 _ rfl (by kernel_rfl) (by kernel_rfl) (by kernel_rfl) (fun _ _ _ h => h) rfl hS ?_
            (try simp only [Act.put, Z1, Z2, Z3, Z4, Z5, Z6])
            refine anyH_skip 22 _ rfl (by kernel_rfl) (by kernel_rfl) (by kernel_rfl) (fun _ _ _ h => h) rfl hS ?_
            (try simp only [Act.put, Z1, Z2, Z3, Z4, Z5, Z6])
            refine anyH_skip 23 _ rfl (by kernel_rfl) (by kernel_rfl) (by kernel_rfl) (fun _ _ _ h => h) rfl hS ?_
            (try simp only [Act.put, Z1, Z2, Z3, Z4, Z5, Z6])
            refine anyH_pure 24 _ ?_ rfl (by kernel_rfl) (by kernel_rfl) (by kernel_rfl) (fun _ _ _ h => h) rfl ?_ hS ?_
            rotate_left
            · (intro w'; go_simp; (try with_reducible rfl))
            (try simp only [Act.put, Z1, Z2, Z3, Z4, Z5, Z6])
            refine anyH_pure 25 _ ?_ rfl (by kernel_rfl) (by kernel_rfl) (by kernel_rfl) (fun _ _ _ h => h) rfl ?_ hS ?_
            rotate_left
            · (intro w'; go_simp; (try with_reducible rfl))
            (try simp only [Act.put, Z1, Z2, Z3, Z4, Z5, Z6])
            refine anyH_skip 26 _ rfl (by kernel_rfl) (by kernel_rfl) (by kernel_rfl) (fun _ _ _ h => h) rfl hS ?_
            (try simp only [Act.put, Z1, Z2, Z3, Z4, Z5, Z6])
            refine anyH_skip 27 _ rfl (by kernel_rfl) (by kernel_rfl) (by kernel_rfl) (fun _ _ _ h => h) rfl hS ?_
            (try simp only [Act.put, Z1, Z2, Z3, Z4, Z5, Z6])
            refine anyH_skip 28 _ rfl (by kernel_rfl) (by kernel_rfl) (by kernel_rfl) (fun _ _ _ h => h) rfl hS ?_
            (try simp only [Act.put, Z1, Z2, Z3, Z4, Z5, Z6])
            refine anyH_skip 29 _ rfl (by kernel_rfl) (by kernel_rfl) (by kernel_rfl) (fun _ _ _ h => h) rfl hS ?_
            (try simp only [Act.put, Z1, Z2, Z3, Z4, Z5, Z6])
            refine anyH_skip 30 _ rfl (by kernel_rfl) (by kernel_rfl) (by kernel_rfl) (fun _ _ _ h => h) rfl hS ?_
            (try simp only [Act.put, Z1, Z2, Z3, Z4, Z5, Z6])
            refine anyH_skip 31 _ rfl (by kernel_rfl) (by kernel_rfl) (by kernel_rfl) (fun _ _ _ h => h) rfl hS ?_
            (try simp only [Act.put, Z1, Z2, Z3, Z4, Z5, Z6])
            refine anyH_skip 32 _ rfl (by kernel_rfl) (by kernel_rfl) (by kernel_rfl) (fun _ _ _ h => h) rfl hS ?_
            (try simp only [Act.put, Z1, Z2, Z3, Z4, Z5, Z6])
            refine anyH_skip 33 _ rfl (by kernel_rfl) (by kernel_rfl) (by kernel_rfl) (fun _ _ _ h => h) rfl hS ?_
            (try simp only [Act.put, Z1, Z2, Z3, Z4, Z5, Z6])
            refine anyH_skip 34 _ rfl (by kernel_rfl) (by kernel_rfl) (by kernel_rfl) (fun _ _ _ h => h) rfl hS ?_
            (try simp only [Act.put, Z1, Z2, Z3, Z4, Z5, Z6])
            refine anyH_pure 35 _ ?_ rfl (by kernel_rfl) (by kernel_rfl) (by kernel_rfl) (fun _ _ _ h => h) rfl ?_ hS ?_
            rotate_left
            · (intro w'; go_simp; (try with_reducible rfl))
            (try simp only [Act.put, Z1, Z2, Z3, Z4, Z5, Z6])
            refine wpAnyH_done (by kernel_rfl) ?_ _
            go_wp2_with fail
            go_meet
            case rel => exact ⟨by rw [HC.out], hS⟩
        · have hk' : (x.1.kind != 3) = true := by simp [hk3]
          have HC : Hid (atC log ts s.1 x = true) := by unfold Hid atC; simp [hk3]
          clear hk3
          refine anyH_pure 0 _ ?_ rfl (by kernel_rfl) (by kernel_rfl) (by kernel_rfl) (fun _ _ _ h => h) rfl ?_ hS ?_
          rotate_left
          · (intro w'; go_simp; (try with_reducible rfl))
          (try simp only [Act.put, Z1, Z2, Z4, Z5, Z6])
          refine anyH_pure 1 _ ?_ rfl (by kernel_rfl) (by kernel_rfl) (by kernel_rfl) (fun _ _ _ h => h) rfl ?_ hS ?_
          rotate_left
          · (intro w'; go_simp; (try with_reducible rfl))
          (try simp only [Act.put, Z1, Z2, Z3, Z4, Z5, Z6])
          refine anyH_if 2 _ ?_ rfl (by kernel_rfl) (by kernel_rfl) (by kernel_rfl) (fun _ _ _ h => h) rfl ?_ hS ?_
          rotate_left
          · (intro w' h; have c0 := (d_kind h.2); go_simp; (try with_reducible rfl))
          (try simp only [Act.put, Z1, Z2, Z3, Z4, Z5, Z6])
          refine anyH_pure 3 _ ?_ rfl (by kernel_rfl) (by kernel_rfl) (by kernel_rfl) (fun _ _ _ h => h) rfl ?_ hS ?_
          rotate_left
          · (intro w'; go_simp; (try with_reducible rfl))
          (try simp only [Act.put, Z1, Z2, Z3, Z4, Z5, Z6])
          refine anyH_pure 4 _ ?_ rfl (by kernel_rfl) (by kernel_rfl) (by kernel_rfl) (fun _ _ _ h => h) rfl ?_ hS ?_
          rotate_left
          · (intro w'; go_simp; (try with_reducible rfl))
          (try simp only [Act.put, Z1, Z2, Z3, Z4, Z5, Z6])
          refine anyH_skip 5 _ rfl (by kernel_rfl) (by kernel_rfl) (by kernel_rfl) (fun _ _ _ h => h) rfl hS ?_
          (try simp only [Act.put, Z1, Z2, Z3, Z4, Z5, Z6])
          refine anyH_skip 6 _ rfl (by kernel_rfl) (by kernel_rfl) (by kernel_rfl) (fun _ _ _ h => h) rfl hS ?_
          (try simp only [Act.put, Z1, Z2, Z3, Z4, Z5, Z6])
          refine anyH_skip 7 _ rfl (by kernel_rfl) (by kernel_rfl) (by kernel_rfl) (fun _ _ _ h => h) rfl hS ?_
          (try simp only [Act.put, Z1, Z2, Z3, Z4, Z5, Z6])
          refine anyH_skip 8 _ rfl (by kernel_rfl) (by kernel_rfl) (by kernel_rfl) (fun _ _ _ h => h) rfl hS ?_
          (try simp only [Act.put, Z1, Z2, Z3, Z4, Z5, Z6])
          refine anyH_pure 9 _ ?_ rfl (by kernel_rfl) (by kernel_rfl) (by kernel_rfl) (fun _ _ _ h => h) rfl ?_ hS ?_
          rotate_left
          · (intro w'; go_simp; (try with_reducible rfl))
          (try simp only [Act.put, Z1, Z2, Z3, Z4, Z5, Z6])
          refine anyH_pure 10 _ ?_ rfl (by kernel_rfl) (by kernel_rfl) (by kernel_rfl) (fun _ _ _ h => h) rfl ?_ hS ?_
          rotate_left
          · (intro w'; go_simp; (try with_reducible rfl))
          (try simp only [Act.put, Z1, Z2, Z3, Z4, Z5, Z6])
          refine anyH_skip 11 _ rfl (by kernel_rfl) (by kernel_rfl) (by kernel_rfl) (fun _ _ _ h => h) rfl hS ?_
          (try simp only [Act.put, Z1, Z2, Z3, Z4, Z5, Z6])
          refine anyH_skip 12 _ rfl (by kernel_rfl) (by kernel_rfl) (by kernel_rfl) (fun _ _ _ h => h) rfl hS ?_
          (try simp only [Act.put, Z1, Z2, Z3, Z4, Z5, Z6])
          refine anyH_skip 13 _ rfl (by kernel_rfl) (by kernel_rfl) (by kernel_rfl) (fun _ _ _ h => h) rfl hS ?_
          (try simp only [Act.put, Z1, Z2, Z3, Z4, Z5, Z6])
          refine anyH_skip 14 _ rfl (by kernel_rfl) (by kernel_rfl) (by kernel_rfl) (fun _ _ _ h => h) rfl hS ?_
          (try simp only [Act.put, Z1, Z2, Z3, Z4, Z5, Z6])
          refine anyH_skip 15 _ rfl (by kernel_rfl) (by kernel_rfl) (by kernel_rfl) (fun _ _ _ h => h) rfl hS ?_
          (try simp only [Act.put, Z1, Z2, Z3, Z4, Z5, Z6])
          refine anyH_pure 16 _ ?_ rfl (by kernel_rfl) (by kernel_rfl) (by kernel_rfl) (fun _ _ _ h => h) rfl ?_ hS ?_
          rotate_left
          · (intro w'; go_simp; (try with_reducible rfl))
          (try simp only [Act.put, Z1, Z2, Z3, Z4, Z5, Z6])
          refine anyH_pure 17 _ ?_ rfl (by kernel_rfl) (by kernel_rfl) (by kernel_rfl) (fun _ _ _ h => h) rfl ?_ hS ?_
          rotate_left
          · (intro w'; go_simp; (try with_reducible rfl))
          (try simp only [Act.put, Z1, Z2, Z3, Z4, Z5, Z6])
          refine anyH_skip 18 _ rfl (by kernel_rfl) (by kernel_rfl) (by kernel_rfl) (fun _ _ _ h => h) rfl hS ?_
          (try simp only [Act.put, Z1, Z2, Z3, Z4, Z5, Z6])
          refine anyH_skip 19 _ rfl (by kernel_rfl) (by kernel_rfl) (by kernel_rfl) (fun _ _ _ h => h) rfl hS ?_
          (try simp only [Act.put, Z1, Z2, Z3, Z4, Z5, Z6])
          refine anyH_skip 20 _ rfl (by kernel_rfl) (by kernel_rfl) (by kernel_rfl) (fun _ _ _ h => h) rfl hS ?_
          (try simp only [Act.put, Z1, Z2, Z3, Z4, Z5, Z6])
          refine anyH_skip 21 _ rfl (by kernel_rfl) (by kernel_rfl) (by kernel_rfl) (fun _ _ _ h => h) rfl hS ?_
          (try simp only [Act.put, Z1, Z2, Z3, Z4, Z5, Z6])
          refine anyH_skip 22 _ rfl (by kernel_rfl) (by kernel_rfl) (by kernel_rfl) (fun _ _ _ h => h) rfl hS ?_
          (try simp only [Act.put, Z1, Z2, Z3, Z4, Z5, Z6])
          refine anyH_skip 23 _ rfl (by kernel_rfl) (by kernel_rfl) (by kernel_rfl) (fun _ _ _ h => h) rfl hS ?_
          (try simp only [Act.put, Z1, Z2, Z3, Z4, Z5, Z6])
          refine anyH_pure 24 _ ?_ rfl (by kernel_rfl) (by kernel_rfl) (by kernel_rfl) (fun _ _ _ h => h) rfl ?_ hS ?_
          rotate_left
          · (intro w'; go_simp; (try with_reducible rfl))
          (try simp only [Act.put, Z1, Z2, Z3, Z4, Z5, Z6])
          refine anyH_pure 25 _ ?_ rfl (by kernel_rfl) (by kernel_rfl) (by kernel_rfl) (fun _ _ _ h => h) rfl ?_ hS ?_
          rotate_left
          · (intro w'; go_simp; (try with_reducible rfl))
          (try simp only [Act.put, Z1, Z2, Z3, Z4, Z5, Z6])
          refine anyH_skip 26 _ rfl (by kernel_rfl) (by kernel_rfl) (by kernel_rfl) (fun _ _ _ h => h) rfl hS ?_
          (try simp only [Act.put, Z1, Z2, Z3, Z4, Z5, Z6])
          refine anyH_skip 27 _ rfl (by kernel_rfl) (by kernel_rfl) (by kernel_rfl) (fun _ _ _ h => h) rfl hS ?_
          (try simp only [Act.put, Z1, Z2, Z3, Z4, Z5, Z6])
          refine anyH_skip 28 _ rfl (by kernel_rfl) (by kernel_rfl) (by kernel_rfl) (fun _ _ _ h => h) rfl hS ?_
          (try simp only [Act.put, Z1, Z2, Z3, Z4, Z5, Z6])
          refine anyH_skip 29 _ rfl (by kernel_rfl) (by kernel_rfl) (by kernel_rfl) (fun _ _ _ h => h) rfl hS ?_
          (try simp only [Act.put, Z1, Z2, Z3, Z4, Z5, Z6])
          refine anyH_skip 30 _ rfl (by kernel_rfl) (by kernel_rfl) (by kernel_rfl) (fun _ _ _ h => h) rfl hS ?_
          (try simp only [Act.put, Z1, Z2, Z3, Z4, Z5, Z6])
          refine anyH_skip 31 _ rfl (by kernel_rfl) (by kernel_rfl) (by kernel_rfl) (fun _ _ _ h => h) rfl hS ?_
          (try simp only [Act.put, Z1, Z2, Z3, Z4, Z5, Z6])
          refine anyH_skip 32 _ rfl (by kernel_rfl) (by kernel_rfl) (by kernel_rfl) (fun _ _ _ h => h) rfl hS ?_
          (try simp only [Act.put, Z1, Z2, Z3, Z4, Z5, Z6])
          refine anyH_skip 33 _ rfl (by kernel_rfl) (by kernel_rfl) (by kernel_rfl) (fun _ _ _ h => h) rfl hS ?_
          (try simp only [Act.put, Z1, Z2, Z3, Z4, Z5, Z6])
          refine anyH_skip 34 _ rfl (by kernel_rfl) (by kernel_rfl) (by kernel_rfl) (fun _ _ _ h => h) rfl hS ?_
          (try simp only [Act.put, Z1, Z2, Z3, Z4, Z5, Z6])
          refine anyH_pure 35 _ ?_ rfl (by kernel_rfl) (by kernel_rfl) (by kernel_rfl) (fun _ _ _ h => h) rfl ?_ hS ?_
          rotate_left
          · (intro w'; go_simp; (try with_reducible rfl))
          (try simp only [Act.put, Z1, Z2, Z3, Z4, Z5, Z6])
          refine wpAnyH_done (by kernel_rfl) ?_ _
          go_wp2_with fail
          go_meet
          case rel => exact ⟨by rw [HC.out], hS⟩
      case rest =>
      clear hS hB
      obtain ⟨rfl, hS, hB⟩ := hcut
      cases hc : atC log ts s.1 x with
      | true =>
        have HM : Hid (P.atS log p ts s x = s) := by unfold Hid; rw [atS_eq, hc]; rfl
        clear hc
        go_wp2_with fail
        go_roundw
        case rel => exact ⟨k + 1, by go_num, by omega, by rw [HT.out, HM.out], by rw [HT.out, HM.out]; exact hS⟩
        case measure => simp [intOf]; omega
      | false =>
        have HM : Hid (P.atS log p ts s x = if (P.wrF log x.1.txn p P.zb).2 = true then (x.2.ts, x.1.txn) else s) := by unfold Hid; rw [atS_eq, hc]; rfl
        clear hc
        go_upto_region 7 with (fail)
        refine no_implicit_lambda% (wp_region_lit ?_)
        iterate 3
          refine no_implicit_lambda% (wpl_val ?_ rfl ?_ ?_)
          rotate_left
          · (go_simp; (try with_reducible rfl))
          (try simp only [Act.put, Z1, Z2, Z3, Z4, Z5, Z6])
        refine no_implicit_lambda% (wpl_val ?_ rfl ?_ ?_)
        rotate_left
        · (have c0 := (d_txn hB); go_simp; (try with_reducible rfl))
        (try simp only [Act.put, Z1, Z2, Z3, Z4, Z5, Z6])
        refine no_implicit_lambda% (wpl_val ?_ rfl ?_ ?_)
        rotate_left
        · (go_simp; (try with_reducible rfl))
        (try simp only [Act.put, Z1, Z2, Z3, Z4, Z5, Z6])
        refine wpl_val (.agg (row 64 P.zb)) rfl (run_buildE rfl (by go_simp; exact built38)) ?_
        (try simp only [Act.put, Z1, Z2, Z3, Z4, Z5, Z6])
        refine wpl_call _ _ rfl (by go_simp) _ (wrote_any (h.below hS.below) hn hoff.out x.1.txn p P.zb) ?_
        rintro e w2 ⟨rfl, hb2⟩
        refine ⟨_, rfl, ?_⟩
        have hbl : bx < w2.heap.size := by have := hB.lt; have := hb2.size; omega
        replace hS := hS.go hb2
        replace hB := hB.below hb2
        clear hb2
        (try simp only [Act.put, Z1, Z2, Z3, Z4, Z5, Z6])
        iterate 3
          refine no_implicit_lambda% (wpl_val ?_ rfl ?_ ?_)
          rotate_left
          · (go_simp; (try with_reducible rfl))
          (try simp only [Act.put, Z1, Z2, Z3, Z4, Z5, Z6])
        refine wpl_alloc 38 (row 64 P.zb) rfl rfl hz38 ?_
        (try simp only [Act.put, Z1, Z2, Z3, Z4, Z5, Z6])
        refine wpl_law rfl (wp_store_row 38 _ _ rfl w2.heap.size (row 64 (P.wrF log x.1.txn p P.zb).1) rfl rfl 38 _ (Blk.alloc_new _ _ _) (size38 _) (by simp only [row_size]) (row_one _ _) ?_)
        (try simp only [Act.put, Z1, Z2, Z3, Z4, Z5, Z6])
        refine no_implicit_lambda% (wpl_val ?_ rfl ?_ ?_)
        rotate_left
        · (go_simp; (try with_reducible rfl))
        (try simp only [Act.put, Z1, Z2, Z3, Z4, Z5, Z6])
        refine no_implicit_lambda% (wpList_nil ?_)
        have hf2 : Below w2.heap.size w2 ((w2.alloc (.cells (row 64 P.zb) 38)).setRow w2.heap.size (row 64 (P.wrF log x.1.txn p P.zb).1)) :=
          Fr.below ((Below.refl _ _).alloc (Nat.le_refl _) _) ((Fr.refl (fun b => b = w2.heap.size) _).setRow _ _ fun _ => rfl) (Nat.le_refl _) fun i e => by omega
        replace hS := hS.go hf2
        replace hB := hB.below hf2
        clear hf2
        generalize (w2.alloc (.cells (row 64 P.zb) 38)).setRow w2.heap.size (row 64 (P.wrF log x.1.txn p P.zb).1) = V2 at *
        cases hw : (P.wrF log x.1.txn p P.zb).2 with
        | false =>
          have HM2 : Hid (P.atS log p ts s x = s) := by have := HM.out; rwa [hw, if_neg (by simp)] at this
          clear hw HM
          go_wp2_with fail
          go_roundw
          case rel => exact ⟨k + 1, by go_num, by omega, by rw [HT.out, HM2.out], by rw [HT.out, HM2.out]; exact hS⟩
          case measure => simp [intOf]; omega
        | true =>
          have HM2 : Hid (P.atS log p ts s x = (x.2.ts, x.1.txn)) := by have := HM.out; rwa [hw, if_pos rfl] at this
          clear hw HM
          go_upto_region 9 with (fail)
          refine no_implicit_lambda% (wp_region_lit ?_)
          iterate 2
            refine no_implicit_lambda% (wpl_val ?_ rfl ?_ ?_)
            rotate_left
            · (go_simp; (try with_reducible rfl))
            (try simp only [Act.put, Z1, Z2, Z3, Z4, Z5, Z6])
          refine no_implicit_lambda% (wpl_val ?_ rfl ?_ ?_)
          rotate_left
          · (have c0 := (d_ts hB); go_simp; (try with_reducible rfl))
          (try simp only [Act.put, Z1, Z2, Z3, Z4, Z5, Z6])
          refine no_implicit_lambda% (wpl_val ?_ rfl ?_ ?_)
          rotate_left
          · (go_simp; (try with_reducible rfl))
          (try simp only [Act.put, Z1, Z2, Z3, Z4, Z5, Z6])
          have hS3 := hS.ts x.2.ts
          have hB3 := hB.fr ((Fr.refl (fun b => b = w.heap.size + 1) V2).setCell ⟨w.heap.size + 1, 0, none⟩ (.int .u32 x.2.ts) fun _ => rfl) (fun e => by have e' : bx = w.heap.size + 1 := e; omega)
          refine wpl_law rfl (wp_store_one 22 _ _ rfl ⟨w.heap.size + 1, 0, none⟩ _ (.int .u32 x.2.ts) rfl rfl (by kernel_rfl) rfl hS.c0 (hS.b.free 0) ?_)
          (try simp only [Act.put, Z1, Z2, Z3, Z4, Z5, Z6])
          refine no_implicit_lambda% (wpList_nil ?_)
          generalize V2.setCell ⟨w.heap.size + 1, 0, none⟩ (.int .u32 x.2.ts) = V3 at *
          clear hS hB
          go_upto_region 10 with (fail)
          refine no_implicit_lambda% (wp_region_lit ?_)
          iterate 2
            refine no_implicit_lambda% (wpl_val ?_ rfl ?_ ?_)
            rotate_left
            · (go_simp; (try with_reducible rfl))
            (try simp only [Act.put, Z1, Z2, Z3, Z4, Z5, Z6])
          refine no_implicit_lambda% (wpl_val ?_ rfl ?_ ?_)
          rotate_left
          · (have c0 := (d_txn hB3); go_simp; (try with_reducible rfl))
          (try simp only [Act.put, Z1, Z2, Z3, Z4, Z5, Z6])
          refine no_implicit_lambda% (wpl_val ?_ rfl ?_ ?_)
          rotate_left
          · (go_simp; (try with_reducible rfl))
          (try simp only [Act.put, Z1, Z2, Z3, Z4, Z5, Z6])
          refine no_implicit_lambda% (wpList_nil ?_)
          go_wp2_with fail
          go_roundw
          case rel => exact ⟨k + 1, by go_num, by omega, by rw [HT.out, HM2.out], by rw [HT.out, HM2.out]; exact hS3⟩
          case measure => simp [intOf]; omega
    · obtain rfl : k = log.length := by omega
      have HE : Hid ((log.take log.length).foldl (P.atS log p ts) (0, 0) = P.atF log p ts) := by unfold Hid; rw [List.take_length]; rfl
      rw [HE.out] at hS ⊢
      obtain ⟨a1, a2, a3⟩ := hA.out
      generalize P.atF log p ts = s at *
      clear HE hA hlt
      by_cases hs0 : s.1 = 0
      · have hc0 : wr.cell? ⟨w.heap.size + 1, 0, none⟩ = some (.int .u32 ((0 : Nat) : Int)) := by rw [hS.c0, hs0]
        have hv : (⟨s.1, P.zb⟩ : P.Vr) = P.at' M p ts := by rw [a2 hs0, hs0]
        replace hv := Lib.hid hv
        clear a1 a2 a3 hs0
        go_upto_region 12 with (fail)
        refine no_implicit_lambda% (wp_region_lit ?_)
        refine no_implicit_lambda% (wpl_val ?_ rfl ?_ ?_)
        rotate_left
        · (go_simp; (try with_reducible rfl))
        (try simp only [Act.put, Z1, Z2, Z4, Z5, Z6])
        refine no_implicit_lambda% (wpl_val ?_ rfl ?_ ?_)
        rotate_left
        · (have c0 := hc0; go_simp; (try with_reducible rfl))
        (try simp only [Act.put, Z1, Z2, Z3, Z4, Z5, Z6])
        refine no_implicit_lambda% (wpl_val ?_ rfl ?_ ?_)
        rotate_left
        · (go_simp; (try with_reducible rfl))
        (try simp only [Act.put, Z1, Z2, Z3, Z4, Z5, Z6])
        refine no_implicit_lambda% (wpList_nil ?_)
        go_upto_region 15 with (fail)
        refine no_implicit_lambda% (wp_region_lit ?_)
        refine wpl_val (.agg (verA ⟨s.1, P.zb⟩)) rfl (run_load_cs rfl rfl hS.b Try.underlying44 rfl (size44 _)) ?_
        (try simp only [Act.put, Z1, Z2, Z3, Z4, Z5, Z6])
        refine wpList_store_fr rfl 44 _ _ rfl w.heap.size (verA ⟨s.1, P.zb⟩) rfl rfl 44 _ hS.a (size44 _) (by simp only [verA_size]) (verA_one _) ?_
        intro w9 hB9 hF9
        refine no_implicit_lambda% (wpList_nil ?_)
        go_wp2_with fail
        refine bodyPost_ret (v := .agg (verA ⟨s.1, P.zb⟩)) ?_ rfl ?_
        · exact results_cell_row rfl _ _ w.heap.size 44 (verA ⟨s.1, P.zb⟩) (0, 0) _ rfl hB9 Try.underlying44 rfl (size44 _)
        exact ⟨by rw [hv.out], Fr.below hS.below hF9 (Nat.le_refl _) fun i hi => by omega⟩
      · obtain ⟨h1, h2, h3⟩ := a3 (by omega)
        have hpos0 : decide (0 < s.1) = true := by simp; omega
        have hpos1 : decide ((0 : Int) < (s.1 : Int)) = true := by simp; omega
        replace a1 := Lib.hid a1
        replace h3 := Lib.hid h3
        clear a2 a3 hs0
        go_upto_region 12 with (fail)
        refine no_implicit_lambda% (wp_region_lit ?_)
        refine no_implicit_lambda% (wpl_val ?_ rfl ?_ ?_)
        rotate_left
        · (go_simp; (try with_reducible rfl))
        (try simp only [Act.put, Z1, Z2, Z4, Z5, Z6])
        refine no_implicit_lambda% (wpl_val ?_ rfl ?_ ?_)
        rotate_left
        · (have c0 := hS.c0; go_simp; (try with_reducible rfl))
        (try simp only [Act.put, Z1, Z2, Z3, Z4, Z5, Z6])
        refine no_implicit_lambda% (wpl_val ?_ rfl ?_ ?_)
        rotate_left
        · (go_simp; (try with_reducible rfl))
        (try simp only [Act.put, Z1, Z2, Z3, Z4, Z5, Z6])
        refine no_implicit_lambda% (wpList_nil ?_)
        go_upto_region 13 with (fail)
        refine no_implicit_lambda% (wp_region_lit ?_)
        iterate 7
          refine no_implicit_lambda% (wpl_val ?_ rfl ?_ ?_)
          rotate_left
          · (go_simp; (try with_reducible rfl))
          (try simp only [Act.put, Z1, Z2, Z3, Z4, Z5, Z6])
        refine wpl_call _ _ rfl (by go_simp) _ (refbeg_any (h.below hS.below) hn s.2) ?_
        rintro e w2 ⟨rfl, hb2⟩
        refine ⟨_, rfl, ?_⟩
        replace hS := hS.go hb2
        clear hb2
        have hih := ih.out (P.bgn log s.2) (by omega) w2 (h.below hS.below)
        clear h1 h2
        generalize P.bgn log s.2 = bg at *
        (try simp only [Act.put, Z1, Z2, Z3, Z4, Z5, Z6])
        refine wpl_call _ _ rfl (by go_simp) _ hih ?_
        rintro e w3 ⟨rfl, hb3⟩
        refine ⟨_, rfl, ?_⟩
        replace hS := hS.go hb3
        clear hb3 hih
        generalize P.at' M p bg = vb at *
        (try simp only [Act.put, Z1, Z2, Z3, Z4, Z5, Z6])
        refine no_implicit_lambda% (wpl_val (.agg (row 64 vb.b)) rfl (by (have c0 := field_b vb w3; go_simp)) ?_)
        (try simp only [Act.put, Z1, Z2, Z3, Z4, Z5, Z6])
        refine wpl_call _ _ rfl (by go_simp) _ (wrote_any (h.below hS.below) hn hoff.out s.2 p vb.b) ?_
        rintro e w4 ⟨rfl, hb4⟩
        refine ⟨_, rfl, ?_⟩
        replace hS := hS.go hb4
        clear hb4
        rw [h3.out]
        (try simp only [Act.put, Z1, Z2, Z3, Z4, Z5, Z6])
        iterate 3
          refine no_implicit_lambda% (wpl_val ?_ rfl ?_ ?_)
          rotate_left
          · (go_simp; (try with_reducible rfl))
          (try simp only [Act.put, Z1, Z2, Z3, Z4, Z5, Z6])
        refine wpl_alloc 38 (row 64 P.zb) rfl rfl hz38 ?_
        (try simp only [Act.put, Z1, Z2, Z3, Z4, Z5, Z6])
        refine wpl_law rfl (wp_store_row 38 _ _ rfl w4.heap.size (row 64 (P.at' M p ts).b) rfl rfl 38 _ (Blk.alloc_new _ _ _) (size38 _) (by simp only [row_size]) (row_one _ _) ?_)
        (try simp only [Act.put, Z1, Z2, Z3, Z4, Z5, Z6])
        refine no_implicit_lambda% (wpl_val ?_ rfl ?_ ?_)
        rotate_left
        · (go_simp; (try with_reducible rfl))
        (try simp only [Act.put, Z1, Z2, Z3, Z4, Z5, Z6])
        refine no_implicit_lambda% (wpList_nil ?_)
        have hf2 : Below w4.heap.size w4 ((w4.alloc (.cells (row 64 P.zb) 38)).setRow w4.heap.size (row 64 (P.at' M p ts).b)) :=
          Fr.below ((Below.refl _ _).alloc (Nat.le_refl _) _) ((Fr.refl (fun b => b = w4.heap.size) _).setRow _ _ fun _ => rfl) (Nat.le_refl _) fun i e => by omega
        have hx : Blk ((w4.alloc (.cells (row 64 P.zb) 38)).setRow w4.heap.size (row 64 (P.at' M p ts).b)) w4.heap.size (row 64 (P.at' M p ts).b) 38 := (Blk.alloc_new _ _ _).setRow _
        replace hS := hS.go hf2
        clear hf2
        generalize (w4.alloc (.cells (row 64 P.zb) 38)).setRow w4.heap.size (row 64 (P.at' M p ts).b) = V4 at *
        generalize w4.heap.size = bx at *
        have hv : Hid ((⟨s.1, (P.at' M p ts).b⟩ : P.Vr) = P.at' M p ts) := by
          unfold Hid
          rw [← a1.out]
        clear a1 h3
        generalize hR : P.at' M p ts = R at *
        replace hR := Lib.hid hR
        go_upto_region 14 with (fail)
        refine no_implicit_lambda% (wp_region_lit ?_)
        refine wpl_val (.agg (row 64 R.b)) rfl (run_load_cs rfl rfl hx Try.underlying38 rfl (size38 _)) ?_
        (try simp only [Act.put, Z1, Z2, Z3, Z4, Z5, Z6])
        refine no_implicit_lambda% (wpl_val ?_ rfl ?_ ?_)
        rotate_left
        · (go_simp; (try with_reducible rfl))
        (try simp only [Act.put, Z1, Z2, Z3, Z4, Z5, Z6])
        obtain ⟨hB5, hF5⟩ := setCells_blk (rowL 64 R.b) V4 (w.heap.size + 1) 1 _ 44 hS.b (by rw [rowL_length, verA_size]; omega)
        rw [spl_ver] at hB5
        refine wpl_law rfl (wp_store_mid 38 _ _ rfl (w.heap.size + 1) 1 (row 64 R.b) rfl rfl (hS.b.there (by rw [row_size, verA_size]; omega)) (size38 _) (row_one _ _) ?_)
        have hS5 : RaS w (V4.setCells (w.heap.size + 1) 1 (row 64 R.b).toList) ⟨s.1, R.b⟩ := ⟨Fr.below hS.below hF5 (Nat.le_refl _) fun i hi => by omega, hS.a.fr hF5 (fun e => by have e' : w.heap.size = w.heap.size + 1 := e; omega), hB5⟩
        clear hB5 hF5 hS hx
        (try simp only [Act.put, Z1, Z2, Z3, Z4, Z5, Z6])
        refine no_implicit_lambda% (wpList_nil ?_)
        generalize V4.setCells (w.heap.size + 1) 1 (row 64 R.b).toList = V5 at *
        go_upto_region 15 with (fail)
        refine no_implicit_lambda% (wp_region_lit ?_)
        refine wpl_val (.agg (verA ⟨s.1, R.b⟩)) rfl (run_load_cs rfl rfl hS5.b Try.underlying44 rfl (size44 _)) ?_
        (try simp only [Act.put, Z1, Z2, Z3, Z4, Z5, Z6])
        refine wpList_store_fr rfl 44 _ _ rfl w.heap.size (verA ⟨s.1, R.b⟩) rfl rfl 44 _ hS5.a (size44 _) (by simp only [verA_size]) (verA_one _) ?_
        intro w9 hB9 hF9
        refine no_implicit_lambda% (wpList_nil ?_)
        go_wp2_with fail
        refine bodyPost_ret (v := .agg (verA ⟨s.1, R.b⟩)) ?_ rfl ?_
        · exact results_cell_row rfl _ _ w.heap.size 44 (verA ⟨s.1, R.b⟩) (0, 0) _ rfl hB9 Try.underlying44 rfl (size44 _)
        exact ⟨by rw [hv.out, hR.out], Fr.below hS5.below hF9 (Nat.le_refl _) fun i hi => by omega⟩
end Go.Proofs.Ytjaecdcddmohoaa
