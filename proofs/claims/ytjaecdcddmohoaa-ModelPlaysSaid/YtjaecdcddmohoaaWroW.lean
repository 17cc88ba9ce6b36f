/- The walks of the document's machine: wrote, count, live. -/
import Derived.Test.YtjaecdcddmohoaaRefW
namespace Go.Proofs.Ytjaecdcddmohoaa
open Go.RowKit
set_option linter.unusedSimpArgs false
set_option linter.unusedVariables false
theorem results_c2 {P : Program} {fn : Func} {p q : Tmp} {ty : TypeId} (h : fn.results = #[.cell p ty, .tmp q]) (tmps : Array Value) (w : World) (g : Nat) (t : TypeId) (cs : Array Value) (fr : Nat × Nat) (d : TypeDesc)
    (hp : tmps.getD p undef = .pointer (some ⟨g, 0, none⟩)) (hg : w.heap[g]? = some (.cells cs t fr))
    (hu : P.underlying ty = some d) (hd : (match d with | .struct _ | .array _ _ => true | _ => false) = true) (hi : (P.info? ty).map (·.size) = some cs.size) :
    (results fn tmps).run P w = .ok (.tuple #[.agg cs, tmps.getD q undef]) w := by
  have hp' : tmps[p]?.getD undef = .pointer (some ⟨g, 0, none⟩) := by simpa using hp
  simp [results, h, hp', asAddr, run_loadVar_row w g t ty cs fr d hg hu hd hi]
def cpyN (b : P.Bd) (o : Nat) (s : ByteArray) (i : Nat) : P.Bd := fun j => if o ≤ j ∧ j < o + i then P.sb s (j - o) else b j
theorem cpyN_zero (b : P.Bd) (o : Nat) (s : ByteArray) : cpyN b o s 0 = b := by
  funext j; unfold cpyN; rw [if_neg (by omega)]
theorem cpyN_all (b : P.Bd) (o : Nat) (s : ByteArray) : cpyN b o s s.size = P.cpy b o s := rfl
theorem cpyN_succ (b : P.Bd) (o : Nat) (s : ByteArray) (i : Nat) : cpyN b o s (i + 1) = upd (cpyN b o s i) (o + i) (P.sb s i) := by
  funext j
  unfold cpyN upd
  by_cases h : j = o + i
  · rw [if_pos (by omega), if_pos h]
    congr 1; omega
  · rw [if_neg h]
    by_cases h2 : o ≤ j ∧ j < o + i
    · rw [if_pos (by omega)]
      show _ = if o ≤ j ∧ j < o + i then P.sb s (j - o) else b j
      rw [if_pos h2]
    · rw [if_neg (by omega)]
      show _ = if o ≤ j ∧ j < o + i then P.sb s (j - o) else b j
      rw [if_neg h2]
theorem bv_sb (s : ByteArray) {j : Nat} (h : j < s.size) : Value.int .u8 ((s[j]).toNat : Int) = bv (P.sb s j) := by
  unfold bv B P.sb
  have : s.data.getD j 0 = s[j] := by
    have hj : j < s.data.size := h
    rw [Array.getD_eq_getD_getElem?, Array.getElem?_eq_getElem hj]
    rfl
  rw [this]
  rfl
def wroC (n p : Int) (x : P.De) : Bool := decide (x.1.kind = 2 ∧ x.1.txn = n ∧ x.1.page = p ∧ x.2.e = 0)
theorem wrS_eq (n p : Int) (s : P.Bd × Bool) (x : P.De) : P.wrS n p s x = if wroC n p x = true then (P.cpy s.1 x.1.off.toNat x.1.s, true) else s := by
  unfold P.wrS wroC
  by_cases h : x.1.kind = 2 ∧ x.1.txn = n ∧ x.1.page = p ∧ x.2.e = 0
  · rw [if_pos h, if_pos (decide_eq_true h)]
  · rw [if_neg h, if_neg (by simpa using h)]
/-- wrote, at work: the body so far, the result's box. -/
structure WroS (w wr : World) (f : P.Bd) : Prop where
  below : Below w.heap.size w wr
  b : Blk wr w.heap.size (row 64 f) 38
  r : Blk wr (w.heap.size + 1) (row 64 P.zb) 38
section
variable {w wr w' : World} {f : P.Bd}
theorem WroS.fr (h : WroS w wr f) {S : Nat → Prop} (k : Fr S wr w') (hS : ∀ i, S i → w.heap.size + 1 < i) : WroS w w' f :=
  ⟨Fr.below h.below k (Nat.le_refl _) fun i hi => by have := hS i hi; omega, h.b.fr k (fun hs => by have := hS _ hs; omega), h.r.fr k (fun hs => by have := hS _ hs; omega)⟩
theorem WroS.go (h : WroS w wr f) (k : Below wr.heap.size wr w') : WroS w w' f := h.fr (Fr.of_below k fun _ => False) fun _ h => h.elim
theorem WroS.put (h : WroS w wr f) {i : Nat} (hi : i < 64) (c : BitVec 8) : WroS w (wr.setCell ⟨w.heap.size, i, none⟩ (bv c)) (upd f i c) := by
  have k : Fr (fun b => b = w.heap.size) wr (wr.setCell ⟨w.heap.size, i, none⟩ (bv c)) := (Fr.refl _ _).setCell _ _ fun _ => rfl
  refine ⟨Fr.below h.below k (Nat.le_refl _) fun i hi => by omega, ?_, h.r.fr k (fun e => by have e' : w.heap.size + 1 = w.heap.size := e; omega)⟩
  rw [h.b.setCell, row_set]
  exact h.b.setRow _
end
theorem run_ixs (s : ByteArray) {j : Nat} (h : j < s.size) (W : World) : (Instr.index 9 (.string s) (.int .i64 (j : Int))).run Try.prog W = .ok (bv (P.sb s j)) W := by
  rw [run_index_string W 9 s .i64 (j : Int) Try.underlying9, dif_pos ⟨by omega, by omega⟩, ← bv_sb s h]
  rfl
set_option maxRecDepth 100000 in
set_option maxHeartbeats 8000000 in
theorem wrote_any {w : World} {c : Nat} {pages : Int} {mx : Nat} {ao : Option Addr} {cap : Nat} {log : List P.De} (h : RefAt w c pages mx ao cap log) (hn : log.length ≤ 1000)
    (hoff : ∀ d ∈ log, d.1.kind = 2 → d.2.e = 0 → 0 ≤ d.1.off ∧ d.1.off ≤ 64 ∧ (d.1.s.size : Int) ≤ 64 - d.1.off) (n p : Int) (was : P.Bd) :
    Calls Try.prog 22 #[.pointer (some ⟨c, 0, none⟩), .int .u64 n, .int .u16 p, .agg (row 64 was)] w fun e w' => e = .returned (.tuple #[.agg (row 64 (P.wrF log n p was).1), .bool (P.wrF log n p was).2]) ∧ Below w.heap.size w w' := by
  have hz64 := zero64.1
  have hz38 := zero38.1
  have e1 : (w.alloc (.cells (row 64 was) 38)).heap.size = w.heap.size + 1 := by simp
  have hW : WroS w ((w.alloc (.cells (row 64 was) 38)).alloc (.cells (row 64 P.zb) 38)) was := ⟨((Below.refl _ _).alloc (Nat.le_refl _) _).alloc (by simp) _, (Blk.alloc_new _ _ _).alloc _, by
    have := Blk.alloc_new (w.alloc (.cells (row 64 was) 38)) (row 64 P.zb) 38
    rwa [e1] at this⟩
  have c2 := (h.below hW.below).c2
  have hL := Lib.hid h.l
  replace hoff := Lib.hid hoff
  go_enter Try.func22, Try.ntmps22
  go_upto_region 2 with (fail)
  generalize (w.alloc (.cells (row 64 was) 38)).alloc (.cells (row 64 P.zb) 38) = V0 at *
  refine no_implicit_lambda% (wp_region_lit ?_)
  iterate 3
    refine no_implicit_lambda% (wpl_val ?_ rfl ?_ ?_)
    rotate_left
    · (go_simp; (try with_reducible rfl))
    (try simp only [Act.put, Z1, Z2, Z3, Z4, Z5, Z6])
  refine no_implicit_lambda% (wpl_val ?_ rfl ?_ ?_)
  rotate_left
  · (have c0 := c2; go_simp; (try with_reducible rfl))
  (try simp only [Act.put, Z1, Z2, Z3, Z4, Z5, Z6])
  refine no_implicit_lambda% (wpl_val ?_ rfl ?_ ?_)
  rotate_left
  · (go_simp; (try with_reducible rfl))
  (try simp only [Act.put, Z1, Z2, Z3, Z4, Z5, Z6])
  refine no_implicit_lambda% (wpl_val ?_ rfl ?_ ?_)
  rotate_left
  · (go_simp; (try with_reducible rfl))
  (try simp only [Act.put, Z1, Z2, Z3, Z4, Z5, Z6])
  refine no_implicit_lambda% (wpList_nil ?_)
  clear c2 e1
  replace hW := Lib.hid hW
  go_wp2_with fail
  go_loopw [19, 10] (fun i o wr => ∃ k : Nat, i = .int .i64 k ∧ k ≤ log.length ∧ o = .bool (P.wrF (log.take k) n p was).2 ∧ WroS w wr (P.wrF (log.take k) n p was).1) (fun i _ _ => log.length - (intOf i).toNat)
  case atStart => exact ⟨0, rfl, Nat.zero_le _, rfl, hW.out⟩
  case round =>
    clear hW
    obtain ⟨k, rfl, hk, rfl, hS⟩ := hrel
    by_cases hlt : k < log.length
    · obtain ⟨x, hx⟩ : ∃ x, log[k]? = some x := ⟨_, List.getElem?_eq_getElem hlt⟩
      obtain ⟨g, rfl, _, hr⟩ := (hL.out.below hS.below).at_ k x hx
      replace hr := Lib.hid hr
      have hlt' : (k : Int) < (log.length : Int) := by omega
      have HT : Hid (P.wrF (log.take (k + 1)) n p was = P.wrS n p (P.wrF (log.take k) n p was) x) := by unfold Hid; rw [take_snoc hx]; exact P.wrF_snoc _ _ _ _ _
      have hox := Lib.hid (hoff.out x (List.mem_of_getElem? hx))
      generalize P.wrF (log.take k) n p was = s at *
      clear hx
      go_upto_region 4 with (fail)
      refine no_implicit_lambda% (wp_region_lit ?_)
      refine no_implicit_lambda% (wpl_val ?_ rfl ?_ ?_)
      rotate_left
      · (go_simp; (try with_reducible rfl))
      (try simp only [Act.put, Z1, Z2, Z4, Z5, Z6])
      refine wpList_load_mid rfl 64 _ rfl g (k * 72) rfl (deL x) _ hr.out Try.underlying64 rfl (size64' x) ?_
      (try simp only [Act.put, Z1, Z2, Z3, Z4, Z5, Z6])
      refine wpl_alloc 64 (deA noDe) rfl rfl hz64 ?_
      (try simp only [Act.put, Z1, Z2, Z3, Z4, Z5, Z6])
      refine wpl_law rfl (wp_store_row 64 _ _ rfl wr.heap.size (deA x) rfl rfl 64 _ (Blk.alloc_new _ _ _) (size64 _) (by simp only [deA_size]) (deA_one _) ?_)
      (try simp only [Act.put, Z1, Z2, Z3, Z4, Z5, Z6])
      refine no_implicit_lambda% (wpList_nil ?_)
      obtain ⟨hB, hb⟩ := de_box (w := wr) x
      have hbx : w.heap.size + 1 < wr.heap.size := hS.r.lt
      replace hS := hS.go hb
      generalize (wr.alloc (.cells (deA noDe) 64)).setRow wr.heap.size (deA x) = V at *
      generalize wr.heap.size = bx at *
      have dk := Lib.hid (d_kind hB)
      have de := Lib.hid (d_e hB)
      have dn := Lib.hid (d_txn hB)
      have dp := Lib.hid (d_page hB)
      clear hr hL hb
      go_upto_region 5 with (fail)
      go_cut [46] (fun t wx => t = .bool (wroC n p x) ∧ wx = V)
      case first =>
        by_cases hk2 : x.1.kind = 2
        · have hk' : (x.1.kind == 2) = true := by simp [hk2]
          by_cases hn2 : x.1.txn = n
          · have hn' : (x.1.txn == n) = true := by simp [hn2]
            by_cases hp2 : x.1.page = p
            · have hp' : (x.1.page == p) = true := by simp [hp2]
              have HC : Hid (wroC n p x = (x.2.e == 0)) := by unfold Hid wroC; simp [hk2, hn2, hp2]; rfl
              clear hk2 hn2 hp2
              refine no_implicit_lambda% (wp_region_lit ?_)
              iterate 2
                refine no_implicit_lambda% (wpl_val ?_ rfl ?_ ?_)
                rotate_left
                · (go_simp; (try with_reducible rfl))
                (try simp only [Act.put, Z1, Z2, Z3, Z4, Z5, Z6])
              refine no_implicit_lambda% (wpl_val ?_ rfl ?_ ?_)
              rotate_left
              · (have c0 := dk.out; go_simp; (try with_reducible rfl))
              (try simp only [Act.put, Z1, Z2, Z3, Z4, Z5, Z6])
              iterate 4
                refine no_implicit_lambda% (wpl_val ?_ rfl ?_ ?_)
                rotate_left
                · (go_simp; (try with_reducible rfl))
                (try simp only [Act.put, Z1, Z2, Z3, Z4, Z5, Z6])
              refine no_implicit_lambda% (wpl_val ?_ rfl ?_ ?_)
              rotate_left
              · (have c0 := dn.out; go_simp; (try with_reducible rfl))
              (try simp only [Act.put, Z1, Z2, Z3, Z4, Z5, Z6])
              iterate 6
                refine no_implicit_lambda% (wpl_val ?_ rfl ?_ ?_)
                rotate_left
                · (go_simp; (try with_reducible rfl))
                (try simp only [Act.put, Z1, Z2, Z3, Z4, Z5, Z6])
              refine no_implicit_lambda% (wpl_val ?_ rfl ?_ ?_)
              rotate_left
              · (have c0 := dp.out; go_simp; (try with_reducible rfl))
              (try simp only [Act.put, Z1, Z2, Z3, Z4, Z5, Z6])
              iterate 6
                refine no_implicit_lambda% (wpl_val ?_ rfl ?_ ?_)
                rotate_left
                · (go_simp; (try with_reducible rfl))
                (try simp only [Act.put, Z1, Z2, Z3, Z4, Z5, Z6])
              refine no_implicit_lambda% (wpl_val ?_ rfl ?_ ?_)
              rotate_left
              · (have c0 := de.out; go_simp; (try with_reducible rfl))
              (try simp only [Act.put, Z1, Z2, Z3, Z4, Z5, Z6])
              iterate 2
                refine no_implicit_lambda% (wpl_val ?_ rfl ?_ ?_)
                rotate_left
                · (go_simp; (try with_reducible rfl))
                (try simp only [Act.put, Z1, Z2, Z3, Z4, Z5, Z6])
              refine no_implicit_lambda% (wpList_nil ?_)
              go_wp2_with fail
              go_meet
              case rel => exact ⟨by rw [HC.out], rfl⟩
            · have hp' : (x.1.page == p) = false := by simp [hp2]
              have HC : Hid (wroC n p x = false) := by unfold Hid wroC; simp [hp2]
              clear hk2 hn2 hp2
              refine no_implicit_lambda% (wp_region_lit ?_)
              iterate 2
                refine no_implicit_lambda% (wpl_val ?_ rfl ?_ ?_)
                rotate_left
                · (go_simp; (try with_reducible rfl))
                (try simp only [Act.put, Z1, Z2, Z3, Z4, Z5, Z6])
              refine no_implicit_lambda% (wpl_val ?_ rfl ?_ ?_)
              rotate_left
              · (have c0 := dk.out; go_simp; (try with_reducible rfl))
              (try simp only [Act.put, Z1, Z2, Z3, Z4, Z5, Z6])
              iterate 4
                refine no_implicit_lambda% (wpl_val ?_ rfl ?_ ?_)
                rotate_left
                · (go_simp; (try with_reducible rfl))
                (try simp only [Act.put, Z1, Z2, Z3, Z4, Z5, Z6])
              refine no_implicit_lambda% (wpl_val ?_ rfl ?_ ?_)
              rotate_left
              · (have c0 := dn.out; go_simp; (try with_reducible rfl))
              (try simp only [Act.put, Z1, Z2, Z3, Z4, Z5, Z6])
              iterate 6
                refine no_implicit_lambda% (wpl_val ?_ rfl ?_ ?_)
                rotate_left
                · (go_simp; (try with_reducible rfl))
                (try simp only [Act.put, Z1, Z2, Z3, Z4, Z5, Z6])
              refine no_implicit_lambda% (wpl_val ?_ rfl ?_ ?_)
              rotate_left
              · (have c0 := dp.out; go_simp; (try with_reducible rfl))
              (try simp only [Act.put, Z1, Z2, Z3, Z4, Z5, Z6])
              iterate 4
                refine no_implicit_lambda% (wpl_val ?_ rfl ?_ ?_)
                rotate_left
                · (go_simp; (try with_reducible rfl))
                (try simp only [Act.put, Z1, Z2, Z3, Z4, Z5, Z6])
              iterate 4
                refine no_implicit_lambda% (wpl_skip rfl ?_)
                (try simp only [Act.put, Z1, Z2, Z3, Z4, Z5, Z6])
              refine no_implicit_lambda% (wpl_val ?_ rfl ?_ ?_)
              rotate_left
              · (go_simp; (try with_reducible rfl))
              (try simp only [Act.put, Z1, Z2, Z3, Z4, Z5, Z6])
              refine no_implicit_lambda% (wpList_nil ?_)
              go_wp2_with fail
              go_meet
              case rel => exact ⟨by rw [HC.out], rfl⟩
          · have hn' : (x.1.txn == n) = false := by simp [hn2]
            have HC : Hid (wroC n p x = false) := by unfold Hid wroC; simp [hn2]
            clear hk2 hn2
            refine no_implicit_lambda% (wp_region_lit ?_)
            iterate 2
              refine no_implicit_lambda% (wpl_val ?_ rfl ?_ ?_)
              rotate_left
              · (go_simp; (try with_reducible rfl))
              (try simp only [Act.put, Z1, Z2, Z3, Z4, Z5, Z6])
            refine no_implicit_lambda% (wpl_val ?_ rfl ?_ ?_)
            rotate_left
            · (have c0 := dk.out; go_simp; (try with_reducible rfl))
            (try simp only [Act.put, Z1, Z2, Z3, Z4, Z5, Z6])
            iterate 4
              refine no_implicit_lambda% (wpl_val ?_ rfl ?_ ?_)
              rotate_left
              · (go_simp; (try with_reducible rfl))
              (try simp only [Act.put, Z1, Z2, Z3, Z4, Z5, Z6])
            refine no_implicit_lambda% (wpl_val ?_ rfl ?_ ?_)
            rotate_left
            · (have c0 := dn.out; go_simp; (try with_reducible rfl))
            (try simp only [Act.put, Z1, Z2, Z3, Z4, Z5, Z6])
            iterate 4
              refine no_implicit_lambda% (wpl_val ?_ rfl ?_ ?_)
              rotate_left
              · (go_simp; (try with_reducible rfl))
              (try simp only [Act.put, Z1, Z2, Z3, Z4, Z5, Z6])
            iterate 5
              refine no_implicit_lambda% (wpl_skip rfl ?_)
              (try simp only [Act.put, Z1, Z2, Z3, Z4, Z5, Z6])
            iterate 2
              refine no_implicit_lambda% (wpl_val ?_ rfl ?_ ?_)
              rotate_left
              · (go_simp; (try with_reducible rfl))
              (try simp only [Act.put, Z1, Z2, Z3, Z4, Z5, Z6])
            iterate 4
              refine no_implicit_lambda% (wpl_skip rfl ?_)
              (try simp only [Act.put, Z1, Z2, Z3, Z4, Z5, Z6])
            refine no_implicit_lambda% (wpl_val ?_ rfl ?_ ?_)
            rotate_left
            · (go_simp; (try with_reducible rfl))
            (try simp only [Act.put, Z1, Z2, Z3, Z4, Z5, Z6])
            refine no_implicit_lambda% (wpList_nil ?_)
            go_wp2_with fail
            go_meet
            case rel => exact ⟨by rw [HC.out], rfl⟩
        · have hk' : (x.1.kind == 2) = false := by simp [hk2]
          have HC : Hid (wroC n p x = false) := by unfold Hid wroC; simp [hk2]
          clear hk2
          refine no_implicit_lambda% (wp_region_lit ?_)
          iterate 2
            refine no_implicit_lambda% (wpl_val ?_ rfl ?_ ?_)
            rotate_left
            · (go_simp; (try with_reducible rfl))
            (try simp only [Act.put, Z1, Z2, Z3, Z4, Z5, Z6])
          refine no_implicit_lambda% (wpl_val ?_ rfl ?_ ?_)
          rotate_left
          · (have c0 := dk.out; go_simp; (try with_reducible rfl))
          (try simp only [Act.put, Z1, Z2, Z3, Z4, Z5, Z6])
          iterate 2
            refine no_implicit_lambda% (wpl_val ?_ rfl ?_ ?_)
            rotate_left
            · (go_simp; (try with_reducible rfl))
            (try simp only [Act.put, Z1, Z2, Z3, Z4, Z5, Z6])
          iterate 5
            refine no_implicit_lambda% (wpl_skip rfl ?_)
            (try simp only [Act.put, Z1, Z2, Z3, Z4, Z5, Z6])
          iterate 2
            refine no_implicit_lambda% (wpl_val ?_ rfl ?_ ?_)
            rotate_left
            · (go_simp; (try with_reducible rfl))
            (try simp only [Act.put, Z1, Z2, Z3, Z4, Z5, Z6])
          iterate 5
            refine no_implicit_lambda% (wpl_skip rfl ?_)
            (try simp only [Act.put, Z1, Z2, Z3, Z4, Z5, Z6])
          iterate 2
            refine no_implicit_lambda% (wpl_val ?_ rfl ?_ ?_)
            rotate_left
            · (go_simp; (try with_reducible rfl))
            (try simp only [Act.put, Z1, Z2, Z3, Z4, Z5, Z6])
          iterate 4
            refine no_implicit_lambda% (wpl_skip rfl ?_)
            (try simp only [Act.put, Z1, Z2, Z3, Z4, Z5, Z6])
          refine no_implicit_lambda% (wpl_val ?_ rfl ?_ ?_)
          rotate_left
          · (go_simp; (try with_reducible rfl))
          (try simp only [Act.put, Z1, Z2, Z3, Z4, Z5, Z6])
          refine no_implicit_lambda% (wpList_nil ?_)
          go_wp2_with fail
          go_meet
          case rel => exact ⟨by rw [HC.out], rfl⟩
      case rest =>
      obtain ⟨rfl, rfl⟩ := hcut
      obtain ⟨V, rfl⟩ : ∃ V, V = wc := ⟨_, rfl⟩
      clear dk de dn dp
      cases hc : wroC n p x with
      | false =>
        have HM : Hid (P.wrS n p s x = s) := by unfold Hid; rw [wrS_eq, hc]; rfl
        clear hc
        go_wp2_with fail
        go_roundw
        case rel => exact ⟨k + 1, by go_num, by omega, by rw [HT.out, HM.out], by rw [HT.out, HM.out]; exact hS⟩
        case measure => simp [intOf]; omega
      | true =>
        have HM : Hid (P.wrS n p s x = (P.cpy s.1 x.1.off.toNat x.1.s, true)) := by unfold Hid; rw [wrS_eq, hc]; rfl
        have hd := of_decide_eq_true hc
        obtain ⟨o1, o2, o3⟩ := hox.out hd.1 hd.2.2.2
        obtain ⟨o, ho⟩ := Int.eq_ofNat_of_zero_le o1
        have ho64 : o + x.1.s.size ≤ 64 := by omega
        have HO : Hid (x.1.off = (o : Int)) := ho
        have HO2 : Hid (x.1.off.toNat = o) := by unfold Hid; omega
        rw [HO2.out] at HM
        clear hc hd o1 o2 o3 ho hox HO2
        have hS0 : WroS w V (cpyN s.1 o x.1.s 0) := by rw [cpyN_zero]; exact hS
        replace hS0 := Lib.hid hS0
        replace hB := Lib.hid hB
        clear hS
        go_wp2_with fail
        go_loopw [13] (fun i wr => ∃ j : Nat, i = .int .i64 j ∧ j ≤ x.1.s.size ∧ WroS w wr (cpyN s.1 o x.1.s j) ∧ Blk wr bx (deA x) 64) (fun i _ => x.1.s.size - (intOf i).toNat)
        case atStart => exact ⟨0, rfl, Nat.zero_le _, hS0.out, hB.out⟩
        case round =>
          clear hS0 hB
          obtain ⟨j, rfl, hj, hS, hB⟩ := hrel
          go_upto_region 8 with (fail)
          refine no_implicit_lambda% (wp_region_lit ?_)
          iterate 3
            refine no_implicit_lambda% (wpl_val ?_ rfl ?_ ?_)
            rotate_left
            · (go_simp; (try with_reducible rfl))
            (try simp only [Act.put, Z1, Z2, Z3, Z4, Z5, Z6])
          refine no_implicit_lambda% (wpl_val ?_ rfl ?_ ?_)
          rotate_left
          · (have c0 := (d_s hB); go_simp; (try with_reducible rfl))
          (try simp only [Act.put, Z1, Z2, Z3, Z4, Z5, Z6])
          refine no_implicit_lambda% (wpl_val ?_ rfl ?_ ?_)
          rotate_left
          · (go_simp; (try with_reducible rfl))
          (try simp only [Act.put, Z1, Z2, Z3, Z4, Z5, Z6])
          refine no_implicit_lambda% (wpl_val ?_ rfl ?_ ?_)
          rotate_left
          · (go_simp; (try with_reducible rfl))
          (try simp only [Act.put, Z1, Z2, Z3, Z4, Z5, Z6])
          refine no_implicit_lambda% (wpList_nil ?_)
          by_cases hjl : j < x.1.s.size
          · have hjl' : (j : Int) < (x.1.s.size : Int) := by omega
            have hwr : IntKind.i64.wrap ((o : Int) + (j : Int)) = (o : Int) + (j : Int) := IntWalk.i64_in _ (by omega)
            have hlo : (0 : Int) ≤ (o : Int) + (j : Int) := by omega
            have hhi : (o : Int) + (j : Int) < 64 := by omega
            go_upto_region 10 with (fail)
            refine wp_region_K (k := 11) (S := (fun w' => WroS w w' (cpyN s.1 o x.1.s j) ∧ Blk w' bx (deA x) 64)) (by kernel_rfl) ?_
            change wpAnyK _ _ _ _ _ _ _ _ _ (World.drew _)
            (try simp only [Act.put])
            have hS := And.intro (hS.go (Below.refl _ _).drew) hB.drew
            clear hB
            generalize wr.drew = W1 at *
            refine anyK_pure 0 _ ?_ rfl (by kernel_rfl) (by kernel_rfl) (by kernel_rfl) (fun _ _ _ h => h) (by decide) rfl ?_ hS ?_
            rotate_left
            · (intro w'; go_simp; (try with_reducible rfl))
            (try simp only [Act.put, Z1, Z2, Z4, Z5, Z6])
            refine anyK_pure 1 _ ?_ rfl (by kernel_rfl) (by kernel_rfl) (by kernel_rfl) (fun _ _ _ h => h) (by decide) rfl ?_ hS ?_
            rotate_left
            · (intro w'; go_simp; (try with_reducible rfl))
            (try simp only [Act.put, Z1, Z2, Z3, Z4, Z5, Z6])
            refine anyK_if 2 _ ?_ rfl (by kernel_rfl) (by kernel_rfl) (by kernel_rfl) (fun _ _ _ h => h) (by decide) (by kernel_rfl) (by kernel_rfl) rfl ?_ hS ?_
            rotate_left
            · (intro w' h; have c0 := (show w'.cell? ⟨bx, 3, none⟩ = some (.int .i64 (o : Int)) by rw [d_off h.2, HO.out]); go_simp; (try with_reducible rfl))
            (try simp only [Act.put, Z1, Z2, Z3, Z4, Z5, Z6])
            refine anyK_pure 3 _ ?_ rfl (by kernel_rfl) (by kernel_rfl) (by kernel_rfl) (fun _ _ _ h => h) (by decide) rfl ?_ hS ?_
            rotate_left
            · (intro w'; go_simp; (try with_reducible rfl))
            (try simp only [Act.put, Z1, Z2, Z3, Z4, Z5, Z6])
            refine anyK_pure 4 _ ?_ rfl (by kernel_rfl) (by kernel_rfl) (by kernel_rfl) (fun _ _ _ h => h) (by decide) rfl ?_ hS ?_
            rotate_left
            · (intro w'; go_simp; (try with_reducible rfl))
            (try simp only [Act.put, Z1, Z2, Z3, Z4, Z5, Z6])
            refine anyK_pure 5 _ ?_ rfl (by kernel_rfl) (by kernel_rfl) (by kernel_rfl) (fun _ _ _ h => h) (by decide) rfl ?_ hS ?_
            rotate_left
            · (intro w'; go_simp; (try with_reducible rfl))
            (try simp only [Act.put, Z1, Z2, Z3, Z4, Z5, Z6])
            refine anyK_pure 6 _ ?_ rfl (by kernel_rfl) (by kernel_rfl) (by kernel_rfl) (fun _ _ _ h => h) (by decide) rfl ?_ hS ?_
            rotate_left
            · (intro w'; go_simp; (try with_reducible rfl))
            (try simp only [Act.put, Z1, Z2, Z3, Z4, Z5, Z6])
            refine anyK_if 7 _ ?_ rfl (by kernel_rfl) (by kernel_rfl) (by kernel_rfl) (fun _ _ _ h => h) (by decide) (by kernel_rfl) (by kernel_rfl) rfl ?_ hS ?_
            rotate_left
            · (intro w' h; have c0 := (d_s h.2); go_simp; (try with_reducible rfl))
            (try simp only [Act.put, Z1, Z2, Z3, Z4, Z5, Z6])
            refine anyK_pure 8 _ ?_ rfl (by kernel_rfl) (by kernel_rfl) (by kernel_rfl) (fun _ _ _ h => h) (by decide) rfl ?_ hS ?_
            rotate_left
            · (intro w'; go_simp; (try with_reducible rfl))
            (try simp only [Act.put, Z1, Z2, Z3, Z4, Z5, Z6])
            refine anyK_pure 9 _ (bv (P.sb x.1.s j)) rfl (by kernel_rfl) (by kernel_rfl) (by kernel_rfl) (fun _ _ _ h => h) (by decide) rfl (fun w' => by have c0 := run_ixs x.1.s hjl w'; go_simp) hS ?_
            (try simp only [Act.put, Z1, Z2, Z3, Z4, Z5, Z6])
            refine anyK_pure 10 _ ?_ rfl (by kernel_rfl) (by kernel_rfl) (by kernel_rfl) (fun _ _ _ h => h) (by decide) rfl ?_ hS ?_
            rotate_left
            · (intro w'; go_simp; (try with_reducible rfl))
            (try simp only [Act.put, Z1, Z2, Z3, Z4, Z5, Z6])
            have hS3 := hS.1.put (i := o + j) (by omega) (P.sb x.1.s j)
            rw [← cpyN_succ] at hS3
            have hB3 := hS.2.fr ((Fr.refl (fun b => b = w.heap.size) W1).setCell ⟨w.heap.size, o + j, none⟩ (bv (P.sb x.1.s j)) fun _ => rfl) (fun e => by have e' : bx = w.heap.size := e; omega)
            refine anyK_last _ (by kernel_rfl) rfl (by decide) rfl (wp_store_one 5 _ _ rfl ⟨w.heap.size, o + j, none⟩ _ (bv (P.sb x.1.s j)) rfl rfl size5 rfl (hS.1.b.byte (j := o + j) (by omega)) (hS.1.b.free _) ?_)
            refine anyK_done (by kernel_rfl) ?_ _
            generalize W1.setCell ⟨w.heap.size, o + j, none⟩ (bv (P.sb x.1.s j)) = W2 at *
            clear hS hwr hlo hhi
            go_wp2_with fail
            go_roundw
            case rel => exact ⟨j + 1, by go_num, by omega, hS3, hB3⟩
            case measure => simp [intOf]; omega
          · obtain hje : j = x.1.s.size := by omega
            rw [hje, cpyN_all] at hS
            have hjl' : ¬ (j : Int) < (x.1.s.size : Int) := by omega
            clear hje
            go_wp2_with fail
            go_roundw
            case rel => exact ⟨k + 1, by go_num, by omega, by rw [HT.out, HM.out], by rw [HT.out, HM.out]; exact hS⟩
            case measure => simp [intOf]; omega
    · obtain rfl : k = log.length := by omega
      have HE : Hid (P.wrF (log.take log.length) n p was = P.wrF log n p was) := by unfold Hid; rw [List.take_length]
      rw [HE.out] at hS
      go_upto_region 12 with (fail)
      refine no_implicit_lambda% (wp_region_lit ?_)
      refine wpl_val (.agg (row 64 (P.wrF log n p was).1)) rfl (run_load_cs rfl rfl hS.b Try.underlying38 rfl (size38 _)) ?_
      (try simp only [Act.put, Z1, Z2, Z3, Z4, Z5, Z6])
      refine no_implicit_lambda% (wpl_val ?_ rfl ?_ ?_)
      rotate_left
      · (go_simp; (try with_reducible rfl))
      (try simp only [Act.put, Z1, Z2, Z3, Z4, Z5, Z6])
      refine wpList_store_fr rfl 38 _ _ rfl (w.heap.size + 1) (row 64 (P.wrF log n p was).1) rfl rfl 38 _ hS.r (size38 _) (by simp only [row_size]) (row_one _ _) ?_
      intro w9 hB9 hF9
      (try simp only [Act.put, Z1, Z2, Z3, Z4, Z5, Z6])
      refine no_implicit_lambda% (wpl_val ?_ rfl ?_ ?_)
      rotate_left
      · (go_simp; (try with_reducible rfl))
      (try simp only [Act.put, Z1, Z2, Z3, Z4, Z5, Z6])
      refine no_implicit_lambda% (wpList_nil ?_)
      go_wp2_with fail
      refine bodyPost_ret (v := .tuple #[.agg (row 64 (P.wrF log n p was).1), .bool (P.wrF log n p was).2]) ?_ rfl ?_
      · refine (results_c2 (P := Try.prog) (fn := Try.f22) (p := 8) (q := 9) (ty := 38) rfl _ w9 (w.heap.size + 1) 38 (row 64 (P.wrF log n p was).1) (0, 0) _ ?_ hB9 Try.underlying38 rfl (size38 _)).trans ?_
        · rfl
        · rfl
      · exact ⟨rfl, Fr.below hS.below hF9 (Nat.le_refl _) fun i hi => by omega⟩
/-! ### count -/
theorem built38 : Try.prog.built 38 [] = some (row 64 P.zb) := by kernel_rfl
def cntK (log : List P.De) (n : Int) (k : Nat) : Nat := ((List.range k).filter fun (p : Nat) => (P.wrF log n (p : Int) P.zb).2).length
theorem cntK_succ (log : List P.De) (n : Int) (k : Nat) : cntK log n (k + 1) = if (P.wrF log n (k : Int) P.zb).2 = true then cntK log n k + 1 else cntK log n k := by
  unfold cntK
  rw [List.range_succ, List.filter_append, List.length_append]
  by_cases h : (P.wrF log n (k : Int) P.zb).2 = true
  · rw [if_pos h, List.filter_cons_of_pos (p := fun (p : Nat) => (P.wrF log n (p : Int) P.zb).2) h]; rfl
  · rw [if_neg h, List.filter_cons_of_neg (p := fun (p : Nat) => (P.wrF log n (p : Int) P.zb).2) h]; rfl
theorem cntK_le (log : List P.De) (n : Int) (k : Nat) : cntK log n k ≤ k := by
  unfold cntK
  have := List.length_filter_le (fun (p : Nat) => (P.wrF log n (p : Int) P.zb).2) (List.range k)
  rwa [List.length_range] at this
set_option maxRecDepth 100000 in
set_option maxHeartbeats 4000000 in
theorem count_any {w : World} {c : Nat} {pages : Nat} {mx : Nat} {ao : Option Addr} {cap : Nat} {log : List P.De} (h : RefAt w c pages mx ao cap log) (hn : log.length ≤ 1000) (hpg : pages ≤ 16)
    (hoff : ∀ d ∈ log, d.1.kind = 2 → d.2.e = 0 → 0 ≤ d.1.off ∧ d.1.off ≤ 64 ∧ (d.1.s.size : Int) ≤ 64 - d.1.off) (n : Int) :
    Calls Try.prog 26 #[.pointer (some ⟨c, 0, none⟩), .int .u64 n] w fun e w' => e = .returned (.int .i64 (P.cntF pages log n)) ∧ Below w.heap.size w w' := by
  have hz38 := zero38.1
  replace hoff := Lib.hid hoff
  have h0 : Hid (Below w.heap.size w w) := Below.refl _ _
  go_enter Try.func26, Try.ntmps26
  go_wp2_with fail
  go_loopw [6, 5] (fun i s wr => ∃ k : Nat, i = .int .i64 k ∧ k ≤ pages ∧ s = .int .i64 (cntK log n k) ∧ Below w.heap.size w wr) (fun i _ _ => pages - (intOf i).toNat)
  case atStart => exact ⟨0, rfl, Nat.zero_le _, rfl, h0.out⟩
  case round =>
    obtain ⟨k, rfl, hk, rfl, hS⟩ := hrel
    have c0 := (h.below hS).c0
    go_upto_region 3 with (fail)
    refine no_implicit_lambda% (wp_region_lit ?_)
    iterate 4
      refine no_implicit_lambda% (wpl_val ?_ rfl ?_ ?_)
      rotate_left
      · (go_simp; (try with_reducible rfl))
      (try simp only [Act.put, Z1, Z2, Z3, Z4, Z5, Z6])
    refine no_implicit_lambda% (wpl_val ?_ rfl ?_ ?_)
    rotate_left
    · (have c0 := c0; go_simp; (try with_reducible rfl))
    (try simp only [Act.put, Z1, Z2, Z3, Z4, Z5, Z6])
    refine no_implicit_lambda% (wpl_val ?_ rfl ?_ ?_)
    rotate_left
    · (go_simp; (try with_reducible rfl))
    (try simp only [Act.put, Z1, Z2, Z3, Z4, Z5, Z6])
    refine no_implicit_lambda% (wpList_nil ?_)
    by_cases hlt : k < pages
    · have hlt' : (k : Int) < (pages : Int) := by omega
      have hw16 : IntKind.u16.wrap (k : Int) = (k : Int) := IntWalk.u16_in _ (by omega)
      have hcl := cntK_le log n k
      have HS := Lib.hid (cntK_succ log n k)
      generalize cntK log n k = s at *
      clear c0
      go_upto_region 5 with (fail)
      refine no_implicit_lambda% (wp_region_lit ?_)
      iterate 4
        refine no_implicit_lambda% (wpl_val ?_ rfl ?_ ?_)
        rotate_left
        · (go_simp; (try with_reducible rfl))
        (try simp only [Act.put, Z1, Z2, Z3, Z4, Z5, Z6])
      refine wpl_val (.agg (row 64 P.zb)) rfl (run_buildE rfl (by go_simp; exact built38)) ?_
      (try simp only [Act.put, Z1, Z2, Z3, Z4, Z5, Z6])
      refine wpl_call _ _ rfl (by go_simp) _ (wrote_any (h.below hS) hn hoff.out n (k : Int) P.zb) ?_
      rintro e w2 ⟨rfl, hb2⟩
      refine ⟨_, rfl, ?_⟩
      (try simp only [Act.put, Z1, Z2, Z3, Z4, Z5, Z6])
      iterate 3
        refine no_implicit_lambda% (wpl_val ?_ rfl ?_ ?_)
        rotate_left
        · (go_simp; (try with_reducible rfl))
        (try simp only [Act.put, Z1, Z2, Z3, Z4, Z5, Z6])
      refine wpl_alloc 38 (row 64 P.zb) rfl rfl hz38 ?_
      (try simp only [Act.put, Z1, Z2, Z3, Z4, Z5, Z6])
      refine wpl_law rfl (wp_store_row 38 _ _ rfl w2.heap.size (row 64 (P.wrF log n (k : Int) P.zb).1) rfl rfl 38 _ (Blk.alloc_new _ _ _) (size38 _) (by simp only [row_size]) (row_one _ _) ?_)
      (try simp only [Act.put, Z1, Z2, Z3, Z4, Z5, Z6])
      refine no_implicit_lambda% (wpl_val ?_ rfl ?_ ?_)
      rotate_left
      · (go_simp; (try with_reducible rfl))
      (try simp only [Act.put, Z1, Z2, Z3, Z4, Z5, Z6])
      refine no_implicit_lambda% (wpList_nil ?_)
      have hS2 : Below w.heap.size w ((w2.alloc (.cells (row 64 P.zb) 38)).setRow w2.heap.size (row 64 (P.wrF log n (k : Int) P.zb).1)) := by
        have h1 := hS.trans (hb2.mono hS.size)
        exact Fr.below (h1.alloc h1.size _) ((Fr.refl (fun b => b = w2.heap.size) _).setRow _ _ fun _ => rfl) (Nat.le_refl _) fun i e => by have := h1.size; omega
      generalize (w2.alloc (.cells (row 64 P.zb) 38)).setRow w2.heap.size (row 64 (P.wrF log n (k : Int) P.zb).1) = V at *
      clear hS hb2
      cases hc : (P.wrF log n (k : Int) P.zb).2 with
      | true =>
        have HM : Hid (cntK log n (k + 1) = s + 1) := by have := HS.out; rwa [hc, if_pos rfl] at this
        clear HS hc
        go_wp2_with fail
        go_roundw
        case rel => exact ⟨k + 1, by go_num, by omega, by rw [HM.out]; go_num, hS2⟩
        case measure => simp [intOf]; omega
      | false =>
        have HM : Hid (cntK log n (k + 1) = s) := by have := HS.out; rwa [hc, if_neg (by simp)] at this
        clear HS hc
        go_wp2_with fail
        go_roundw
        case rel => exact ⟨k + 1, by go_num, by omega, by rw [HM.out], hS2⟩
        case measure => simp [intOf]; omega
    · obtain rfl : k = pages := by omega
      go_wp2_with fail
      go_ret
      exact ⟨rfl, hS⟩
/-! ### live -/
set_option maxRecDepth 100000 in
set_option maxHeartbeats 4000000 in
theorem live_any {w : World} {c : Nat} {pages : Int} {mx : Nat} {ao : Option Addr} {cap : Nat} {log : List P.De} (h : RefAt w c pages mx ao cap log) (hn : log.length ≤ 1000) (htx : ∀ d ∈ log, d.1.kind = 0 → d.2.e = 0 → 0 ≤ d.2.txn) :
    Calls Try.prog 24 #[.pointer (some ⟨c, 0, none⟩)] w fun e w' => e = .returned (.tuple #[.int .i64 (P.livF log).1, .int .u64 (P.livF log).2]) ∧ Below w.heap.size w w' := by
  have hz64 := zero64.1
  have c2 := h.c2
  have hL := Lib.hid h.l
  replace htx := Lib.hid htx
  have h0 : Hid (Below w.heap.size w w) := Below.refl _ _
  have hle : Hid (∀ k, ((log.take k).foldl (P.livS log) (0, 0)).1 ≤ k ∧ ((log.take k).foldl (P.livS log) (0, 0)).2 ≤ k) := fun k => by
    have key : ∀ (l : List P.De) (s : Nat × Nat) (m : Nat), s.1 ≤ m ∧ s.2 ≤ m → (l.foldl (P.livS log) s).1 ≤ m + l.length ∧ (l.foldl (P.livS log) s).2 ≤ m + l.length := by
      intro l
      induction l with
      | nil => intro s m h; exact h
      | cons d l ih =>
        intro s m h
        have := ih (P.livS log s d) (m + 1) (by
          unfold P.livS
          split
          · simp only []
            split <;> omega
          · omega)
        simp only [List.length_cons]
        show (l.foldl (P.livS log) (P.livS log s d)).1 ≤ _ ∧ (l.foldl (P.livS log) (P.livS log s d)).2 ≤ _
        omega
    have := key (log.take k) (0, 0) 0 (by simp)
    have := List.length_take_le k log
    omega
  go_enter Try.func24, Try.ntmps24
  go_upto_region 2 with (fail)
  refine no_implicit_lambda% (wp_region_lit ?_)
  iterate 3
    refine no_implicit_lambda% (wpl_val ?_ rfl ?_ ?_)
    rotate_left
    · (go_simp; (try with_reducible rfl))
    (try simp only [Act.put, Z1, Z2, Z3, Z4, Z5, Z6])
  refine no_implicit_lambda% (wpl_val ?_ rfl ?_ ?_)
  rotate_left
  · (have c0 := c2; go_simp; (try with_reducible rfl))
  (try simp only [Act.put, Z1, Z2, Z3, Z4, Z5, Z6])
  refine no_implicit_lambda% (wpl_val ?_ rfl ?_ ?_)
  rotate_left
  · (go_simp; (try with_reducible rfl))
  (try simp only [Act.put, Z1, Z2, Z3, Z4, Z5, Z6])
  refine no_implicit_lambda% (wpl_val ?_ rfl ?_ ?_)
  rotate_left
  · (go_simp; (try with_reducible rfl))
  (try simp only [Act.put, Z1, Z2, Z3, Z4, Z5, Z6])
  refine no_implicit_lambda% (wpList_nil ?_)
  clear c2
  go_wp2_with fail
  go_loopw [15, 4, 5] (fun i a b wr => ∃ k : Nat, i = .int .i64 k ∧ k ≤ log.length ∧ a = .int .i64 ((log.take k).foldl (P.livS log) (0, 0)).1 ∧ b = .int .u64 ((log.take k).foldl (P.livS log) (0, 0)).2 ∧ Below w.heap.size w wr) (fun i _ _ _ => log.length - (intOf i).toNat)
  case atStart => exact ⟨0, rfl, Nat.zero_le _, rfl, rfl, h0.out⟩
  case round =>
    obtain ⟨k, rfl, hk, rfl, rfl, hS⟩ := hrel
    by_cases hlt : k < log.length
    · obtain ⟨x, hx⟩ : ∃ x, log[k]? = some x := ⟨_, List.getElem?_eq_getElem hlt⟩
      obtain ⟨g, rfl, _, hr⟩ := (hL.out.below hS).at_ k x hx
      replace hr := Lib.hid hr
      have hlt' : (k : Int) < (log.length : Int) := by omega
      have HT : Hid ((log.take (k + 1)).foldl (P.livS log) (0, 0) = P.livS log ((log.take k).foldl (P.livS log) (0, 0)) x) := by unfold Hid; rw [take_snoc hx, List.foldl_append]; rfl
      obtain ⟨hl1, hl2⟩ := hle.out k
      have hxt := Lib.hid (htx.out x (List.mem_of_getElem? hx))
      generalize (log.take k).foldl (P.livS log) (0, 0) = s at *
      clear hx
      go_upto_region 4 with (fail)
      refine no_implicit_lambda% (wp_region_lit ?_)
      refine no_implicit_lambda% (wpl_val ?_ rfl ?_ ?_)
      rotate_left
      · (go_simp; (try with_reducible rfl))
      (try simp only [Act.put, Z1, Z2, Z4, Z5, Z6])
      refine wpList_load_mid rfl 64 _ rfl g (k * 72) rfl (deL x) _ hr.out Try.underlying64 rfl (size64' x) ?_
      (try simp only [Act.put, Z1, Z2, Z3, Z4, Z5, Z6])
      refine wpl_alloc 64 (deA noDe) rfl rfl hz64 ?_
      (try simp only [Act.put, Z1, Z2, Z3, Z4, Z5, Z6])
      refine wpl_law rfl (wp_store_row 64 _ _ rfl wr.heap.size (deA x) rfl rfl 64 _ (Blk.alloc_new _ _ _) (size64 _) (by simp only [deA_size]) (deA_one _) ?_)
      (try simp only [Act.put, Z1, Z2, Z3, Z4, Z5, Z6])
      refine no_implicit_lambda% (wpList_nil ?_)
      obtain ⟨hB, hb⟩ := de_box (w := wr) x
      replace hS := hS.trans (hb.mono hS.size)
      generalize (wr.alloc (.cells (deA noDe) 64)).setRow wr.heap.size (deA x) = V at *
      generalize wr.heap.size = bx at *
      have dk := Lib.hid (d_kind hB)
      have de := Lib.hid (d_e hB)
      have dn := Lib.hid (d_rtxn hB)
      clear hr hL hB hb
      by_cases hk0 : x.1.kind = 0
      · have hk' : (x.1.kind == 0) = true := by simp [hk0]
        by_cases he : x.2.e = 0
        · have he' : (x.2.e == 0) = true := by simp [he]
          have hw64 : IntKind.u64.wrap ((s.2 : Int) + 1) = (s.2 : Int) + 1 := IntWalk.u64_in _ (by omega)
          have hw63 : IntKind.i64.wrap ((s.1 : Int) + 1) = (s.1 : Int) + 1 := IntWalk.i64_in _ (by omega)
          have hx0 := hxt.out hk0 he
          have HC : Hid (P.livS log s x = (if (P.begF log x.2.txn).2 = true then s.1 + 1 else s.1, s.2 + 1)) := by unfold Hid P.livS; rw [if_pos ⟨hk0, he⟩]
          clear hk0 he
          go_upto_region 5 with (fail)
          refine no_implicit_lambda% (wp_region_lit ?_)
          iterate 2
            refine no_implicit_lambda% (wpl_val ?_ rfl ?_ ?_)
            rotate_left
            · (go_simp; (try with_reducible rfl))
            (try simp only [Act.put, Z1, Z2, Z3, Z4, Z5, Z6])
          refine no_implicit_lambda% (wpl_val ?_ rfl ?_ ?_)
          rotate_left
          · (have c0 := dk.out; go_simp; (try with_reducible rfl))
          (try simp only [Act.put, Z1, Z2, Z3, Z4, Z5, Z6])
          iterate 4
            refine no_implicit_lambda% (wpl_val ?_ rfl ?_ ?_)
            rotate_left
            · (go_simp; (try with_reducible rfl))
            (try simp only [Act.put, Z1, Z2, Z3, Z4, Z5, Z6])
          refine no_implicit_lambda% (wpl_val ?_ rfl ?_ ?_)
          rotate_left
          · (have c0 := de.out; go_simp; (try with_reducible rfl))
          (try simp only [Act.put, Z1, Z2, Z3, Z4, Z5, Z6])
          iterate 2
            refine no_implicit_lambda% (wpl_val ?_ rfl ?_ ?_)
            rotate_left
            · (go_simp; (try with_reducible rfl))
            (try simp only [Act.put, Z1, Z2, Z3, Z4, Z5, Z6])
          refine no_implicit_lambda% (wpList_nil ?_)
          go_upto_region 7 with (fail)
          refine no_implicit_lambda% (wp_region_lit ?_)
          iterate 3
            refine no_implicit_lambda% (wpl_val ?_ rfl ?_ ?_)
            rotate_left
            · (go_simp; (try with_reducible rfl))
            (try simp only [Act.put, Z1, Z2, Z3, Z4, Z5, Z6])
          refine no_implicit_lambda% (wpl_val ?_ rfl ?_ ?_)
          rotate_left
          · (have c0 := dn.out; go_simp; (try with_reducible rfl))
          (try simp only [Act.put, Z1, Z2, Z3, Z4, Z5, Z6])
          refine wpl_call _ _ rfl (by go_simp) _ (refbegun_any (h.below hS) hn x.2.txn hx0) ?_
          rintro e w2 ⟨rfl, hb2⟩
          refine ⟨_, rfl, ?_⟩
          (try simp only [Act.put, Z1, Z2, Z3, Z4, Z5, Z6])
          iterate 5
            refine no_implicit_lambda% (wpl_val ?_ rfl ?_ ?_)
            rotate_left
            · (go_simp; (try with_reducible rfl))
            (try simp only [Act.put, Z1, Z2, Z3, Z4, Z5, Z6])
          refine no_implicit_lambda% (wpList_nil ?_)
          replace hS := hS.trans (hb2.mono hS.size)
          clear hb2 dk de dn
          cases hc : (P.begF log x.2.txn).2 with
          | true =>
            have HM : Hid (P.livS log s x = (s.1 + 1, s.2 + 1)) := by have := HC.out; rwa [hc, if_pos rfl] at this
            clear HC hc
            go_wp2_with fail
            go_roundw
            case rel => exact ⟨k + 1, by go_num, by omega, by rw [HT.out, HM.out]; go_num, by rw [HT.out, HM.out]; go_num, hS⟩
            case measure => simp [intOf]; omega
          | false =>
            have HM : Hid (P.livS log s x = (s.1, s.2 + 1)) := by have := HC.out; rwa [hc, if_neg (by simp)] at this
            clear HC hc
            go_wp2_with fail
            go_roundw
            case rel => exact ⟨k + 1, by go_num, by omega, by rw [HT.out, HM.out], by rw [HT.out, HM.out]; go_num, hS⟩
            case measure => simp [intOf]; omega
        · have he' : (x.2.e == 0) = false := by simp [he]
          have HM : Hid (P.livS log s x = s) := by unfold Hid P.livS; rw [if_neg (fun e => he e.2)]
          clear hk0 he
          go_upto_region 5 with (fail)
          refine no_implicit_lambda% (wp_region_lit ?_)
          iterate 2
            refine no_implicit_lambda% (wpl_val ?_ rfl ?_ ?_)
            rotate_left
            · (go_simp; (try with_reducible rfl))
            (try simp only [Act.put, Z1, Z2, Z3, Z4, Z5, Z6])
          refine no_implicit_lambda% (wpl_val ?_ rfl ?_ ?_)
          rotate_left
          · (have c0 := dk.out; go_simp; (try with_reducible rfl))
          (try simp only [Act.put, Z1, Z2, Z3, Z4, Z5, Z6])
          iterate 4
            refine no_implicit_lambda% (wpl_val ?_ rfl ?_ ?_)
            rotate_left
            · (go_simp; (try with_reducible rfl))
            (try simp only [Act.put, Z1, Z2, Z3, Z4, Z5, Z6])
          refine no_implicit_lambda% (wpl_val ?_ rfl ?_ ?_)
          rotate_left
          · (have c0 := de.out; go_simp; (try with_reducible rfl))
          (try simp only [Act.put, Z1, Z2, Z3, Z4, Z5, Z6])
          iterate 2
            refine no_implicit_lambda% (wpl_val ?_ rfl ?_ ?_)
            rotate_left
            · (go_simp; (try with_reducible rfl))
            (try simp only [Act.put, Z1, Z2, Z3, Z4, Z5, Z6])
          refine no_implicit_lambda% (wpList_nil ?_)
          go_wp2_with fail
          go_roundw
          case rel => exact ⟨k + 1, by go_num, by omega, by rw [HT.out, HM.out], by rw [HT.out, HM.out], hS⟩
          case measure => simp [intOf]; omega
      · have hk' : (x.1.kind == 0) = false := by simp [hk0]
        have HM : Hid (P.livS log s x = s) := by unfold Hid P.livS; rw [if_neg (fun e => hk0 e.1)]
        clear hk0
        go_upto_region 5 with (fail)
        refine no_implicit_lambda% (wp_region_lit ?_)
        iterate 2
          refine no_implicit_lambda% (wpl_val ?_ rfl ?_ ?_)
          rotate_left
          · (go_simp; (try with_reducible rfl))
          (try simp only [Act.put, Z1, Z2, Z3, Z4, Z5, Z6])
        refine no_implicit_lambda% (wpl_val ?_ rfl ?_ ?_)
        rotate_left
        · (have c0 := dk.out; go_simp; (try with_reducible rfl))
        (try simp only [Act.put, Z1, Z2, Z3, Z4, Z5, Z6])
        iterate 2
          refine no_implicit_lambda% (wpl_val ?_ rfl ?_ ?_)
          rotate_left
          · (go_simp; (try with_reducible rfl))
          (try simp only [Act.put, Z1, Z2, Z3, Z4, Z5, Z6])
        iterate 4
          refine no_implicit_lambda% (wpl_skip rfl ?_)
          (try simp only [Act.put, Z1, Z2, Z3, Z4, Z5, Z6])
        refine no_implicit_lambda% (wpl_val ?_ rfl ?_ ?_)
        rotate_left
        · (go_simp; (try with_reducible rfl))
        (try simp only [Act.put, Z1, Z2, Z3, Z4, Z5, Z6])
        refine no_implicit_lambda% (wpList_nil ?_)
        go_wp2_with fail
        go_roundw
        case rel => exact ⟨k + 1, by go_num, by omega, by rw [HT.out, HM.out], by rw [HT.out, HM.out], hS⟩
        case measure => simp [intOf]; omega
    · obtain rfl : k = log.length := by omega
      have HE : Hid ((log.take log.length).foldl (P.livS log) (0, 0) = P.livF log) := by unfold Hid; rw [List.take_length]; rfl
      go_wp2_with fail
      go_ret2
      exact ⟨by rw [← HE.out]; rfl, hS⟩
end Go.Proofs.Ytjaecdcddmohoaa
