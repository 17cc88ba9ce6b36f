/- The walk of closed: who can be come to from whom. -/
import Derived.Test.YtnemaolbmocncaaH1W
namespace Go.Proofs.Ytnemaolbmocncaa.P
/-- The closure, at work: k may stand between; the pairs up to (i, j) are done for k as well. -/
structure CL (R : Nat → Nat → Prop) (S : List (Nat × Nat)) (k i j : Nat) : Prop where
  sound : ∀ e ∈ S, Path R e.1 e.2
  all : ∀ x y, wt R k x y → (x, y) ∈ S
  more : ∀ x y, wt R (k + 1) x y → (x < i ∨ (x = i ∧ y < j)) → (x, y) ∈ S
section
variable {R : Nat → Nat → Prop} {S : List (Nat × Nat)} {n k i j : Nat}
theorem CL.start (h : ∀ e, e ∈ S ↔ R e.1 e.2) : CL R S 0 0 0 := ⟨fun e he => .one ((h e).1 he), fun x y hw => (h (x, y)).2 hw, fun x y _ h => by omega⟩
theorem CL.hit (h : CL R S k i j) (h1 : (i, k) ∈ S) (h2 : (k, j) ∈ S) : CL R (ins S (i, j)) k i (j + 1) := by
  refine ⟨fun e he => ?_, fun x y hw => mem_ins.2 (.inl (h.all x y hw)), fun x y hw hx => mem_ins.2 ?_⟩
  · rcases mem_ins.1 he with e1 | rfl
    · exact h.sound e e1
    · exact (h.sound _ h1).trans (h.sound _ h2)
  · by_cases e : x = i ∧ y = j
    · exact .inr (by rw [e.1, e.2])
    · exact .inl (h.more x y hw (by omega))
theorem CL.miss (h : CL R S k i j) (h1 : ¬ ((i, k) ∈ S ∧ (k, j) ∈ S)) : CL R S k i (j + 1) := by
  refine ⟨h.sound, h.all, fun x y hw hx => ?_⟩
  by_cases e : x = i ∧ y = j
  · obtain ⟨rfl, rfl⟩ := e
    rcases hw with hw | ⟨hw1, hw2⟩
    · exact h.all _ _ hw
    · exact absurd ⟨h.all _ _ hw1, h.all _ _ hw2⟩ h1
  · exact h.more x y hw (by omega)
theorem CL.row (hR : ∀ i k, R i k → i < n ∧ k < n) (h : CL R S k i n) : CL R S k (i + 1) 0 :=
  ⟨h.sound, h.all, fun x y hw hx => h.more x y hw (by have := (path_lt hR (wt_path hw)).2; omega)⟩
theorem CL.phase (hR : ∀ i k, R i k → i < n ∧ k < n) (h : CL R S k n 0) : CL R S (k + 1) 0 0 :=
  ⟨h.sound, fun x y hw => h.more x y hw (.inl (path_lt hR (wt_path hw)).1), fun x y _ hx => by omega⟩
theorem CL.fin (hR : ∀ i k, R i k → i < n ∧ k < n) (h : CL R S n 0 0) (e : Nat × Nat) : e ∈ S ↔ Path R e.1 e.2 := ⟨h.sound e, fun p => h.all _ _ (wt_all hR p)⟩
end
end Go.Proofs.Ytnemaolbmocncaa.P
namespace Go.Proofs.Ytnemaolbmocncaa
open Go.RowKit
set_option linter.unusedSimpArgs false
set_option linter.unusedVariables false
attribute [local irreducible] wpList
theorem b72 (i k : Int) : Try.prog.built 72 [(0, .int .i64 i), (1, .int .i64 k)] = some #[.int .i64 i, .int .i64 k] := by kernel_rfl
/-- closed, at work: the graph stands, the map ro is the call's own. -/
structure CS (w wr : World) (g : Nat) (v : Value) (ro : Nat) (S1 : List Ed) : Prop where
  bl : Below w.heap.size w wr
  g0 : wr.cell? ⟨g, 0, none⟩ = some v
  gl : g < w.heap.size
  rol : w.heap.size ≤ ro
  s : SetAt wr ro S1
theorem CS.go {w wr w' : World} {g : Nat} {v : Value} {ro : Nat} {S1 : List Ed} (h : CS w wr g v ro S1) (k : Below wr.heap.size wr w') : CS w w' g v ro S1 :=
  ⟨h.bl.trans (k.mono h.bl.size), by rw [k.cell (p := ⟨g, 0, none⟩) (by have := h.gl; have := h.bl.size; show g < wr.heap.size; omega)]; exact h.g0, h.gl, h.rol, h.s.below k⟩
theorem CS.put {w wr : World} {g : Nat} {v : Value} {ro : Nat} {S1 : List Ed} (h : CS w wr g v ro S1) {i k : Nat} (hi : i ≤ 1000) (hk : k ≤ 1000) :
    ∃ w', (Instr.mapUpdate 66 (.map (some ro)) (.agg #[.int .i64 i, .int .i64 k]) (.bool true)).run Try.prog wr = .ok () w' ∧ CS w w' g v ro (P.ins S1 (i, k)) ∧ Fr (fun b => b = ro) wr w' := by
  obtain ⟨w', h1, h2, h3⟩ := h.s.put hi hk
  have hro := h.rol
  have hgl := h.gl
  refine ⟨w', h1, ⟨Fr.below h.bl h3 (Nat.le_refl _) fun i e => by omega, ?_, h.gl, h.rol, h2⟩, h3⟩
  have hb := h3.block g (by have := h.bl.size; omega) (by omega)
  have := h.g0
  unfold World.cell? at this ⊢
  simp only [] at this ⊢
  rw [hb]; exact this
set_option maxRecDepth 100000 in
set_option maxHeartbeats 8000000 in
theorem closed_any {w : World} {g : Nat} {ao : Option Addr} {cap n : Nat} (hg0 : w.cell? ⟨g, 0, none⟩ = some (.slice ao n cap)) (hgl : g < w.heap.size) {r : Nat} {S : List Ed} (hS : SetAt w r S) (hlt : ∀ e ∈ S, e.1 < n ∧ e.2 < n) (hn : n ≤ 1000) :
    Calls Try.prog 22 #[.pointer (some ⟨g, 0, none⟩), .map (some r)] w fun e w' => ∃ ro S', e = .returned (.map (some ro)) ∧ SetAt w' ro S' ∧ (∀ e, e ∈ S' ↔ P.Path (fun i k => (i, k) ∈ S) e.1 e.2) ∧ Below w.heap.size w w' ∧ w.heap.size ≤ ro := by
  have hz72 := zero72.1
  have hmm := @run_makeMap Try.prog
  have hrl := hS.lt
  have hB0 : Below w.heap.size w (w.alloc (.map #[] 0)) := (Below.refl _ _).alloc (Nat.le_refl _) _
  have hs0 := SetAt.made w
  have hC0 : CS w (w.alloc (.map #[] 0)) g (.slice ao n cap) w.heap.size [] := ⟨hB0, by rw [hB0.cell (p := ⟨g, 0, none⟩) hgl]; exact hg0, hgl, Nat.le_refl _, hs0⟩
  have hS0 := hS.below hB0
  have hnd : Hid S.Nodup := hS.nodup
  have hlR : Hid (∀ i k, (i, k) ∈ S → i < n ∧ k < n) := fun i k h => hlt _ h
  clear hB0 hs0 hS hlt hg0
  go_enter Try.func22, Try.ntmps22
  go_upto_region 2 with (fail)
  clear hmm
  generalize w.alloc (.map #[] 0) = V at *
  obtain ⟨W, hrun, hIt, hb1, hsz⟩ := hS0.range
  refine no_implicit_lambda% (wp_region_lit ?_)
  refine no_implicit_lambda% (wpl_val ?_ rfl ?_ ?_)
  rotate_left
  · (go_simp; (try with_reducible rfl))
  (try simp only [Act.put, Z1, Z2, Z4, Z5, Z6])
  refine wpl_run (.pointer (some ⟨V.heap.size, 0, none⟩)) W rfl (by go_simp) ?_
  (try simp only [Act.put, Z1, Z2, Z3, Z4, Z5, Z6])
  refine no_implicit_lambda% (wpList_nil ?_)
  have hVs := hC0.s.lt
  replace hC0 := hC0.go hb1
  clear hrun hb1 hS0 hsz
  have hlx : Hid (w.heap.size < V.heap.size ∧ r < w.heap.size) := ⟨hVs, hrl⟩
  generalize V.heap.size = it at *
  clear V hVs hrl
  have HS := Lib.hid (And.intro hIt hC0)
  clear hIt hC0
  go_wp2_with fail
  go_loopg [] S.length (fun m wr => ∃ (T S1 : List Ed), T.length = m ∧ EdIt wr it r S T ∧ CS w wr g (.slice ao n cap) w.heap.size S1 ∧ Hid (T.Nodup ∧ ∀ e, e ∈ S1 ↔ e ∈ S ∧ e ∉ T))
  case atStart => exact ⟨S, [], rfl, HS.out.1, HS.out.2, hnd.out, fun e => by simp⟩
  case round =>
    clear HS
    obtain ⟨T, S1, rfl, hIt, hS, hT⟩ := hrel
    have hne : it ≠ r := fun e => by have := hlx.out; omega
    rcases hIt.next hne with ⟨h0, hrun⟩ | ⟨j, q, w', hj, hqB, hrun, hIt2, hF, hent⟩
    · subst h0
      go_upto_region 3 with (fail)
      refine no_implicit_lambda% (wp_region_lit ?_)
      refine wpl_run (.tuple #[.bool false]) wr rfl (by go_simp) ?_
      (try simp only [Act.put, Z1, Z2, Z3, Z4, Z5, Z6])
      refine no_implicit_lambda% (wpl_val ?_ rfl ?_ ?_)
      rotate_left
      · (go_simp; (try with_reducible rfl))
      (try simp only [Act.put, Z1, Z2, Z3, Z4, Z5, Z6])
      refine no_implicit_lambda% (wpList_nil ?_)
      clear hrun hIt hlx hne
      have hCL : Hid (P.CL (fun i k => (i, k) ∈ S) S1 0 0 0) := P.CL.start fun e => by rw [hT.out.2]; simp
      clear hT
      have g0 := hS.g0
      go_upto_region 6 with (fail)
      refine no_implicit_lambda% (wp_region_lit ?_)
      iterate 3
        refine no_implicit_lambda% (wpl_val ?_ rfl ?_ ?_)
        rotate_left
        · (go_simp; (try with_reducible rfl))
        (try simp only [Act.put, Z1, Z2, Z3, Z4, Z5, Z6])
      refine no_implicit_lambda% (wpl_val ?_ rfl ?_ ?_)
      rotate_left
      · (have c0 := g0; go_simp; (try with_reducible rfl))
      (try simp only [Act.put, Z1, Z2, Z3, Z4, Z5, Z6])
      refine no_implicit_lambda% (wpl_val ?_ rfl ?_ ?_)
      rotate_left
      · (go_simp; (try with_reducible rfl))
      (try simp only [Act.put, Z1, Z2, Z3, Z4, Z5, Z6])
      refine no_implicit_lambda% (wpl_val ?_ rfl ?_ ?_)
      rotate_left
      · (go_simp; (try with_reducible rfl))
      (try simp only [Act.put, Z1, Z2, Z3, Z4, Z5, Z6])
      refine no_implicit_lambda% (wpList_nil ?_)
      clear g0
      have HS := Lib.hid hS
      clear hS
      go_wp2_with fail
      go_loopw [24] (fun i wr => ∃ (k : Nat) (S1 : List Ed), i = .int .i64 k ∧ k ≤ n ∧ CS w wr g (.slice ao n cap) w.heap.size S1 ∧ Hid (P.CL (fun i k => (i, k) ∈ S) S1 k 0 0)) (fun i _ => n - (intOf i).toNat)
      case atStart => exact ⟨0, S1, rfl, Nat.zero_le _, HS.out, hCL⟩
      case round =>
        clear HS hCL
        obtain ⟨k, S1, rfl, hk, hS, hCL⟩ := hrel
        by_cases hlk : k < n
        · have hlk' : (k : Int) < (n : Int) := by omega
          go_upto_region 8 with (fail)
          refine no_implicit_lambda% (wp_region_lit ?_)
          iterate 2
            refine no_implicit_lambda% (wpl_val ?_ rfl ?_ ?_)
            rotate_left
            · (go_simp; (try with_reducible rfl))
            (try simp only [Act.put, Z1, Z2, Z3, Z4, Z5, Z6])
          refine no_implicit_lambda% (wpList_nil ?_)
          have g0 := hS.g0
          go_upto_region 9 with (fail)
          refine no_implicit_lambda% (wp_region_lit ?_)
          iterate 3
            refine no_implicit_lambda% (wpl_val ?_ rfl ?_ ?_)
            rotate_left
            · (go_simp; (try with_reducible rfl))
            (try simp only [Act.put, Z1, Z2, Z3, Z4, Z5, Z6])
          refine no_implicit_lambda% (wpl_val ?_ rfl ?_ ?_)
          rotate_left
          · (have c0 := g0; go_simp; (try with_reducible rfl))
          (try simp only [Act.put, Z1, Z2, Z3, Z4, Z5, Z6])
          refine no_implicit_lambda% (wpl_val ?_ rfl ?_ ?_)
          rotate_left
          · (go_simp; (try with_reducible rfl))
          (try simp only [Act.put, Z1, Z2, Z3, Z4, Z5, Z6])
          refine no_implicit_lambda% (wpl_val ?_ rfl ?_ ?_)
          rotate_left
          · (go_simp; (try with_reducible rfl))
          (try simp only [Act.put, Z1, Z2, Z3, Z4, Z5, Z6])
          refine no_implicit_lambda% (wpList_nil ?_)
          clear g0
          have HS := Lib.hid hS
          clear hS
          go_wp2_with fail
          go_loopw [32] (fun i wr => ∃ (i0 : Nat) (S1 : List Ed), i = .int .i64 i0 ∧ i0 ≤ n ∧ CS w wr g (.slice ao n cap) w.heap.size S1 ∧ Hid (P.CL (fun i k => (i, k) ∈ S) S1 k i0 0)) (fun i _ => n - (intOf i).toNat)
          case atStart => exact ⟨0, S1, rfl, Nat.zero_le _, HS.out, hCL⟩
          case round =>
            clear HS hCL
            obtain ⟨i, S1, rfl, hi, hS, hCL⟩ := hrel
            by_cases hli : i < n
            · have hli' : (i : Int) < (n : Int) := by omega
              go_upto_region 11 with (fail)
              refine no_implicit_lambda% (wp_region_lit ?_)
              iterate 2
                refine no_implicit_lambda% (wpl_val ?_ rfl ?_ ?_)
                rotate_left
                · (go_simp; (try with_reducible rfl))
                (try simp only [Act.put, Z1, Z2, Z3, Z4, Z5, Z6])
              refine no_implicit_lambda% (wpList_nil ?_)
              have g0 := hS.g0
              go_upto_region 12 with (fail)
              refine no_implicit_lambda% (wp_region_lit ?_)
              iterate 3
                refine no_implicit_lambda% (wpl_val ?_ rfl ?_ ?_)
                rotate_left
                · (go_simp; (try with_reducible rfl))
                (try simp only [Act.put, Z1, Z2, Z3, Z4, Z5, Z6])
              refine no_implicit_lambda% (wpl_val ?_ rfl ?_ ?_)
              rotate_left
              · (have c0 := g0; go_simp; (try with_reducible rfl))
              (try simp only [Act.put, Z1, Z2, Z3, Z4, Z5, Z6])
              refine no_implicit_lambda% (wpl_val ?_ rfl ?_ ?_)
              rotate_left
              · (go_simp; (try with_reducible rfl))
              (try simp only [Act.put, Z1, Z2, Z3, Z4, Z5, Z6])
              refine no_implicit_lambda% (wpl_val ?_ rfl ?_ ?_)
              rotate_left
              · (go_simp; (try with_reducible rfl))
              (try simp only [Act.put, Z1, Z2, Z3, Z4, Z5, Z6])
              refine no_implicit_lambda% (wpList_nil ?_)
              clear g0
              have HS := Lib.hid hS
              clear hS
              go_wp2_with fail
              go_loopw [40] (fun i' wr => ∃ (j0 : Nat) (S1 : List Ed), i' = .int .i64 j0 ∧ j0 ≤ n ∧ CS w wr g (.slice ao n cap) w.heap.size S1 ∧ Hid (P.CL (fun i k => (i, k) ∈ S) S1 k i j0)) (fun i _ => n - (intOf i).toNat)
              case atStart => exact ⟨0, S1, rfl, Nat.zero_le _, HS.out, hCL⟩
              case round =>
                clear HS hCL
                obtain ⟨j, S1, rfl, hj, hS, hCL⟩ := hrel
                by_cases hlj : j < n
                · have hlj' : (j : Int) < (n : Int) := by omega
                  go_upto_region 14 with (fail)
                  refine no_implicit_lambda% (wp_region_lit ?_)
                  iterate 2
                    refine no_implicit_lambda% (wpl_val ?_ rfl ?_ ?_)
                    rotate_left
                    · (go_simp; (try with_reducible rfl))
                    (try simp only [Act.put, Z1, Z2, Z3, Z4, Z5, Z6])
                  refine no_implicit_lambda% (wpList_nil ?_)
                  have l1 := hS.s.look (i := i) (k := k) (by omega) (by omega)
                  have l2 := hS.s.look (i := k) (k := j) (by omega) (by omega)
                  go_upto_region 15 with (fail)
                  refine no_implicit_lambda% (wp_region_lit ?_)
                  iterate 3
                    refine no_implicit_lambda% (wpl_val ?_ rfl ?_ ?_)
                    rotate_left
                    · (go_simp; (try with_reducible rfl))
                    (try simp only [Act.put, Z1, Z2, Z3, Z4, Z5, Z6])
                  refine wpl_val (.agg #[.int .i64 i, .int .i64 k]) rfl (run_buildE rfl (by go_simp; exact b72 i k)) ?_
                  (try simp only [Act.put, Z1, Z2, Z3, Z4, Z5, Z6])
                  by_cases h1 : (i, k) ∈ S1
                  · rw [decide_eq_true h1] at l1
                    refine no_implicit_lambda% (wpl_val ?_ rfl ?_ ?_)
                    rotate_left
                    · (have c0 := l1; go_simp; (try with_reducible rfl))
                    (try simp only [Act.put, Z1, Z2, Z3, Z4, Z5, Z6])
                    iterate 4
                      refine no_implicit_lambda% (wpl_val ?_ rfl ?_ ?_)
                      rotate_left
                      · (go_simp; (try with_reducible rfl))
                      (try simp only [Act.put, Z1, Z2, Z3, Z4, Z5, Z6])
                    refine wpl_val (.agg #[.int .i64 k, .int .i64 j]) rfl (run_buildE rfl (by go_simp; exact b72 k j)) ?_
                    (try simp only [Act.put, Z1, Z2, Z3, Z4, Z5, Z6])
                    by_cases h2 : (k, j) ∈ S1
                    · rw [decide_eq_true h2] at l2
                      refine no_implicit_lambda% (wpl_val ?_ rfl ?_ ?_)
                      rotate_left
                      · (have c0 := l2; go_simp; (try with_reducible rfl))
                      (try simp only [Act.put, Z1, Z2, Z3, Z4, Z5, Z6])
                      refine no_implicit_lambda% (wpl_val ?_ rfl ?_ ?_)
                      rotate_left
                      · (go_simp; (try with_reducible rfl))
                      (try simp only [Act.put, Z1, Z2, Z3, Z4, Z5, Z6])
                      refine no_implicit_lambda% (wpList_nil ?_)
                      have HC : Hid (P.CL (fun i k => (i, k) ∈ S) (P.ins S1 (i, j)) k i (j + 1)) := hCL.out.hit h1 h2
                      obtain ⟨w5, hup, hS5, _⟩ := hS.put (i := i) (k := j) (by omega) (by omega)
                      clear hS hCL h1 h2 l1 l2
                      generalize P.ins S1 (i, j) = S2 at *
                      go_upto_region 16 with (fail)
                      refine no_implicit_lambda% (wp_region_lit ?_)
                      iterate 3
                        refine no_implicit_lambda% (wpl_val ?_ rfl ?_ ?_)
                        rotate_left
                        · (go_simp; (try with_reducible rfl))
                        (try simp only [Act.put, Z1, Z2, Z3, Z4, Z5, Z6])
                      refine wpl_val (.agg #[.int .i64 i, .int .i64 j]) rfl (run_buildE rfl (by go_simp; exact b72 i j)) ?_
                      (try simp only [Act.put, Z1, Z2, Z3, Z4, Z5, Z6])
                      refine wpl_law rfl (wp_mapUpdateE rfl rfl rfl rfl hup ?_)
                      (try simp only [Act.put, Z1, Z2, Z3, Z4, Z5, Z6])
                      refine no_implicit_lambda% (wpList_nil ?_)
                      clear hup
                      go_wp2_with fail
                      go_roundw
                      case rel => exact ⟨j + 1, S2, by go_num, by omega, hS5, HC⟩
                      case measure => simp [intOf]; omega
                    · rw [decide_eq_false h2] at l2
                      refine no_implicit_lambda% (wpl_val ?_ rfl ?_ ?_)
                      rotate_left
                      · (have c0 := l2; go_simp; (try with_reducible rfl))
                      (try simp only [Act.put, Z1, Z2, Z3, Z4, Z5, Z6])
                      refine no_implicit_lambda% (wpl_val ?_ rfl ?_ ?_)
                      rotate_left
                      · (go_simp; (try with_reducible rfl))
                      (try simp only [Act.put, Z1, Z2, Z3, Z4, Z5, Z6])
                      refine no_implicit_lambda% (wpList_nil ?_)
                      have HC : Hid (P.CL (fun i k => (i, k) ∈ S) S1 k i (j + 1)) := hCL.out.miss fun e => h2 e.2
                      clear hCL h1 h2 l1 l2
                      go_wp2_with fail
                      go_roundw
                      case rel => exact ⟨j + 1, S1, by go_num, by omega, hS, HC⟩
                      case measure => simp [intOf]; omega
                  · rw [decide_eq_false h1] at l1
                    refine no_implicit_lambda% (wpl_val ?_ rfl ?_ ?_)
                    rotate_left
                    · (have c0 := l1; go_simp; (try with_reducible rfl))
                    (try simp only [Act.put, Z1, Z2, Z3, Z4, Z5, Z6])
                    refine no_implicit_lambda% (wpl_val ?_ rfl ?_ ?_)
                    rotate_left
                    · (go_simp; (try with_reducible rfl))
                    (try simp only [Act.put, Z1, Z2, Z3, Z4, Z5, Z6])
                    iterate 5
                      refine no_implicit_lambda% (wpl_skip rfl ?_)
                      (try simp only [Act.put, Z1, Z2, Z3, Z4, Z5, Z6])
                    refine no_implicit_lambda% (wpl_val ?_ rfl ?_ ?_)
                    rotate_left
                    · (go_simp; (try with_reducible rfl))
                    (try simp only [Act.put, Z1, Z2, Z3, Z4, Z5, Z6])
                    refine no_implicit_lambda% (wpList_nil ?_)
                    have HC : Hid (P.CL (fun i k => (i, k) ∈ S) S1 k i (j + 1)) := hCL.out.miss fun e => h1 e.1
                    clear hCL h1 l1 l2
                    go_wp2_with fail
                    go_roundw
                    case rel => exact ⟨j + 1, S1, by go_num, by omega, hS, HC⟩
                    case measure => simp [intOf]; omega
                · obtain rfl : j = n := by omega
                  have HC : Hid (P.CL (fun i k => (i, k) ∈ S) S1 k (i + 1) 0) := hCL.out.row hlR.out
                  clear hCL hlj
                  go_wp2_with fail
                  go_roundw
                  case rel => exact ⟨i + 1, S1, by go_num, by omega, hS, HC⟩
                  case measure => simp [intOf]; omega
            · obtain rfl : i = n := by omega
              have HC : Hid (P.CL (fun i k => (i, k) ∈ S) S1 (k + 1) 0 0) := hCL.out.phase hlR.out
              clear hCL hli
              go_wp2_with fail
              go_roundw
              case rel => exact ⟨k + 1, S1, by go_num, by omega, hS, HC⟩
              case measure => simp [intOf]; omega
        · obtain rfl : k = n := by omega
          have HC : Hid (∀ e, e ∈ S1 ↔ P.Path (fun i k => (i, k) ∈ S) e.1 e.2) := fun e => hCL.out.fin hlR.out e
          clear hCL hlk
          go_wp2_with fail
          go_ret
          exact ⟨w.heap.size, S1, rfl, hS.s, HC.out, hS.bl, Nat.le_refl _⟩
    · replace hj := Lib.hid hj
      replace hqB := Lib.hid hqB
      go_upto_region 3 with (fail)
      refine no_implicit_lambda% (wp_region_lit ?_)
      refine wpl_run (.tuple #[.bool true, .agg #[.int .i64 q.1, .int .i64 q.2], .bool true]) w' rfl (by go_simp) ?_
      (try simp only [Act.put, Z1, Z2, Z3, Z4, Z5, Z6])
      refine no_implicit_lambda% (wpl_val ?_ rfl ?_ ?_)
      rotate_left
      · (go_simp; (try with_reducible rfl))
      (try simp only [Act.put, Z1, Z2, Z3, Z4, Z5, Z6])
      refine no_implicit_lambda% (wpList_nil ?_)
      clear hrun
      go_upto_region 4 with (fail)
      refine no_implicit_lambda% (wp_region_lit ?_)
      iterate 2
        refine no_implicit_lambda% (wpl_val ?_ rfl ?_ ?_)
        rotate_left
        · (go_simp; (try with_reducible rfl))
        (try simp only [Act.put, Z1, Z2, Z3, Z4, Z5, Z6])
      refine wpl_alloc 72 #[.int .i64 0, .int .i64 0] rfl rfl hz72 ?_
      (try simp only [Act.put, Z1, Z2, Z3, Z4, Z5, Z6])
      refine wpList_store_fr rfl 72 _ _ rfl w'.heap.size #[.int .i64 q.1, .int .i64 q.2] rfl rfl 72 _ (Blk.alloc_new _ _ _) zero72.2 rfl (by simp [Value.oneCell']) ?_
      intro w9 hB9 hF9
      (try simp only [Act.put, Z1, Z2, Z3, Z4, Z5, Z6])
      refine no_implicit_lambda% (wpList_nil ?_)
      clear hent
      have hwl := hIt2.lt
      have hwm := hIt2.map.lt
      have hlo := hlx.out
      have hF8 : Fr (fun k => k = it) wr (w'.alloc (.cells #[.int .i64 0, .int .i64 0] 72)) := hF.alloc _
      have hws := hF.size
      have hS9 : CS w w9 g (.slice ao n cap) w.heap.size S1 := by
        have hsl := hS.s.lt
        have hS' : Fr (fun k => k = it ∨ k = w'.heap.size) wr w9 := (hF8.mono fun i _ e => .inl e).trans hF9 fun i _ e => .inr e
        refine ⟨Fr.below hS.bl hS' (Nat.le_refl _) fun i hi => by omega, ?_, hS.gl, hS.rol, hS.s.fr hS' (by omega)⟩
        have hb := hS'.block g (by have := hS.bl.size; omega) (by omega)
        have := hS.g0
        unfold World.cell? at this ⊢
        simp only [] at this ⊢
        rw [hb]; exact this
      have hIt9 : EdIt w9 it r S (T.eraseIdx j) := (hIt2.fr ((Fr.refl (fun _ => False) w').alloc _) id id).fr hF9 (by omega) (by omega)
      have hlen := Lib.hid (erase_len hj.out)
      have hq1 : q.1 ≤ 1000 ∧ q.2 ≤ 1000 := by have := hlR.out q.1 q.2 hqB.out; omega
      obtain ⟨w5, hup, hS5, hF5⟩ := hS9.put hq1.1 hq1.2
      have hsl5 : w.heap.size ≠ it ∧ w.heap.size ≠ r := by omega
      have hIt5 : EdIt w5 it r S (T.eraseIdx j) := hIt9.fr hF5 (by omega) (by omega)
      have HC : Hid ((T.eraseIdx j).Nodup ∧ ∀ e, e ∈ P.ins S1 q ↔ e ∈ S ∧ e ∉ T.eraseIdx j) := by
        refine ⟨(List.eraseIdx_sublist _ _).nodup hT.out.1, fun e => ?_⟩
        rw [P.mem_ins, hT.out.2, mem_eraseIdx_nd hT.out.1 hj.out]
        constructor
        · rintro (⟨h1, h2⟩ | rfl)
          · exact ⟨h1, fun h => h2 h.1⟩
          · exact ⟨hqB.out, fun h => h.2 rfl⟩
        · rintro ⟨h1, h2⟩
          by_cases e1 : e = q
          · exact .inr e1
          · exact .inl ⟨h1, fun h => h2 ⟨h, e1⟩⟩
      generalize w'.heap.size = bx at *
      clear hS9 hIt9 hF5 hF8 hF9 hF hIt hIt2 hS hT hqB hj
      go_upto_region 5 with (fail)
      refine no_implicit_lambda% (wp_region_lit ?_)
      refine no_implicit_lambda% (wpl_val ?_ rfl ?_ ?_)
      rotate_left
      · (go_simp; (try with_reducible rfl))
      (try simp only [Act.put, Z1, Z2, Z4, Z5, Z6])
      refine wpl_val (.agg #[.int .i64 q.1, .int .i64 q.2]) rfl (run_load_cs rfl rfl hB9 Try.underlying72 rfl zero72.2) ?_
      (try simp only [Act.put, Z1, Z2, Z3, Z4, Z5, Z6])
      refine wpl_law rfl (wp_mapUpdateE rfl rfl rfl rfl hup ?_)
      (try simp only [Act.put, Z1, Z2, Z3, Z4, Z5, Z6])
      refine no_implicit_lambda% (wpList_nil ?_)
      clear hup hB9
      go_wp2_with fail
      go_roundg (T.eraseIdx j).length
      case measure => exact hlen.out
      case rel => exact ⟨T.eraseIdx j, P.ins S1 q, rfl, hIt5, hS5, HC⟩
end Go.Proofs.Ytnemaolbmocncaa
