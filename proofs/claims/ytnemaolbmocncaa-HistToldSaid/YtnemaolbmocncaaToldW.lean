/- The walk of HistTold; what was told, as an argument. -/
import Derived.Test.YtnemaolbmocncaaROfW
import Derived.Test.YtnemaolbmocncaaSameW
import Derived.Test.YtnemaolbmocncaaTurnedW
import Derived.OpenShut
namespace Go.Proofs.Ytnemaolbmocncaa
open Go.RowKit Go.WideShapes Go.Deep Go.ChangeShapes
set_option linter.unusedSimpArgs false
set_option linter.unusedVariables false
attribute [local irreducible] wpList
section
variable {H : Type} {enc : TypeId × Value → H} {w : World}
theorem list77 {cs : List Value} (h : cs.length = 77) : ∃ c0 c1 c2 c3 c4 c5 c6 c7 c8 c9 c10 c11 c12 rest, cs = c0 :: c1 :: c2 :: c3 :: c4 :: c5 :: c6 :: c7 :: c8 :: c9 :: c10 :: c11 :: c12 :: rest ∧ rest.length = 64 := by
  match cs, h with
  | c0 :: c1 :: c2 :: c3 :: c4 :: c5 :: c6 :: c7 :: c8 :: c9 :: c10 :: c11 :: c12 :: rest, h => exact ⟨c0, c1, c2, c3, c4, c5, c6, c7, c8, c9, c10, c11, c12, rest, rfl, by simpa using h⟩
theorem body_cells {fuel : Nat} {cs : List Value} {x : DataW H × List MemPlace} (h : DataW.trod enc Try.prog w 0 (fun _ => true) true fuel 54 cs = some x) (hl : cs.length = 64) : ∀ u ∈ cs, u.oneCell' = true := fun u hu => by
  obtain ⟨xs, m, _, _, _, hx, hall⟩ := DataW.trod_array Try.underlying54 h
  have c5 : Try.prog.cellsOf 5 = 1 := by kernel_rfl
  obtain ⟨i, hi⟩ := List.mem_iff_getElem?.1 hu
  have hil := (List.getElem?_eq_some_iff.1 hi).1
  have h1 := hall i (by omega)
  rw [c5, Nat.mul_one, List.getElem?_eq_getElem (by omega)] at h1
  obtain ⟨n, hn, _⟩ := DataW.trod_int Try.underlying5 h1
  have h2 : (cs.drop i).take 1 = [u] := by
    rw [List.drop_eq_getElem_cons hil, (List.getElem?_eq_some_iff.1 hi).2]; rfl
  rw [h2] at hn
  have h3 : u = .int .u8 n := by simpa using hn
  rw [h3]; rfl
theorem told_cells {fuel : Nat} {cs : List Value} {x : DataW H × List MemPlace} (h : DataW.trod enc Try.prog w 0 (fun _ => true) true fuel 61 cs = some x) : ∃ q : Tr, cs = tdL q ∧ TrOk q := by
  have c61 : Try.prog.cellsOf 61 = 77 := by kernel_rfl
  have c59 : Try.prog.cellsOf 59 = 5 := by kernel_rfl
  have c56 : Try.prog.cellsOf 56 = 67 := by kernel_rfl
  have c54 : Try.prog.cellsOf 54 = 64 := by kernel_rfl
  have c3 : Try.prog.cellsOf 3 = 1 := by kernel_rfl
  have c4 : Try.prog.cellsOf 4 = 1 := by kernel_rfl
  have c5 : Try.prog.cellsOf 5 = 1 := by kernel_rfl
  have c9 : Try.prog.cellsOf 9 = 1 := by kernel_rfl
  have c24 : Try.prog.cellsOf 24 = 1 := by kernel_rfl
  have c32 : Try.prog.cellsOf 32 = 1 := by kernel_rfl
  have c41 : Try.prog.cellsOf 41 = 1 := by kernel_rfl
  have c52 : Try.prog.cellsOf 52 = 1 := by kernel_rfl
  obtain ⟨xs, n, _, _, hl, hlen, hf⟩ := DataW.trod_struct Try.underlying61 h
  have hlen : xs.length = 7 := hlen
  have hg : ∀ i, i < 7 → ∃ y, xs[i]? = some y := fun i hi => ⟨_, List.getElem?_eq_getElem (by omega)⟩
  rw [c61] at hl
  obtain ⟨k0, k1, k2, k3, k4, k5, k6, k7, k8, k9, k10, k11, k12, rest, rfl, hrl⟩ := list77 hl
  have f0' := hf 0 _ rfl
  have f0 : DataW.trod enc Try.prog w 0 (fun _ => true) true n 3 (((k0 :: k1 :: k2 :: k3 :: k4 :: k5 :: k6 :: k7 :: k8 :: k9 :: k10 :: k11 :: k12 :: rest).drop 0).take (Try.prog.cellsOf 3)) = xs[0]? := f0'
  have f1' := hf 1 _ rfl
  have f1 : DataW.trod enc Try.prog w 0 (fun _ => true) true n 59 (((k0 :: k1 :: k2 :: k3 :: k4 :: k5 :: k6 :: k7 :: k8 :: k9 :: k10 :: k11 :: k12 :: rest).drop 1).take (Try.prog.cellsOf 59)) = xs[1]? := f1'
  have f2' := hf 2 _ rfl
  have f2 : DataW.trod enc Try.prog w 0 (fun _ => true) true n 3 (((k0 :: k1 :: k2 :: k3 :: k4 :: k5 :: k6 :: k7 :: k8 :: k9 :: k10 :: k11 :: k12 :: rest).drop 6).take (Try.prog.cellsOf 3)) = xs[2]? := f2'
  have f3' := hf 3 _ rfl
  have f3 : DataW.trod enc Try.prog w 0 (fun _ => true) true n 3 (((k0 :: k1 :: k2 :: k3 :: k4 :: k5 :: k6 :: k7 :: k8 :: k9 :: k10 :: k11 :: k12 :: rest).drop 7).take (Try.prog.cellsOf 3)) = xs[3]? := f3'
  have f4' := hf 4 _ rfl
  have f4 : DataW.trod enc Try.prog w 0 (fun _ => true) true n 3 (((k0 :: k1 :: k2 :: k3 :: k4 :: k5 :: k6 :: k7 :: k8 :: k9 :: k10 :: k11 :: k12 :: rest).drop 8).take (Try.prog.cellsOf 3)) = xs[4]? := f4'
  have f5' := hf 5 _ rfl
  have f5 : DataW.trod enc Try.prog w 0 (fun _ => true) true n 4 (((k0 :: k1 :: k2 :: k3 :: k4 :: k5 :: k6 :: k7 :: k8 :: k9 :: k10 :: k11 :: k12 :: rest).drop 9).take (Try.prog.cellsOf 4)) = xs[5]? := f5'
  have f6' := hf 6 _ rfl
  have f6 : DataW.trod enc Try.prog w 0 (fun _ => true) true n 56 (((k0 :: k1 :: k2 :: k3 :: k4 :: k5 :: k6 :: k7 :: k8 :: k9 :: k10 :: k11 :: k12 :: rest).drop 10).take (Try.prog.cellsOf 56)) = xs[6]? := f6'
  obtain ⟨y0, e0⟩ := hg 0 (by decide)
  obtain ⟨y1, e1⟩ := hg 1 (by decide)
  obtain ⟨y2, e2⟩ := hg 2 (by decide)
  obtain ⟨y3, e3⟩ := hg 3 (by decide)
  obtain ⟨y4, e4⟩ := hg 4 (by decide)
  obtain ⟨y5, e5⟩ := hg 5 (by decide)
  obtain ⟨y6, e6⟩ := hg 6 (by decide)
  rw [e0, show ((k0 :: k1 :: k2 :: k3 :: k4 :: k5 :: k6 :: k7 :: k8 :: k9 :: k10 :: k11 :: k12 :: rest).drop 0).take (Try.prog.cellsOf 3) = [k0] by rw [c3]; rfl] at f0
  rw [e1, show ((k0 :: k1 :: k2 :: k3 :: k4 :: k5 :: k6 :: k7 :: k8 :: k9 :: k10 :: k11 :: k12 :: rest).drop 1).take (Try.prog.cellsOf 59) = [k1, k2, k3, k4, k5] by rw [c59]; rfl] at f1
  rw [e2, show ((k0 :: k1 :: k2 :: k3 :: k4 :: k5 :: k6 :: k7 :: k8 :: k9 :: k10 :: k11 :: k12 :: rest).drop 6).take (Try.prog.cellsOf 3) = [k6] by rw [c3]; rfl] at f2
  rw [e3, show ((k0 :: k1 :: k2 :: k3 :: k4 :: k5 :: k6 :: k7 :: k8 :: k9 :: k10 :: k11 :: k12 :: rest).drop 7).take (Try.prog.cellsOf 3) = [k7] by rw [c3]; rfl] at f3
  rw [e4, show ((k0 :: k1 :: k2 :: k3 :: k4 :: k5 :: k6 :: k7 :: k8 :: k9 :: k10 :: k11 :: k12 :: rest).drop 8).take (Try.prog.cellsOf 3) = [k8] by rw [c3]; rfl] at f4
  rw [e5, show ((k0 :: k1 :: k2 :: k3 :: k4 :: k5 :: k6 :: k7 :: k8 :: k9 :: k10 :: k11 :: k12 :: rest).drop 9).take (Try.prog.cellsOf 4) = [k9] by rw [c4]; rfl] at f5
  rw [e6, show ((k0 :: k1 :: k2 :: k3 :: k4 :: k5 :: k6 :: k7 :: k8 :: k9 :: k10 :: k11 :: k12 :: rest).drop 10).take (Try.prog.cellsOf 56) = k10 :: k11 :: k12 :: rest by
    rw [c56]
    show k10 :: k11 :: k12 :: rest.take 64 = _
    rw [List.take_of_length_le (by omega)]] at f6
  obtain ⟨who, hwho, _⟩ := DataW.trod_int Try.underlying3 f0
  obtain ⟨life, hlife, _, wlife⟩ := DataW.trod_int Try.underlying3 f2
  obtain ⟨frm, hfrm, _⟩ := DataW.trod_int Try.underlying3 f3
  obtain ⟨til, htil, _⟩ := DataW.trod_int Try.underlying3 f4
  obtain ⟨opn, hopn, _⟩ := DataW.trod_bool Try.underlying4 f5
  obtain ⟨zs, n1, _, _, _, hzl, hz⟩ := DataW.trod_struct Try.underlying59 f1
  have hzl : zs.length = 5 := hzl
  have hgz : ∀ i, i < 5 → ∃ y, zs[i]? = some y := fun i hi => ⟨_, List.getElem?_eq_getElem (by omega)⟩
  obtain ⟨z0, d0⟩ := hgz 0 (by decide)
  obtain ⟨z1, d1⟩ := hgz 1 (by decide)
  obtain ⟨z2, d2⟩ := hgz 2 (by decide)
  obtain ⟨z3, d3⟩ := hgz 3 (by decide)
  obtain ⟨z4, d4⟩ := hgz 4 (by decide)
  have g0' := hz 0 _ rfl
  have g0 : DataW.trod enc Try.prog w 0 (fun _ => true) true n1 5 (([k1, k2, k3, k4, k5].drop 0).take (Try.prog.cellsOf 5)) = zs[0]? := g0'
  have g1' := hz 1 _ rfl
  have g1 : DataW.trod enc Try.prog w 0 (fun _ => true) true n1 52 (([k1, k2, k3, k4, k5].drop 1).take (Try.prog.cellsOf 52)) = zs[1]? := g1'
  have g2' := hz 2 _ rfl
  have g2 : DataW.trod enc Try.prog w 0 (fun _ => true) true n1 41 (([k1, k2, k3, k4, k5].drop 2).take (Try.prog.cellsOf 41)) = zs[2]? := g2'
  have g3' := hz 3 _ rfl
  have g3 : DataW.trod enc Try.prog w 0 (fun _ => true) true n1 3 (([k1, k2, k3, k4, k5].drop 3).take (Try.prog.cellsOf 3)) = zs[3]? := g3'
  have g4' := hz 4 _ rfl
  have g4 : DataW.trod enc Try.prog w 0 (fun _ => true) true n1 9 (([k1, k2, k3, k4, k5].drop 4).take (Try.prog.cellsOf 9)) = zs[4]? := g4'
  rw [d0, show ([k1, k2, k3, k4, k5].drop 0).take (Try.prog.cellsOf 5) = [k1] by rw [c5]; rfl] at g0
  rw [d1, show ([k1, k2, k3, k4, k5].drop 1).take (Try.prog.cellsOf 52) = [k2] by rw [c52]; rfl] at g1
  rw [d2, show ([k1, k2, k3, k4, k5].drop 2).take (Try.prog.cellsOf 41) = [k3] by rw [c41]; rfl] at g2
  rw [d3, show ([k1, k2, k3, k4, k5].drop 3).take (Try.prog.cellsOf 3) = [k4] by rw [c3]; rfl] at g3
  rw [d4, show ([k1, k2, k3, k4, k5].drop 4).take (Try.prog.cellsOf 9) = [k5] by rw [c9]; rfl] at g4
  obtain ⟨kind, hkind, _⟩ := DataW.trod_int Try.underlying5 g0
  obtain ⟨txn, htxn, _, wtxn⟩ := DataW.trod_int Try.underlying52 g1
  obtain ⟨page, hpage, _, wpage⟩ := DataW.trod_int Try.underlying41 g2
  obtain ⟨off, hoff, _⟩ := DataW.trod_int Try.underlying3 g3
  obtain ⟨str, hstr, _⟩ := DataW.trod_string Try.underlying9 g4
  obtain ⟨qs, n2, _, _, _, hql, hq⟩ := DataW.trod_struct Try.underlying56 f6
  have hql : qs.length = 4 := hql
  have hgq : ∀ i, i < 4 → ∃ y, qs[i]? = some y := fun i hi => ⟨_, List.getElem?_eq_getElem (by omega)⟩
  obtain ⟨q0, b0⟩ := hgq 0 (by decide)
  obtain ⟨q1, b1⟩ := hgq 1 (by decide)
  obtain ⟨q2, b2⟩ := hgq 2 (by decide)
  obtain ⟨q3, b3⟩ := hgq 3 (by decide)
  have p0' := hq 0 _ rfl
  have p0 : DataW.trod enc Try.prog w 0 (fun _ => true) true n2 24 (((k10 :: k11 :: k12 :: rest).drop 0).take (Try.prog.cellsOf 24)) = qs[0]? := p0'
  have p1' := hq 1 _ rfl
  have p1 : DataW.trod enc Try.prog w 0 (fun _ => true) true n2 52 (((k10 :: k11 :: k12 :: rest).drop 1).take (Try.prog.cellsOf 52)) = qs[1]? := p1'
  have p2' := hq 2 _ rfl
  have p2 : DataW.trod enc Try.prog w 0 (fun _ => true) true n2 32 (((k10 :: k11 :: k12 :: rest).drop 2).take (Try.prog.cellsOf 32)) = qs[2]? := p2'
  have p3' := hq 3 _ rfl
  have p3 : DataW.trod enc Try.prog w 0 (fun _ => true) true n2 54 (((k10 :: k11 :: k12 :: rest).drop 3).take (Try.prog.cellsOf 54)) = qs[3]? := p3'
  rw [b0, show ((k10 :: k11 :: k12 :: rest).drop 0).take (Try.prog.cellsOf 24) = [k10] by rw [c24]; rfl] at p0
  rw [b1, show ((k10 :: k11 :: k12 :: rest).drop 1).take (Try.prog.cellsOf 52) = [k11] by rw [c52]; rfl] at p1
  rw [b2, show ((k10 :: k11 :: k12 :: rest).drop 2).take (Try.prog.cellsOf 32) = [k12] by rw [c32]; rfl] at p2
  rw [b3, show ((k10 :: k11 :: k12 :: rest).drop 3).take (Try.prog.cellsOf 54) = rest by rw [c54]; show rest.take 64 = rest; rw [List.take_of_length_le (by omega)]] at p3
  obtain ⟨err, herr, _⟩ := DataW.trod_int Try.underlying24 p0
  obtain ⟨rtxn, hrtxn, _, wrtxn⟩ := DataW.trod_int Try.underlying52 p1
  obtain ⟨rts, hrts, _, wrts⟩ := DataW.trod_int Try.underlying32 p2
  have hbody := body_cells p3 hrl
  obtain rfl : k0 = .int .i64 who := by simpa using hwho
  obtain rfl : k1 = .int .u8 kind := by simpa using hkind
  obtain rfl : k2 = .int .u64 txn := by simpa using htxn
  obtain rfl : k3 = .int .u16 page := by simpa using hpage
  obtain rfl : k4 = .int .i64 off := by simpa using hoff
  obtain rfl : k5 = .string str := by simpa using hstr
  obtain rfl : k6 = .int .i64 life := by simpa using hlife
  obtain rfl : k7 = .int .i64 frm := by simpa using hfrm
  obtain rfl : k8 = .int .i64 til := by simpa using htil
  obtain rfl : k9 = .bool opn := by simpa using hopn
  obtain rfl : k10 = .int .i64 err := by simpa using herr
  obtain rfl : k11 = .int .u64 rtxn := by simpa using hrtxn
  obtain rfl : k12 = .int .u32 rts := by simpa using hrts
  have hrest : rest = (List.range 64).map fun i => rest.getD i (.bool false) := by
    refine List.ext_getElem? fun i => ?_
    by_cases hi : i < 64
    · rw [List.getElem?_map, List.getElem?_range hi]
      show rest[i]? = some (rest.getD i (.bool false))
      rw [List.getD_eq_getElem?_getD, List.getElem?_eq_getElem (by omega)]; rfl
    · rw [List.getElem?_eq_none (by omega), List.getElem?_eq_none (by simp; omega)]
  refine ⟨⟨.int .i64 who, ⟨kind, txn, page, life, opn, err, rtxn, rts⟩, .int .i64 off, .string str, .int .i64 frm, .int .i64 til, fun i => rest.getD i (.bool false)⟩, ?_, ⟨fun u hu => ?_, wtxn, wpage, wlife, wrtxn, wrts⟩⟩
  · unfold tdL
    rw [← hrest]
  · unfold tdL at hu
    rw [← hrest] at hu
    simp only [List.mem_cons] at hu
    rcases hu with rfl | rfl | rfl | rfl | rfl | rfl | rfl | rfl | rfl | rfl | rfl | rfl | rfl | hu
    all_goals first | rfl | exact hbody u hu
instance : Inhabited Tr := ⟨noT⟩
theorem open_told {r : Reach} {b0 : Nat} {v : Value} {d : DataW H} {p : List MemPlace} (hv : Value.okWide Try.prog w r b0 46 v) (h : DataW.Trod enc Try.prog w 0 (fun _ => true) true 46 v d p) :
    ∃ ao cap, ∃ T : List Tr, v = .slice ao T.length cap ∧ TAt w ao T ∧ (T.length ≤ cap ∧ (ao = none → cap = 0)) ∧ T.length ≤ maxLen := by
  obtain ⟨ao, n, cap, rfl⟩ := okWide_slice Try.underlying46 hv
  obtain ⟨fuel, hf⟩ := h
  obtain ⟨ao', cap', T, hc, hr, hok, hcap, hm⟩ := open_rows Try.underlying46 (show Try.prog.cellsOf 61 = 77 by kernel_rfl) (by decide) tdL TrOk tdL_length told_cells hf
  have hc' : Value.slice ao n cap = .slice ao' T.length cap' := by simpa [Value.cells] using hc
  exact ⟨ao', cap', T, hc', ⟨hr, hok⟩, hcap, hm⟩
end
theorem info61 : (Try.prog.info? 61).map (fun i => (i.zero, i.size, i.bytes)) = some (some (.agg (tdA noT)), 77, 176) := by kernel_rfl
attribute [local irreducible] tdL
set_option maxRecDepth 100000 in
set_option maxHeartbeats 16000000 in
theorem told_walk (ao : Option Addr) (cap : Nat) (T : List Tr) (w : World) (h : TAt w ao T) (hcap : T.length ≤ cap ∧ (ao = none → cap = 0)) (hmx : T.length ≤ maxLen) :
    Calls Try.prog 8 #[.slice ao T.length cap] w fun e w' => e = .returned (.bool true) ∧ Below w.heap.size w w' := by
  obtain ⟨i6, hi6, z6, s6, y6⟩ := info_parts info61
  go_enter Try.func8, Try.ntmps8
  by_cases h2 : T.length ≤ 200
  · have d1 : decide ((200 : Int) < (T.length : Int)) = false := decide_eq_false (by omega)
    have d2 : ¬ (200 : Int) < (T.length : Int) := by omega
    go_upto_region 1 with (fail)
    refine no_implicit_lambda% (wp_region_lit ?_)
    refine no_implicit_lambda% (wpl_val ?_ rfl ?_ ?_)
    rotate_left
    · (go_simp; (try with_reducible rfl))
    (try simp only [Act.put, Z1, Z2, Z4, Z5, Z6])
    refine no_implicit_lambda% (wpl_val ?_ rfl ?_ ?_)
    rotate_left
    · (go_simp; (try with_reducible rfl))
    (try simp only [Act.put, Z1, Z2, Z3, Z4, Z5, Z6])
    refine no_implicit_lambda% (wpl_val ?_ rfl ?_ ?_)
    rotate_left
    · (go_simp; (try with_reducible rfl))
    (try simp only [Act.put, Z1, Z2, Z3, Z4, Z5, Z6])
    refine no_implicit_lambda% (wpList_nil ?_)
    clear d1 d2
    go_upto_region 3 with (fail)
    refine no_implicit_lambda% (wp_region_lit ?_)
    refine wpl_run _ _ rfl (run_build0 rfl Try.underlying46 hi6) ?_
    have hO0 : (w.alloc (.cells #[] 61)).ownsRow w.heap.size 61 77 (.slice (some ⟨w.heap.size, 0, none⟩) 0 0) 0 [] := own0 w w.heap.size 61 77 (Nat.le_refl _)
    have al := (Below.refl w.heap.size w).alloc (Nat.le_refl _) (.cells #[] 61)
    have hT3 := h.below al
    have hs4 := al.size
    (try simp only [Act.put, Z1, Z2, Z3, Z4, Z5, Z6])
    replace al := Lib.hid al
    generalize w.alloc (.cells #[] 61) = W3 at *
    refine no_implicit_lambda% (wpl_val ?_ rfl ?_ ?_)
    rotate_left
    · (go_simp; (try with_reducible rfl))
    (try simp only [Act.put, Z1, Z2, Z3, Z4, Z5, Z6])
    have hfl : (T.flatMap tdL).length = T.length * 77 := flat_length tdL_length T
    refine wpl_law rfl (wp_append_src _ _ 46 rfl w.heap.size 61 i6 _ 77 176 Try.underlying46 hi6 z6 s6 y6 (tdA_size noT) (by decide) (.slice (some ⟨w.heap.size, 0, none⟩) 0 0) 0 [] rfl hO0 (.slice ao T.length cap) T.length (T.flatMap tdL) rfl (RowAt.src tdL_length hT3.row rfl hcap.2 hcap.1 (by decide)) hfl (flat_one fun x hx u hu => (h.ok x hx).one u hu) ?_ ?_ ?_ ?_)
    · unfold maxLen; omega
    · omega
    · omega
    intro v4 W4 own4 gr4 _ hloc4
    have hF4 := Fr.of_grown gr4
    have hS : Below w.heap.size w W4 := Fr.below al.out hF4 (Nat.le_refl _) fun i e => by have e9 : w.heap.size = i := Option.some.inj e; omega
    obtain ⟨ao4, cap4, rfl, hc4, hr4⟩ := own_rowIn (f := tdL) tdL_length (by simpa using own4 : W4.ownsRow w.heap.size 61 77 v4 T.length (T.flatMap tdL))
    have hT4 : TAt W4 ao4 T := ⟨hr4, h.ok⟩
    have hT0 := h.below hS
    clear own4 gr4 hloc4 hF4 hO0 hT3 hfl hs4 al hr4 h
    (try simp only [Act.put, Z1, Z2, Z3, Z4, Z5, Z6])
    have hce := of_any (cap := cap4) hT4 (by omega)
    refine wpl_call _ _ rfl (by go_simp) _ hce ?_
    rintro e w5 ⟨v5, R5, r5, rfl, hO5, hge5, hh5, hl5, hb5⟩
    refine ⟨_, rfl, ?_⟩
    (try simp only [Act.put, Z1, Z2, Z3, Z4, Z5, Z6])
    replace hS := hS.trans (hb5.mono hS.size)
    replace hT0 := hT0.below hb5
    clear hce hb5 hT4 hge5
    clear W4
    obtain ⟨ao5, cap5, rfl, hc5, hH5⟩ := hO5.ownH.at_
    clear hO5
    refine no_implicit_lambda% (wpl_val ?_ rfl ?_ ?_)
    rotate_left
    · (go_simp; (try with_reducible rfl))
    (try simp only [Act.put, Z1, Z2, Z3, Z4, Z5, Z6])
    have hce := rof_any hT0 hcap.1 (by omega)
    refine wpl_call _ _ rfl (by go_simp) _ hce ?_
    rintro e w6 ⟨v6, R6, rfl, hO6, hh6, hl6, hb6⟩
    refine ⟨_, rfl, ?_⟩
    (try simp only [Act.put, Z1, Z2, Z3, Z4, Z5, Z6])
    replace hS := hS.trans (hb6.mono hS.size)
    replace hH5 := hH5.below hb6
    clear hce hb6 hT0
    obtain ⟨ao6, cap6, rfl, hc6, hH6⟩ := hO6.at_
    clear hO6
    clear w5
    have hsm := same_any (cap := cap5) (cap' := cap6) hH5 hH6 (by rw [hh5, hh6, P.hof_rof]) (by omega)
    refine wpl_call _ _ rfl (by go_simp) _ hsm ?_
    rintro e w7 ⟨rfl, hb7⟩
    refine ⟨_, rfl, ?_⟩
    (try simp only [Act.put, Z1, Z2, Z3, Z4, Z5, Z6])
    replace hS := hS.trans (hb7.mono hS.size)
    clear hsm hb7 hH5 hH6 hh5 hh6
    clear w6
    refine no_implicit_lambda% (wpl_val ?_ rfl ?_ ?_)
    rotate_left
    · (go_simp; (try with_reducible rfl))
    (try simp only [Act.put, Z1, Z2, Z3, Z4, Z5, Z6])
    refine wpl_call _ _ rfl (by go_simp) _ (awake_any w7) ?_
    rintro e w9 ⟨rfl, hb9⟩
    refine ⟨_, rfl, ?_⟩
    (try simp only [Act.put, Z1, Z2, Z3, Z4, Z5, Z6])
    replace hS := hS.trans (hb9.mono hS.size)
    iterate 2
      refine no_implicit_lambda% (wpl_val ?_ rfl ?_ ?_)
      rotate_left
      · (go_simp; (try with_reducible rfl))
      (try simp only [Act.put, Z1, Z2, Z3, Z4, Z5, Z6])
    refine no_implicit_lambda% (wpList_nil ?_)
    go_wp2_with fail
    go_ret
    exact ⟨rfl, hS⟩
  · have d1 : decide ((200 : Int) < (T.length : Int)) = true := decide_eq_true (by omega)
    have d2 : (200 : Int) < (T.length : Int) := by omega
    go_upto_region 1 with (fail)
    refine no_implicit_lambda% (wp_region_lit ?_)
    refine no_implicit_lambda% (wpl_val ?_ rfl ?_ ?_)
    rotate_left
    · (go_simp; (try with_reducible rfl))
    (try simp only [Act.put, Z1, Z2, Z4, Z5, Z6])
    refine no_implicit_lambda% (wpl_val ?_ rfl ?_ ?_)
    rotate_left
    · (go_simp; (try with_reducible rfl))
    (try simp only [Act.put, Z1, Z2, Z3, Z4, Z5, Z6])
    refine no_implicit_lambda% (wpl_val ?_ rfl ?_ ?_)
    rotate_left
    · (go_simp; (try with_reducible rfl))
    (try simp only [Act.put, Z1, Z2, Z3, Z4, Z5, Z6])
    refine no_implicit_lambda% (wpList_nil ?_)
    clear d1 d2
    go_upto_region 2 with (fail)
    refine no_implicit_lambda% (wp_region_lit ?_)
    refine wpl_call _ _ rfl (by go_simp) _ (awake_any w) ?_
    rintro e w9 ⟨rfl, hb9⟩
    refine ⟨_, rfl, ?_⟩
    (try simp only [Act.put, Z1, Z2, Z3, Z4, Z5, Z6])
    refine no_implicit_lambda% (wpl_val ?_ rfl ?_ ?_)
    rotate_left
    · (go_simp; (try with_reducible rfl))
    (try simp only [Act.put, Z1, Z2, Z3, Z4, Z5, Z6])
    refine no_implicit_lambda% (wpList_nil ?_)
    go_wp2_with fail
    go_ret
    exact ⟨rfl, hb9⟩
end Go.Proofs.Ytnemaolbmocncaa
