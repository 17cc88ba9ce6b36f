/- The walk of ClockFair. -/
import Derived.Test.YtbibfoahlieccaaPinsW
import Derived.Test.YtbibfoahlieccaaP3
import Derived.Deep.DeepCutAuto
import Derived.Maps.AppendAt
namespace Go.Proofs.Ytbibfoahlieccaa
open Go.RowKit
set_option linter.unusedSimpArgs false
set_option linter.unusedVariables false
def cnt0 (r i : Nat) : Nat := if r = 0 then 0 else i
theorem cnt0_pos {r i : Nat} (h : r ≠ 0) : cnt0 r i = i := if_neg h
def iv (x : Int) : Value := .int .i64 x
/-- A list of frames as cells. -/
def vl (f : Nat → Nat) (i : Nat) : List Value := (List.range i).map fun j => iv (f j)
theorem vl_length (f : Nat → Nat) (i : Nat) : (vl f i).length = i := by simp [vl]
theorem vl_get {f : Nat → Nat} {i j : Nat} (h : j < i) : (vl f i)[j]? = some (.int .i64 (f j)) := by simp [vl, h, iv]
theorem vl_succ (f : Nat → Nat) (i : Nat) : vl f (i + 1) = vl f i ++ [iv (f i)] := by simp [vl, List.range_succ]
theorem LS.vic {w0 w w' : World} {b : Bl} {n : Nat} {C : P.Ck} {m : Nat} (h : LS w0 w b n C m) (hT : Turned b n w (P.vic n C).1 w') : LS w0 w' b n (P.vic n C).1 m :=
  ⟨Fr.below h.below hT.2 (Nat.le_refl _) h.base, hT.1, P.ok_vic h.ok, h.base⟩
theorem LS.grown {w0 w w' : World} {b : Bl} {n : Nat} {C : P.Ck} {m : Nat} {r : Option Nat} (h : LS w0 w b n C m) (g : w.grownBy w' r) (h0 : ∀ i, r = some i → w0.heap.size ≤ i ∧ ¬ b.foot i) : LS w0 w' b n C m :=
  ⟨h.below.grown g h.below.size fun i hi => (h0 i hi).1, h.cs.fr (Fr.of_grown g) fun i hi e => (h0 i e).2 hi, h.ok, h.base⟩
theorem cold_nat {w : World} {b : Bl} {n : Nat} {C : P.Ck} (h : CS w b n C) (k : Nat) (hk : k < n) (is : Bool) :
    Calls Try.prog 15 #[.pointer (some ⟨b.c, 0, none⟩), .int .i64 k, .bool is] w fun e w' => e = .returned (.tuple #[]) ∧ Turned b n w { C with cold := P.upd C.cold k is } w' := cold_in h k hk is
/-- A list in a row of the law's own. -/
structure RowL (w : World) (b : Bl) (v : Value) (B i : Nat) (f : Nat → Nat) : Prop where
  own : w.ownsRow B 3 1 v i (vl f i)
  ne : ∀ g, v.ownBlock = some g → ¬ b.foot g
theorem RowL.go {w w' : World} {b : Bl} {v : Value} {B i : Nat} {f : Nat → Nat} (h : RowL w b v B i f) (k : Fr b.foot w w') : RowL w' b v B i f := ⟨own_fr h.own k h.ne, h.ne⟩
theorem RowL.app {W w' : World} {b : Bl} {l f v' : Value} {B c n1 : Nat} {vf : Nat → Nat} (hl : RowL W b l B c vf) (hf : RowL W b f B n1 vf) (hne : ∀ g, l.ownBlock = some g → f.ownBlock ≠ some g) (hlt : ∀ i, b.foot i → i < W.heap.size) (o : Obj)
    (own : w'.ownsRow B 3 1 v' (c + 1) (vl vf c ++ [iv (vf c)])) (g : (W.alloc o).grownBy w' l.ownBlock) (hloc : v'.ownBlock = l.ownBlock ∨ v'.ownBlock = some (W.heap.size + 1)) :
    RowL w' b v' B (c + 1) vf ∧ RowL w' b f B n1 vf ∧ ∀ g, v'.ownBlock = some g → f.ownBlock ≠ some g := by
  refine ⟨⟨by rw [vl_succ]; exact own, fun g hg hfo => ?_⟩, ⟨own_fr (hf.own.alloc o) (Fr.of_grown g) fun i hi e => hne i e hi, hf.ne⟩, fun g hg e => ?_⟩
  · rcases hloc with h | h
    · exact hl.ne g (by rw [← h]; exact hg) hfo
    · rw [h] at hg; have hg' : W.heap.size + 1 = g := Option.some.inj hg; have := hlt g hfo; omega
  · rcases hloc with h | h
    · exact hne g (by rw [← h]; exact hg) e
    · rw [h] at hg; have hg' : W.heap.size + 1 = g := Option.some.inj hg; have := (hf.own.lt g e).2; omega
set_option maxRecDepth 100000 in
set_option maxHeartbeats 4000000 in
theorem fair_walk (x : Int) (hx : 0 ≤ x ∧ x ≤ 255) (ao : Option Addr) (n cap : Nat) (K I : Nat → Int) (S : Nat → Bool) (w : World) (h : OpsAt w ao n K I S) (hn : n ≤ maxLen) :
    Calls Try.prog 6 #[.int .u8 x, .slice ao n cap] w fun e w' => e = .returned (.bool true) ∧ Below w.heap.size w w' := by
  unfold maxLen at hn
  have HO := Lib.hid h
  clear h
  obtain ⟨x0, x1⟩ := hx
  obtain ⟨q1, q2, q3⟩ := kOf_b x x0
  have hq : IntKind.i64.wrap (1 + x % 12) = (kOf x : Int) := by rw [q3]; exact IntWalk.i64_in _ (by omega)
  have HQ := Lib.hid q3
  generalize kOf x = k at *
  clear q3
  obtain ⟨i3, hi3, hz0, hz1, hz2⟩ := info_parts info3
  go_enter Try.func6, Try.ntmps6
  go_wp2_with fail
  refine (new_in k w q1 (by omega)).mono ?_
  rintro e w1 ⟨b, rfl, hC, hB, hL⟩
  have HST := Lib.hid (⟨hB, hC, P.ok_new q1, hL⟩ : LS w w1 b k P.new 0)
  clear hC hB hL
  go_wp2_with fail
  go_loopw [7] (fun i wr => ∃ m : Nat, i = .int .i64 m ∧ m ≤ 60 ∧ m ≤ n ∧ ∃ C, LS w wr b k C m) (fun i _ => n - (intOf i).toNat)
  case atStart => exact ⟨0, rfl, by omega, by omega, _, HST.out⟩
  case round =>
    clear HST
    obtain ⟨m, rfl, hm, hmn, C, hC⟩ := hrel
    by_cases hlt : (m : Int) < n ∧ (m : Int) < 60
    · obtain ⟨hl1, hl2⟩ := hlt
      obtain ⟨sb, so, rfl, hsb, c0, c1, c2⟩ := HO.out.at_ m (by omega)
      have d0 : wr.cell? ⟨sb, so + m * 3, none⟩ = some (.int .i64 (K m)) := by rw [hC.below.cell hsb]; exact c0
      have d1 : wr.cell? ⟨sb, so + m * 3 + 1, none⟩ = some (.int .i64 (I m)) := by rw [hC.below.cell hsb]; exact c1
      have d2 : wr.cell? ⟨sb, so + m * 3 + 2, none⟩ = some (.bool (S m)) := by rw [hC.below.cell hsb]; exact c2
      clear c0 c1 c2
      go_wp2_with fail
      refine (do_any hC.cs (K m) (I m) (S m) (hC.pin (by omega))).mono ?_
      rintro e w2 ⟨rfl, hT⟩
      have hC2 := hC.step hT (P.ok_stp hC.ok (K m) (I m) (S m))
      clear d0 d1 d2 hT
      go_wp2_with fail
      go_roundw
      case rel => exact ⟨m + 1, by go_num, by omega, by omega, _, hC2⟩
      case measure => simp [intOf]; omega
    · have hC' : LS w wr b k C 60 := ⟨hC.below, hC.cs, hC.ok.mono hm, hC.base⟩
      have hor : (n : Int) ≤ m ∨ ((m : Int) < n ∧ (60 : Int) ≤ m) := by omega
      have HC := Lib.hid hC'
      clear hlt hC hC'
      rcases hor with h1 | ⟨h1, h2⟩
      all_goals
        go_wp2_with fail
        -- the frames are cold no more, and those that nobody holds are counted
        go_loopw [9, 8] (fun j f wq => ∃ (q : Nat) (D : P.Ck), j = .int .i64 q ∧ q ≤ k ∧ f = .int .i64 (P.fc C.pins q) ∧ P.fc C.pins q ≤ q ∧ LS w wq b k D 60 ∧ Hid (D.pins = C.pins) ∧ Hid (∀ j, j < q → D.cold j = false)) (fun j _ _ => k - (intOf j).toNat)
        case atStart => exact ⟨0, C, rfl, by omega, rfl, Nat.zero_le _, HC.out, rfl, fun j hj => by omega⟩
        case round =>
          clear HC
          obtain ⟨q, D, rfl, hq', rfl, hfq, hD, hDp, hDc⟩ := hrel
          by_cases hlq : q < k
          · go_wp2_with fail
            refine (cold_nat hD.cs q hlq false).mono ?_
            rintro e w2 ⟨rfl, hT⟩
            have hD2 : LS w w2 b k { D with cold := P.upd D.cold q false } 60 := ⟨Fr.below hD.below hT.2 (Nat.le_refl _) hD.base, hT.1, ⟨hD.ok.h, hD.ok.lo, hD.ok.hi⟩, hD.base⟩
            have hDc2 : Hid (∀ j, j < q + 1 → (P.upd D.cold q false) j = false) := fun j hj => by
              unfold P.upd; split
              · rfl
              · exact hDc.out j (by omega)
            have cp := pins_nat hD2.cs q hlq
            rw [show ({ D with cold := P.upd D.cold q false } : P.Ck).pins q = C.pins q by show D.pins q = _; rw [hDp.out]] at cp
            clear hT
            go_wp2_with fail
            refine cp.mono ?_
            rintro e w3 ⟨rfl, rfl⟩
            by_cases hz : C.pins q = 0
            · have hfs : Hid (P.fc C.pins (q + 1) = P.fc C.pins q + 1) := by unfold Hid; show _ + _ = _; rw [if_pos hz]
              have hb : (C.pins q == 0) = true := by simp [hz]
              clear hz
              go_wp2_with fail
              go_roundw
              case rel => exact ⟨q + 1, _, by go_num, by omega, by rw [hfs.out]; go_num, by rw [hfs.out]; omega, hD2, hDp, hDc2⟩
              case measure => simp [intOf]; omega
            · have hfs : Hid (P.fc C.pins (q + 1) = P.fc C.pins q) := by unfold Hid; show _ + _ = _; rw [if_neg hz]; rfl
              have hb : (C.pins q == 0) = false := by simp [hz]
              clear hz
              go_wp2_with fail
              go_roundw
              case rel => exact ⟨q + 1, _, by go_num, by omega, by rw [hfs.out], by rw [hfs.out]; omega, hD2, hDp, hDc2⟩
              case measure => simp [intOf]; omega
          · obtain rfl : q = k := by omega
            rw [← hDp.out] at hfq ⊢
            have hFD := hfq
            generalize hF : P.fc D.pins q = F at *
            have HD := Lib.hid (And.intro hD (And.intro hF hDc))
            have hpos : 0 < F → ∃ j, j < q ∧ D.pins j = 0 := fun h => P.fc_pos (by rw [hF]; exact h)
            have HPOS := Lib.hid hpos
            clear hpos hF hD hDc
            go_wp2_with fail
            go_loopw [10] (fun j wq => ∃ (i T : Nat) (E : P.Ck), j = .int .i64 i ∧ i ≤ F ∧ LS w wq b q E 60 ∧ Hid (E.pins = D.pins) ∧ Hid (E.cold = D.cold) ∧ P.Ph1 q E D.h T i) (fun j _ => F - (intOf j).toNat)
            case atStart => exact ⟨0, 0, D, rfl, by omega, HD.out.1, rfl, rfl, P.ph1_start HD.out.1.ok⟩
            case round =>
              obtain ⟨i, T, E, rfl, hi, hE, hEp, hEc, hPh⟩ := hrel
              by_cases hli : i < F
              · go_wp2_with fail
                refine (victim_any hE.cs hE.ok.lo).mono ?_
                rintro e w2 ⟨rfl, hT⟩
                obtain ⟨T', hPh', hp', hc'⟩ := P.ph1_step hE.ok (fun j hj => by rw [hEc.out]; exact HD.out.2.2.out j hj) (by rw [hEp.out]; exact HPOS.out (by omega)) hPh
                have hE2 := hE.vic hT
                clear hT
                go_wp2_with fail
                go_roundw
                case rel => exact ⟨i + 1, T', _, by go_num, by omega, hE2, hp'.trans hEp.out, hc'.trans hEc.out, hPh'⟩
                case measure => simp [intOf]; omega
              · obtain rfl : i = F := by omega
                have hcl := P.ph1_end HD.out.1.ok.h (by rw [hEp.out, HD.out.2.1]; exact hPh)
                have hS := P.ph2_start hE.ok hcl
                have HE := Lib.hid (And.intro hE (And.intro hEp.out (And.intro hEc.out hS)))
                have hF' : P.fc E.pins q = i := by rw [hEp.out]; exact HD.out.2.1
                have HFF := Lib.hid hF'
                have hh1 := hE.ok.h
                generalize hh : E.h = h1 at *
                have HR0 : Hid (RowL wr b (.slice none 0 0) w.heap.size 0 (P.vf q D.pins h1)) := ⟨World.ownsRow_nil _ _ _ _, fun g hg => by cases hg⟩
                clear hcl hS hF' hh hE hPh
                go_wp2_with fail
                go_loopw [12, 11] (fun j f wq => ∃ (r T : Nat) (G : P.Ck), j = .int .i64 r ∧ r ≤ 3 ∧ LS w wq b q G 60 ∧ Hid (G.pins = D.pins) ∧ Hid (G.cold = D.cold) ∧ P.Ph2 q G h1 T (r * i) ∧ RowL wq b f w.heap.size (cnt0 r i) (P.vf q D.pins h1)) (fun j _ _ => 3 - (intOf j).toNat)
                case atStart => exact ⟨0, 0, E, rfl, by omega, HE.out.1, HE.out.2.1, HE.out.2.2.1, by rw [Nat.zero_mul]; exact HE.out.2.2.2, HR0.out⟩
                case round =>
                  clear HE HR0
                  obtain ⟨r, T, G, rfl, hr, hG, hGp, hGc, hPh, hf⟩ := hrel
                  by_cases hlr : (r : Int) < 3
                  · have HG := Lib.hid (And.intro hG (And.intro hGp (And.intro hGc (And.intro hPh hf))))
                    clear hG hGp hGc hPh hf
                    go_wp2_with fail
                    have H0 : Hid (RowL wr b (.slice none 0 0) w.heap.size 0 (P.vf q D.pins h1)) := ⟨World.ownsRow_nil _ _ _ _, fun g hg => by cases hg⟩
                    go_loopw [14, 13] (fun j f wq => ∃ (c T : Nat) (G : P.Ck), j = .int .i64 c ∧ c ≤ i ∧ LS w wq b q G 60 ∧ Hid (G.pins = D.pins) ∧ Hid (G.cold = D.cold) ∧ P.Ph2 q G h1 T (r * i + c) ∧ RowL wq b f w.heap.size c (P.vf q D.pins h1) ∧ RowL wq b u11 w.heap.size (cnt0 r i) (P.vf q D.pins h1) ∧ Hid (∀ g, f.ownBlock = some g → u11.ownBlock ≠ some g)) (fun j _ _ => i - (intOf j).toNat)
                    case atStart => exact ⟨0, T, G, rfl, by omega, HG.out.1, HG.out.2.1, HG.out.2.2.1, by rw [Nat.add_zero]; exact HG.out.2.2.2.1, H0.out, HG.out.2.2.2.2, fun g hg => by cases hg⟩
                    case round =>
                      clear HG H0
                      obtain ⟨c, T, G, rfl, hc, hG, hGp, hGc, hPh, hl, hf, hne⟩ := hrel
                      by_cases hlc : c < i
                      · obtain ⟨t, ht1, ht2, ht3, ht4, ht5, ht6, ht7⟩ := P.ph2_step hG.ok (fun j hj => by rw [hGc.out]; exact HD.out.2.2.out j hj) (by rw [hGp.out]; exact HPOS.out (by omega)) hPh
                        have hFq : P.fc D.pins q = i := HD.out.2.1
                        have hv : P.pos q h1 t = P.vf q D.pins h1 c := by
                          rw [hGp.out] at ht1 ht2
                          exact P.vf_of hh1 (by rw [hFq]; exact hlc) ht1 (by rw [ht2, hFq])
                        rw [hv] at ht4
                        have HT := Lib.hid (And.intro ht3 (And.intro (ht6.trans hGp.out) (ht7.trans hGc.out)))
                        have hvar := victim_any hG.cs hG.ok.lo
                        rw [ht4, ht5] at hvar
                        have HINJ : Hid (∀ j, j < c → P.vf q D.pins h1 j ≠ P.vf q D.pins h1 c) := fun j hj e => by
                          have := P.vf_inj hh1 (by rw [hFq]; omega) (by rw [hFq]; exact hlc) e
                          omega
                        obtain ⟨al, cl, hsl⟩ := own_slice hl.own
                        subst hsl
                        clear ht1 ht2 ht3 ht4 ht5 ht6 ht7 hFq hv hGp hGc hPh
                        go_wp2_with fail
                        refine hvar.mono ?_
                        rintro e w2 ⟨rfl, hT⟩
                        have hG2 := hG.vic hT
                        have hl2 := hl.go hT.2
                        have hf2 := hf.go hT.2
                        clear hvar hG hl hf hT
                        have HCC : Hid (∀ d, d < c → ∃ gl, al = some ⟨gl, 0, none⟩ ∧ w2.cell? ⟨gl, d, none⟩ = some (.int .i64 (P.vf q D.pins h1 d))) := fun d hd => by
                          rcases own_cases hl2.own with ⟨he, h0, _⟩ | ⟨gl, cl', he, _, _, _, _, hcc, _⟩
                          · omega
                          · injection he with e1 e2 e3
                            exact ⟨gl, e1, (hcc d hd).trans (vl_get hd)⟩
                        go_wp2_with fail
                        go_loop [83] (fun j => ∃ d : Nat, j = .int .i64 d ∧ d ≤ c) (fun j => c - (intOf j).toNat)
                        case atStart => exact ⟨0, rfl, by omega⟩
                        case round =>
                          obtain ⟨d, rfl, hd⟩ := hrel
                          by_cases hld : d < c
                          · obtain ⟨gl, rfl, cv⟩ := HCC.out d hld
                            have hb : ((P.vf q D.pins h1 d : Int) == (P.vf q D.pins h1 c : Int)) = false := by
                              rw [beq_eq_false_iff_ne]; intro e; exact HINJ.out d hld (by omega)
                            have hb2 : ¬ P.vf q D.pins h1 d = P.vf q D.pins h1 c := HINJ.out d hld
                            go_wp2_with fail
                            exact ⟨⟨d + 1, by go_num, by omega⟩, by simp [intOf]; omega⟩
                          · obtain rfl : c = d := by omega
                            go_wp2_with (at_builtin; go_loud (refine wpList_append_own_at _ rfl _ _ 42 rfl w.heap.size 3 i3 (.int .i64 0) 1 8 Try.underlying42 hi3 hz0 hz1 hz2 rfl (by decide) _ _ _ rfl (hl2.own.alloc _) ⟨w2.heap.size, 0, none⟩ 1 1 [.int .i64 (P.vf q D.pins h1 c)] rfl rfl (cell_one_new _ _ _) (ints_oneCell .i64 [(P.vf q D.pins h1 c : Int)]) ?c1 ?c2 ?c3 ?_))
                            case c1 => unfold maxLen; omega
                            case c2 => omega
                            case c3 => have := hG2.below.size; simp; omega
                            intro v' w3 own3 gr3 _ hloc3
                            have hG3 := (hG2.go ((Below.refl _ w2).alloc (Nat.le_refl _) (.cells #[.int .i64 (P.vf q D.pins h1 c)] 3))).grown gr3 fun g hg => ⟨(hl2.own.lt g hg).1, hl2.ne g hg⟩
                            obtain ⟨hl3, hf3, hne3⟩ := hl2.app hf2 hne.out hG2.cs.lt _ own3 gr3 hloc3
                            have HX := Lib.hid (And.intro hG3 (And.intro hl3 (And.intro hf3 hne3)))
                            clear hG2 hl2 hf2 own3 gr3 hloc3 hG3 hl3 hf3 hne3
                            go_wp2_with fail
                            go_roundw
                            case rel => exact ⟨c + 1, t + 1, _, by go_num, by omega, HX.out.1, HT.out.2.1, HT.out.2.2, by rw [← Nat.add_assoc]; exact HT.out.1, HX.out.2.1, HX.out.2.2.1, HX.out.2.2.2⟩
                            case measure => simp [intOf]; omega
                      · obtain rfl : i = c := by omega
                        have hnr : r * i + i = (r + 1) * i := by rw [Nat.succ_mul]
                        rw [hnr] at hPh
                        have HX := Lib.hid (And.intro hG (And.intro hGp (And.intro hGc (And.intro hPh hl))))
                        obtain ⟨al, cl, hsl⟩ := own_slice hl.own
                        subst hsl
                        obtain ⟨af, cf, hsf⟩ := own_slice hf.own
                        have HCC : Hid (∀ d, d < i → ∃ gl, al = some ⟨gl, 0, none⟩ ∧ wr.cell? ⟨gl, d, none⟩ = some (.int .i64 (P.vf q D.pins h1 d))) := fun d hd => by
                          rcases own_cases hl.own with ⟨he, h0, _⟩ | ⟨gl, cl', he, _, _, _, _, hcc, _⟩
                          · omega
                          · injection he with e1 e2 e3
                            exact ⟨gl, e1, (hcc d hd).trans (vl_get hd)⟩
                        have HCF : Hid (r ≠ 0 → ∀ d, d < i → ∃ gf, af = some ⟨gf, 0, none⟩ ∧ wr.cell? ⟨gf, d, none⟩ = some (.int .i64 (P.vf q D.pins h1 d))) := fun hr0 d hd => by
                          have ho := hf.own
                          rw [cnt0_pos hr0, hsf] at ho
                          rcases own_cases ho with ⟨he, h0, _⟩ | ⟨gl, cl', he, _, _, _, _, hcc, _⟩
                          · omega
                          · injection he with e1 e2 e3
                            exact ⟨gl, e1, (hcc d hd).trans (vl_get hd)⟩
                        have hlt3 : ∀ g, (∃ d, d < i ∧ (wr.cell? ⟨g, d, none⟩).isSome = true) → g < wr.heap.size := fun g ⟨d, _, hd⟩ => by
                          obtain ⟨v, hv⟩ := Option.isSome_iff_exists.1 hd
                          exact World.block_lt_of_cell? wr ⟨g, d, none⟩ hv
                        have HLT := Lib.hid hlt3
                        clear hlt3 hnr hPh hl hG hGp hGc hf
                        obtain ⟨wo, rfl⟩ : ∃ wo : World, wo = wr := ⟨_, rfl⟩
                        by_cases hr0 : r = 0
                        · have hrb : decide ((0 : Int) < (r : Int)) = false := by simp [hr0]
                          clear hsf HCF
                          replace hr0 := Lib.hid hr0
                          go_wp2_with fail
                          go_loopw [97] (fun j wq => ∃ d : Nat, j = .int .i64 d ∧ d ≤ i ∧ Below wo.heap.size wo wq) (fun j _ => i - (intOf j).toNat)
                          case atStart => exact ⟨0, rfl, by omega, Below.refl _ _⟩
                          case round =>
                            obtain ⟨d, rfl, hd, hbq⟩ := hrel
                            by_cases hld : d < i
                            · go_wp2_with fail
                              refine wp_region_held (S := (fun _ => True)) (by kernel_rfl) ?_
                              change wpAnyH _ _ _ _ _ _ _ _ wr.drew
                              (try simp only [Act.put])
                              have hS : True := trivial
                              refine anyH_pure 0 _ ?_ rfl (by kernel_rfl) (by kernel_rfl) (by kernel_rfl) (fun _ _ _ h => h) rfl ?_ hS ?_
                              rotate_left
                              · (intro w'; go_simp; (try with_reducible rfl))
                              (try simp only [Act.put, List.getElem_toArray, List.getElem_cons_zero, List.setIfInBounds_toArray, List.set_cons_zero, List.set_cons_succ])
                              refine anyH_pure 1 _ (.bool false) rfl (by kernel_rfl) (by kernel_rfl) (by kernel_rfl) (fun _ _ _ h => h) rfl ?_ hS ?_
                              · (intro w'; go_simp; (try exact hr0.out); (try omega))
                              (try simp only [Act.put, List.getElem_toArray, List.getElem_cons_zero, List.getElem_cons_succ, List.setIfInBounds_toArray, List.set_cons_zero, List.set_cons_succ])
                              refine anyH_pure 2 _ ?_ rfl (by kernel_rfl) (by kernel_rfl) (by kernel_rfl) (fun _ _ _ h => h) rfl ?_ hS ?_
                              rotate_left
                              · (intro w'; go_simp; (try with_reducible rfl))
                              (try simp only [Act.put, List.getElem_toArray, List.getElem_cons_zero, List.getElem_cons_succ, List.setIfInBounds_toArray, List.set_cons_zero, List.set_cons_succ])
                              refine anyH_skip 3 _ rfl (by kernel_rfl) (by kernel_rfl) (by kernel_rfl) (fun _ _ _ h => h) rfl hS ?_
                              (try simp only [Act.put, List.getElem_toArray, List.getElem_cons_zero, List.getElem_cons_succ, List.setIfInBounds_toArray, List.set_cons_zero, List.set_cons_succ])
                              refine anyH_skip 4 _ rfl (by kernel_rfl) (by kernel_rfl) (by kernel_rfl) (fun _ _ _ h => h) rfl hS ?_
                              (try simp only [Act.put, List.getElem_toArray, List.getElem_cons_zero, List.getElem_cons_succ, List.setIfInBounds_toArray, List.set_cons_zero, List.set_cons_succ])
                              refine anyH_skip 5 _ rfl (by kernel_rfl) (by kernel_rfl) (by kernel_rfl) (fun _ _ _ h => h) rfl hS ?_
                              (try simp only [Act.put, List.getElem_toArray, List.getElem_cons_zero, List.getElem_cons_succ, List.setIfInBounds_toArray, List.set_cons_zero, List.set_cons_succ])
                              refine anyH_skip 6 _ rfl (by kernel_rfl) (by kernel_rfl) (by kernel_rfl) (fun _ _ _ h => h) rfl hS ?_
                              (try simp only [Act.put, List.getElem_toArray, List.getElem_cons_zero, List.getElem_cons_succ, List.setIfInBounds_toArray, List.set_cons_zero, List.set_cons_succ])
                              refine anyH_skip 7 _ rfl (by kernel_rfl) (by kernel_rfl) (by kernel_rfl) (fun _ _ _ h => h) rfl hS ?_
                              (try simp only [Act.put, List.getElem_toArray, List.getElem_cons_zero, List.getElem_cons_succ, List.setIfInBounds_toArray, List.set_cons_zero, List.set_cons_succ])
                              refine anyH_skip 8 _ rfl (by kernel_rfl) (by kernel_rfl) (by kernel_rfl) (fun _ _ _ h => h) rfl hS ?_
                              (try simp only [Act.put, List.getElem_toArray, List.getElem_cons_zero, List.getElem_cons_succ, List.setIfInBounds_toArray, List.set_cons_zero, List.set_cons_succ])
                              refine anyH_skip 9 _ rfl (by kernel_rfl) (by kernel_rfl) (by kernel_rfl) (fun _ _ _ h => h) rfl hS ?_
                              (try simp only [Act.put, List.getElem_toArray, List.getElem_cons_zero, List.getElem_cons_succ, List.setIfInBounds_toArray, List.set_cons_zero, List.set_cons_succ])
                              refine anyH_skip 10 _ rfl (by kernel_rfl) (by kernel_rfl) (by kernel_rfl) (fun _ _ _ h => h) rfl hS ?_
                              (try simp only [Act.put, List.getElem_toArray, List.getElem_cons_zero, List.getElem_cons_succ, List.setIfInBounds_toArray, List.set_cons_zero, List.set_cons_succ])
                              refine anyH_skip 11 _ rfl (by kernel_rfl) (by kernel_rfl) (by kernel_rfl) (fun _ _ _ h => h) rfl hS ?_
                              (try simp only [Act.put, List.getElem_toArray, List.getElem_cons_zero, List.getElem_cons_succ, List.setIfInBounds_toArray, List.set_cons_zero, List.set_cons_succ])
                              refine anyH_pure 12 _ ?_ rfl (by kernel_rfl) (by kernel_rfl) (by kernel_rfl) (fun _ _ _ h => h) rfl ?_ hS ?_
                              rotate_left
                              · (intro w'; go_simp; (try with_reducible rfl))
                              (try simp only [Act.put, List.getElem_toArray, List.getElem_cons_zero, List.getElem_cons_succ, List.setIfInBounds_toArray, List.set_cons_zero, List.set_cons_succ])
                              refine wpAnyH_done (by kernel_rfl) ?_ _
                              have hbq2 := hbq.drew
                              clear hbq
                              go_wp2_with fail
                              go_roundw
                              case rel => exact ⟨d + 1, by go_num, by omega, hbq2⟩
                              case measure => simp [intOf]; omega
                            · obtain rfl : i = d := by omega
                              have HY := Lib.hid (And.intro (HX.out.1.go hbq) (HX.out.2.2.2.2.go (Fr.of_below hbq _)))
                              clear hbq
                              go_wp2_with fail
                              go_roundw
                              case rel => exact ⟨r + 1, T, G, by go_num, by omega, HY.out.1, HX.out.2.1, HX.out.2.2.1, HX.out.2.2.2.1, by rw [cnt0_pos (Nat.succ_ne_zero r)]; exact HY.out.2⟩
                              case measure => simp [intOf]; omega
                        · have hrb : decide ((0 : Int) < (r : Int)) = true := by simp; omega
                          have hfs : cnt0 r i = i := cnt0_pos hr0
                          rw [hfs] at hsf
                          subst hsf
                          have HR0 := Lib.hid hr0
                          clear hr0 hfs
                          go_wp2_with fail
                          go_loopw [97] (fun j wq => ∃ d : Nat, j = .int .i64 d ∧ d ≤ i ∧ Below wo.heap.size wo wq) (fun j _ => i - (intOf j).toNat)
                          case atStart => exact ⟨0, rfl, by omega, Below.refl _ _⟩
                          case round =>
                            obtain ⟨d, rfl, hd, hbq⟩ := hrel
                            by_cases hld : d < i
                            · obtain ⟨gl, rfl, cv⟩ := HCC.out d hld
                              obtain ⟨gf, rfl, cu⟩ := HCF.out HR0.out d hld
                              have cv' : wr.cell? ⟨gl, d, none⟩ = some (.int .i64 (P.vf q D.pins h1 d)) := by rw [hbq.cell (HLT.out gl ⟨d, hld, by rw [cv]; rfl⟩)]; exact cv
                              have cu' : wr.cell? ⟨gf, d, none⟩ = some (.int .i64 (P.vf q D.pins h1 d)) := by rw [hbq.cell (HLT.out gf ⟨d, hld, by rw [cu]; rfl⟩)]; exact cu
                              have CC := Lib.hid (And.intro cv' cu')
                              clear cv cu cv' cu'
                              go_wp2_with fail
                              refine wp_region_held (S := (fun w' => w'.cell? ⟨gl, d, none⟩ = some (.int .i64 (P.vf q D.pins h1 d)) ∧ w'.cell? ⟨gf, d, none⟩ = some (.int .i64 (P.vf q D.pins h1 d)))) (by kernel_rfl) ?_
                              change wpAnyH _ _ _ _ _ _ _ _ wr.drew
                              (try simp only [Act.put])
                              have hS : wr.drew.cell? ⟨gl, d, none⟩ = some (.int .i64 (P.vf q D.pins h1 d)) ∧ wr.drew.cell? ⟨gf, d, none⟩ = some (.int .i64 (P.vf q D.pins h1 d)) := CC.out
                              refine anyH_pure 0 _ ?_ rfl (by kernel_rfl) (by kernel_rfl) (by kernel_rfl) (fun _ _ _ h => h) rfl ?_ hS ?_
                              rotate_left
                              · (intro w'; go_simp; (try with_reducible rfl))
                              (try simp only [Act.put, List.getElem_toArray, List.getElem_cons_zero, List.setIfInBounds_toArray, List.set_cons_zero, List.set_cons_succ])
                              refine anyH_pure 1 _ (.bool true) rfl (by kernel_rfl) (by kernel_rfl) (by kernel_rfl) (fun _ _ _ h => h) rfl ?_ hS ?_
                              · (intro w'; go_simp; (try (have := HR0.out; omega)))
                              (try simp only [Act.put, List.getElem_toArray, List.getElem_cons_zero, List.getElem_cons_succ, List.setIfInBounds_toArray, List.set_cons_zero, List.set_cons_succ])
                              refine anyH_pure 2 _ ?_ rfl (by kernel_rfl) (by kernel_rfl) (by kernel_rfl) (fun _ _ _ h => h) rfl ?_ hS ?_
                              rotate_left
                              · (intro w'; go_simp; (try with_reducible rfl))
                              (try simp only [Act.put, List.getElem_toArray, List.getElem_cons_zero, List.getElem_cons_succ, List.setIfInBounds_toArray, List.set_cons_zero, List.set_cons_succ])
                              refine anyH_pure 3 _ ?_ rfl (by kernel_rfl) (by kernel_rfl) (by kernel_rfl) (fun _ _ _ h => h) rfl ?_ hS ?_
                              rotate_left
                              · (intro w'; go_simp; (try with_reducible rfl))
                              (try simp only [Act.put, List.getElem_toArray, List.getElem_cons_zero, List.getElem_cons_succ, List.setIfInBounds_toArray, List.set_cons_zero, List.set_cons_succ])
                              refine anyH_pure 4 _ ?_ rfl (by kernel_rfl) (by kernel_rfl) (by kernel_rfl) (fun _ _ _ h => h) rfl ?_ hS ?_
                              rotate_left
                              · (intro w'; go_simp; (try with_reducible rfl))
                              (try simp only [Act.put, List.getElem_toArray, List.getElem_cons_zero, List.getElem_cons_succ, List.setIfInBounds_toArray, List.set_cons_zero, List.set_cons_succ])
                              refine anyH_pure 5 _ ?_ rfl (by kernel_rfl) (by kernel_rfl) (by kernel_rfl) (fun _ _ _ h => h) rfl ?_ hS ?_
                              rotate_left
                              · (intro w'; go_simp; (try with_reducible rfl))
                              (try simp only [Act.put, List.getElem_toArray, List.getElem_cons_zero, List.getElem_cons_succ, List.setIfInBounds_toArray, List.set_cons_zero, List.set_cons_succ])
                              refine anyH_if 6 _ ?_ rfl (by kernel_rfl) (by kernel_rfl) (by kernel_rfl) (fun _ _ _ h => h) rfl ?_ hS ?_
                              rotate_left
                              · (intro w' h; have c0 := h.1; go_simp; (try with_reducible rfl))
                              (try simp only [Act.put, List.getElem_toArray, List.getElem_cons_zero, List.getElem_cons_succ, List.setIfInBounds_toArray, List.set_cons_zero, List.set_cons_succ])
                              refine anyH_pure 7 _ ?_ rfl (by kernel_rfl) (by kernel_rfl) (by kernel_rfl) (fun _ _ _ h => h) rfl ?_ hS ?_
                              rotate_left
                              · (intro w'; go_simp; (try with_reducible rfl))
                              (try simp only [Act.put, List.getElem_toArray, List.getElem_cons_zero, List.getElem_cons_succ, List.setIfInBounds_toArray, List.set_cons_zero, List.set_cons_succ])
                              refine anyH_pure 8 _ ?_ rfl (by kernel_rfl) (by kernel_rfl) (by kernel_rfl) (fun _ _ _ h => h) rfl ?_ hS ?_
                              rotate_left
                              · (intro w'; go_simp; (try with_reducible rfl))
                              (try simp only [Act.put, List.getElem_toArray, List.getElem_cons_zero, List.getElem_cons_succ, List.setIfInBounds_toArray, List.set_cons_zero, List.set_cons_succ])
                              refine anyH_pure 9 _ ?_ rfl (by kernel_rfl) (by kernel_rfl) (by kernel_rfl) (fun _ _ _ h => h) rfl ?_ hS ?_
                              rotate_left
                              · (intro w'; go_simp; (try with_reducible rfl))
                              (try simp only [Act.put, List.getElem_toArray, List.getElem_cons_zero, List.getElem_cons_succ, List.setIfInBounds_toArray, List.set_cons_zero, List.set_cons_succ])
                              refine anyH_if 10 _ ?_ rfl (by kernel_rfl) (by kernel_rfl) (by kernel_rfl) (fun _ _ _ h => h) rfl ?_ hS ?_
                              rotate_left
                              · (intro w' h; have c0 := h.2; go_simp; (try with_reducible rfl))
                              (try simp only [Act.put, List.getElem_toArray, List.getElem_cons_zero, List.getElem_cons_succ, List.setIfInBounds_toArray, List.set_cons_zero, List.set_cons_succ])
                              refine anyH_pure 11 _ ?_ rfl (by kernel_rfl) (by kernel_rfl) (by kernel_rfl) (fun _ _ _ h => h) rfl ?_ hS ?_
                              rotate_left
                              · (intro w'; go_simp; (try with_reducible rfl))
                              (try simp only [Act.put, List.getElem_toArray, List.getElem_cons_zero, List.getElem_cons_succ, List.setIfInBounds_toArray, List.set_cons_zero, List.set_cons_succ])
                              refine anyH_pure 12 _ ?_ rfl (by kernel_rfl) (by kernel_rfl) (by kernel_rfl) (fun _ _ _ h => h) rfl ?_ hS ?_
                              rotate_left
                              · (intro w'; go_simp; (try with_reducible rfl))
                              (try simp only [Act.put, List.getElem_toArray, List.getElem_cons_zero, List.getElem_cons_succ, List.setIfInBounds_toArray, List.set_cons_zero, List.set_cons_succ])
                              refine wpAnyH_done (by kernel_rfl) ?_ _
                              have hbq2 := hbq.drew
                              clear hbq hS
                              go_wp2_with fail
                              go_roundw
                              case rel => exact ⟨d + 1, by go_num, by omega, hbq2⟩
                              case measure => simp [intOf]; omega
                            · obtain rfl : i = d := by omega
                              have HY := Lib.hid (And.intro (HX.out.1.go hbq) (HX.out.2.2.2.2.go (Fr.of_below hbq _)))
                              clear hbq
                              go_wp2_with fail
                              go_roundw
                              case rel => exact ⟨r + 1, T, G, by go_num, by omega, HY.out.1, HX.out.2.1, HX.out.2.2.1, HX.out.2.2.2.1, by rw [cnt0_pos (Nat.succ_ne_zero r)]; exact HY.out.2⟩
                              case measure => simp [intOf]; omega
                  · obtain rfl : r = 3 := by omega
                    go_wp2_with fail
                    refine (awake_any _).mono ?_
                    rintro e w2 ⟨rfl, hb2⟩
                    go_wp2_with fail
                    go_ret
                    exact ⟨rfl, hG.below.trans (hb2.mono hG.below.size)⟩
end Go.Proofs.Ytbibfoahlieccaa
