/- The walk of HistFinds. -/
import Derived.Test.YtnemaolbmocncaaFindsP
namespace Go.Proofs.Ytnemaolbmocncaa
open Go.RowKit
set_option linter.unusedSimpArgs false
set_option linter.unusedVariables false
attribute [local irreducible] wpList
def mx (a b : Int) : Int := if a < b then b else a
theorem mx_le (a b : Int) : a ≤ mx a b ∧ b ≤ mx a b ∧ (mx a b = a ∨ mx a b = b) := by unfold mx; split <;> omega
theorem run_max3 {P : Program} {A : Act} {o : Oper} {w : World} {a b c : Int} {x y z : Operand} (ho : o.op = .call { callee := .builtin .max, args := #[x, y, z], argTypes := #[32, 32, 32] }) (hx : A.eval x = .int .u32 a) (hy : A.eval y = .int .u32 b) (hz : A.eval z = .int .u32 c) :
    (execOp A.eval o).run P w = .ok (.value (.int .u32 (mx (mx a b) c))) w := by
  unfold execOp
  simp only [ho, resolve, invoke, builtin, Sem.run_bind, Sem.run_pure, Result.andThen_ok, List.map_toArray, List.map_cons, List.map_nil, hx, hy, hz]
  simp [Builtin.max_, Builtin.max2, Result.andThen, mx]
  rfl
theorem run_and {a : Act} {o : Oper} {w : World} {x : Operand} {n m k : Int} (ho : o.op = .binOp .and 5 x (.const (.int .u8 k)) 5) (hx : a.eval x = .int .u8 n) (h : ∀ w, (binOp .and 5 (.int .u8 n) (.int .u8 k)).run Try.prog w = .ok (.int .u8 m) w) :
    (execOp a.eval o).run Try.prog w = .ok (.value (.int .u8 m)) w := by
  unfold execOp
  have hk : a.eval (.const (.int .u8 k)) = .int .u8 k := rfl
  simp [ho, hx, hk, eqGuard, h, Result.andThen]
theorem and1 (b c d : Bool) (w : World) : (binOp .and 5 (.int .u8 (P.ob true b c d)) (.int .u8 1)).run Try.prog w = .ok (.int .u8 1) w := by cases b <;> cases c <;> cases d <;> kernel_rfl
theorem and4 (a b d : Bool) (w : World) : (binOp .and 5 (.int .u8 (P.ob a b true d)) (.int .u8 4)).run Try.prog w = .ok (.int .u8 4) w := by cases a <;> cases b <;> cases d <;> kernel_rfl
theorem and8 (a b c : Bool) (w : World) : (binOp .and 5 (.int .u8 (P.ob a b c true)) (.int .u8 8)).run Try.prog w = .ok (.int .u8 8) w := by cases a <;> cases b <;> cases c <;> kernel_rfl
theorem b36a (s : Int) (d : Bool) (ao : Option Addr) (n cap : Nat) : Try.prog.built 36 [(0, .int .u32 s), (2, .bool d), (3, .slice ao n cap)] = some #[.int .u32 s, .int .u32 0, .bool d, .slice ao n cap, .slice none 0 0] := by kernel_rfl
theorem b36b (s c : Int) (d : Bool) (ao : Option Addr) (n cap : Nat) : Try.prog.built 36 [(0, .int .u32 s), (1, .int .u32 c), (2, .bool d), (4, .slice ao n cap)] = some #[.int .u32 s, .int .u32 c, .bool d, .slice none 0 0, .slice ao n cap] := by kernel_rfl
theorem b43a (p : Int) : Try.prog.built 43 [(0, .int .u16 p)] = some #[.int .u16 p, .int .u32 0] := by kernel_rfl
theorem fill43 (p t : Int) : Instr.fill (fun i => some (i * 2, 2)) ((Array.range (1 * 2)).map ((Value.agg #[.int .u16 0, .int .u32 0]).cells[· % (Value.agg #[.int .u16 0, .int .u32 0]).cells.size]!)) [(0, .agg #[.int .u16 p, .int .u32 t])] = some #[.int .u16 p, .int .u32 t] := by kernel_rfl
theorem row_none {α : Type} (w : World) (sz : Nat) (f : α → List Value) : RowIn w (.slice none 0 0) sz f [] := ⟨none, 0, rfl, ⟨Nat.le_refl _, fun _ => rfl⟩, RowAt.nil _ _ _ _⟩
theorem row_one1 {α : Type} {w : World} {b : Nat} {sz : Nat} {f : α → List Value} {x : α} {t : TypeId} (h : Blk w b (f x).toArray t) : RowIn w (.slice (some ⟨b, 0, none⟩) 1 1) sz f [x] := ⟨some ⟨b, 0, none⟩, 1, rfl, ⟨Nat.le_refl _, fun e => by cases e⟩, fun i y hy => by
  have hi := (List.getElem?_eq_some_iff.1 hy).1
  obtain rfl : i = 0 := by simpa using hi
  obtain rfl : x = y := by simpa using hy
  exact ⟨b, 0, rfl, h.lt, fun j u hu => by rw [h.cell]; simpa using hu⟩⟩
theorem OwnH.pushL {base : Nat} {w w' : World} {v v' : Value} {R X : List Rec} (h : OwnH base w v R) (hX : ∀ x ∈ X, SubAt w x ∧ ∀ b, vblk x.2.1 = some b ∨ vblk x.2.2 = some b → v.ownBlock ≠ some b)
    (own : w'.ownsRow base 36 5 v' (R.length + X.length) (R.flatMap pcL ++ X.flatMap pcL)) (gr : w.grownBy w' v.ownBlock) (hl : v'.ownBlock = v.ownBlock ∨ v'.ownBlock = some w.heap.size) : OwnH base w' v' (R ++ X) := by
  have k := Fr.of_grown gr
  have hs : ∀ y ∈ R ++ X, SubAt w y ∧ ∀ b, vblk y.2.1 = some b ∨ vblk y.2.2 = some b → v.ownBlock ≠ some b := fun y hy => by
    rcases List.mem_append.1 hy with hy | hy
    · exact ⟨h.sub y hy, h.apart y hy⟩
    · exact hX y hy
  refine ⟨?_, fun y hy => (hs y hy).1.fr k fun b hb => (hs y hy).2 b hb, fun y hy b hb e => ?_⟩
  · rw [List.length_append, List.flatMap_append]
    exact own
  · rcases hl with h1 | h1
    · exact (hs y hy).2 b hb (h1 ▸ e)
    · have h2 := (hs y hy).1.lt hb
      rw [h1] at e
      have h3 := Option.some.inj e
      omega
theorem wU32_of {x : Int} (h : 0 ≤ x ∧ x ≤ 4294967295) : wU32 x := by unfold wU32; simp [Lit.wf, IntKind.min, IntKind.max, IntKind.bits, IntKind.signed]; omega
theorem wU16_of {x : Int} (h : 0 ≤ x ∧ x ≤ 65535) : wU16 x := by unfold wU16; simp [Lit.wf, IntKind.min, IntKind.max, IntKind.bits, IntKind.signed]; omega
theorem wU32.hi {x : Int} (h : wU32 x) : x ≤ 4294967295 := by
  unfold wU32 at h
  simp [Lit.wf, IntKind.min, IntKind.max, IntKind.bits, IntKind.signed] at h; omega
set_option maxRecDepth 100000 in
set_option maxHeartbeats 32000000 in
theorem finds_walk (ao : Option Addr) (cap : Nat) (R : List Rec) (pg ts : Int) (w : World) (h : AAt w ao R) (hcap : R.length ≤ cap) (hmx : R.length ≤ maxLen) (hpg : 0 ≤ pg ∧ pg ≤ 65535) (hts : 0 ≤ ts) :
    Calls Try.prog 6 #[.slice ao R.length cap, .int .u16 pg, .int .u32 ts] w fun e w' => e = .returned (.bool true) ∧ Below w.heap.size w w' := by
  have hz36 := zero36.1
  obtain ⟨ie, hie, ze, se, ye⟩ := info_parts info36
  go_enter Try.func6, Try.ntmps6
  go_upto_region 1 with (fail)
  refine no_implicit_lambda% (wp_region_lit ?_)
  refine no_implicit_lambda% (wpl_val ?_ rfl ?_ ?_)
  rotate_left
  · (go_simp; (try with_reducible rfl))
  (try simp only [Act.put, Z1, Z2, Z4, Z5, Z6])
  have hce := few_any h hcap hmx
  refine wpl_call _ _ rfl (by go_simp) _ hce ?_
  rintro e w1 ⟨v1, R1, rfl, hO1, hR1, hN1, hb1⟩
  refine ⟨_, rfl, ?_⟩
  clear hce
  (try simp only [Act.put, Z1, Z2, Z3, Z4, Z5, Z6])
  refine no_implicit_lambda% (wpl_val ?_ rfl ?_ ?_)
  rotate_left
  · (go_simp; (try with_reducible rfl))
  (try simp only [Act.put, Z1, Z2, Z3, Z4, Z5, Z6])
  refine no_implicit_lambda% (wpList_nil ?_)
  have hl9 : R1.length ≤ 9 := by
    have := congrArg List.length hR1
    rw [his_length] at this
    have := fewL_len (his R); omega
  have hid : Hid (fewL (his R1) = his R1) := by unfold Hid; rw [hR1, P.fewL_idem]
  obtain ⟨ao1, cap1, rfl, hc1, hH1⟩ := hO1.at_
  clear h hcap hmx hR1
  have hce := check_any hH1 hc1.1 (by omega)
  by_cases hbad : P.bad (his R1)
  · rw [P.chk_bad hbad] at hce
    clear hbad
    go_upto_region 2 with (fail)
    refine no_implicit_lambda% (wp_region_lit ?_)
    refine no_implicit_lambda% (wpl_val ?_ rfl ?_ ?_)
    rotate_left
    · (go_simp; (try with_reducible rfl))
    (try simp only [Act.put, Z1, Z2, Z4, Z5, Z6])
    refine wpl_call _ _ rfl (by go_simp) _ hce ?_
    rintro e w2 ⟨rfl, hbc⟩
    refine ⟨_, rfl, ?_⟩
    (try simp only [Act.put, Z1, Z2, Z3, Z4, Z5, Z6])
    iterate 5
      refine no_implicit_lambda% (wpl_val ?_ rfl ?_ ?_)
      rotate_left
      · (go_simp; (try with_reducible rfl))
      (try simp only [Act.put, Z1, Z2, Z3, Z4, Z5, Z6])
    refine no_implicit_lambda% (wpList_nil ?_)
    have hb2 := Lib.hid (hb1.trans (hbc.mono hb1.size))
    go_upto_region 3 with (fail)
    refine no_implicit_lambda% (wp_region_lit ?_)
    iterate 2
      refine no_implicit_lambda% (wpl_val ?_ rfl ?_ ?_)
      rotate_left
      · (go_simp; (try with_reducible rfl))
      (try simp only [Act.put, Z1, Z2, Z3, Z4, Z5, Z6])
    refine no_implicit_lambda% (wpList_nil ?_)
    go_upto_region 4 with (fail)
    refine no_implicit_lambda% (wp_region_lit ?_)
    iterate 3
      refine no_implicit_lambda% (wpl_val ?_ rfl ?_ ?_)
      rotate_left
      · (go_simp; (try with_reducible rfl))
      (try simp only [Act.put, Z1, Z2, Z3, Z4, Z5, Z6])
    refine wpl_call _ _ rfl (by go_simp) _ (awake_any w2) ?_
    rintro e w9 ⟨rfl, hb9⟩
    refine ⟨_, rfl, ?_⟩
    (try simp only [Act.put, Z1, Z2, Z3, Z4, Z5, Z6])
    iterate 2
      refine no_implicit_lambda% (wpl_val ?_ rfl ?_ ?_)
      rotate_left
      · (go_simp; (try with_reducible rfl))
      (try simp only [Act.put, Z1, Z2, Z3, Z4, Z5, Z6])
    refine no_implicit_lambda% (wpList_nil ?_)
    go_wp2_with fail
    go_ret
    exact ⟨rfl, hb2.out.trans (hb9.mono hb2.out.size)⟩
  obtain ⟨p1, hp1⟩ : ∃ p1 : Int, P.chk (his R1) = (p1, 0) := by unfold P.chk; rw [if_neg hbad]; exact ⟨_, rfl⟩
  rw [hp1] at hce
  clear hp1
  replace hbad := Lib.hid hbad
  go_upto_region 2 with (fail)
  refine no_implicit_lambda% (wp_region_lit ?_)
  refine no_implicit_lambda% (wpl_val ?_ rfl ?_ ?_)
  rotate_left
  · (go_simp; (try with_reducible rfl))
  (try simp only [Act.put, Z1, Z2, Z4, Z5, Z6])
  refine wpl_call _ _ rfl (by go_simp) _ hce ?_
  rintro e w2 ⟨rfl, hbc⟩
  refine ⟨_, rfl, ?_⟩
  (try simp only [Act.put, Z1, Z2, Z3, Z4, Z5, Z6])
  iterate 5
    refine no_implicit_lambda% (wpl_val ?_ rfl ?_ ?_)
    rotate_left
    · (go_simp; (try with_reducible rfl))
    (try simp only [Act.put, Z1, Z2, Z3, Z4, Z5, Z6])
  refine no_implicit_lambda% (wpList_nil ?_)
  have hb2 := hb1.trans (hbc.mono hb1.size)
  have hH2 := hH1.below hbc
  clear hce hbc hO1 hH1 hb1
  clear w1
  go_upto_region 3 with (fail)
  refine no_implicit_lambda% (wp_region_lit ?_)
  iterate 2
    refine no_implicit_lambda% (wpl_val ?_ rfl ?_ ?_)
    rotate_left
    · (go_simp; (try with_reducible rfl))
    (try simp only [Act.put, Z1, Z2, Z3, Z4, Z5, Z6])
  refine no_implicit_lambda% (wpList_nil ?_)
  have h0 : Hid (Below w2.heap.size w2 w2) := Below.refl _ _
  go_upto_region 5 with (fail)
  refine no_implicit_lambda% (wp_region_lit ?_)
  refine no_implicit_lambda% (wpl_val ?_ rfl ?_ ?_)
  rotate_left
  · (go_simp; (try with_reducible rfl))
  (try simp only [Act.put, Z1, Z2, Z4, Z5, Z6])
  refine no_implicit_lambda% (wpList_nil ?_)
  go_upto_region 6 with (fail)
  refine no_implicit_lambda% (wp_region_lit ?_)
  refine no_implicit_lambda% (wpl_val ?_ rfl ?_ ?_)
  rotate_left
  · (go_simp; (try with_reducible rfl))
  (try simp only [Act.put, Z1, Z2, Z4, Z5, Z6])
  refine no_implicit_lambda% (wpl_val ?_ rfl ?_ ?_)
  rotate_left
  · (go_simp; (try with_reducible rfl))
  (try simp only [Act.put, Z1, Z2, Z3, Z4, Z5, Z6])
  refine no_implicit_lambda% (wpl_val ?_ rfl ?_ ?_)
  rotate_left
  · (go_simp; (try with_reducible rfl))
  (try simp only [Act.put, Z1, Z2, Z3, Z4, Z5, Z6])
  refine no_implicit_lambda% (wpList_nil ?_)
  have HH2 := Lib.hid (And.intro hH2 hb2)
  clear hH2 hb2
  go_wp2_with fail
  go_loopw [39, 9] (fun i o wr => ∃ (k : Nat) (mo : Int), i = .int .i64 k ∧ o = .int .u32 mo ∧ k ≤ R1.length ∧ Below w2.heap.size w2 wr ∧ Hid (wU32 mo ∧ ∀ (j : Nat) (a : P.Pst), j < k → (his R1)[j]? = some a → a.start ≤ mo ∧ a.commit ≤ mo)) (fun i _ _ => R1.length - (intOf i).toNat)
  case atStart => exact ⟨0, 0, rfl, rfl, Nat.zero_le _, h0.out, wU32_of (by omega), fun j a hj => by omega⟩
  case round =>
    obtain ⟨k, mo, rfl, rfl, hk, hS, hT⟩ := hrel
    by_cases hlt : k < R1.length
    · have hlt' : (k : Int) < (R1.length : Int) := by omega
      obtain ⟨x, hx⟩ : ∃ x, R1[k]? = some x := ⟨_, List.getElem?_eq_getElem hlt⟩
      have hHr := HH2.out.1.below hS
      obtain ⟨b, o, rfl, hbl, hr⟩ := hHr.row k x hx
      replace hr := Lib.hid hr
      have hone := Lib.hid (hHr.sub x (List.mem_of_getElem? hx)).one
      have hok := Lib.hid (hHr.sub x (List.mem_of_getElem? hx)).ok
      have hxh := Lib.hid (his_get hx)
      clear hx hHr
      go_upto_region 8 with (fail)
      refine no_implicit_lambda% (wp_region_lit ?_)
      refine no_implicit_lambda% (wpl_val ?_ rfl ?_ ?_)
      rotate_left
      · (go_simp; (try with_reducible rfl))
      (try simp only [Act.put, Z1, Z2, Z4, Z5, Z6])
      refine wpList_load_mid rfl 36 _ rfl b (o + k * 5) rfl (pcL x) _ hr.out Try.underlying36 rfl (size36' x) ?_
      (try simp only [Act.put, Z1, Z2, Z3, Z4, Z5, Z6])
      refine wpl_alloc 36 (pcA noR) rfl rfl hz36 ?_
      (try simp only [Act.put, Z1, Z2, Z3, Z4, Z5, Z6])
      refine wpList_store_fr rfl 36 _ _ rfl wr.heap.size (pcA x) rfl rfl 36 _ (Blk.alloc_new _ _ _) (size36 x) rfl hone.out ?_
      intro w9 hB9 hF9
      (try simp only [Act.put, Z1, Z2, Z3, Z4, Z5, Z6])
      refine no_implicit_lambda% (wpList_nil ?_)
      have hS9 := hS.trans ((box_below hF9).mono hS.size)
      have c0 : w9.cell? ⟨wr.heap.size, 0, none⟩ = some (.int .u32 x.1.start) := by rw [hB9.cell]; rfl
      have c1 : w9.cell? ⟨wr.heap.size, 1, none⟩ = some (.int .u32 x.1.commit) := by rw [hB9.cell]; rfl
      clear hF9 hr hbl hone hS hB9
      generalize wr.heap.size = bx at *
      have hT2 : Hid (wU32 (mx (mx mo x.1.start) x.1.commit) ∧ ∀ (j : Nat) (a : P.Pst), j < k + 1 → (his R1)[j]? = some a → a.start ≤ mx (mx mo x.1.start) x.1.commit ∧ a.commit ≤ mx (mx mo x.1.start) x.1.commit) := by
        have h1 := mx_le mo x.1.start
        have h2 := mx_le (mx mo x.1.start) x.1.commit
        refine ⟨?_, fun j a hj ha => ?_⟩
        · rcases h2.2.2 with e | e
          · rw [e]
            rcases h1.2.2 with e | e
            · rw [e]; exact hT.out.1
            · rw [e]; exact hok.out.start
          · rw [e]; exact hok.out.commit
        · by_cases e : j = k
          · rw [e, hxh.out] at ha
            obtain rfl := Option.some.inj ha
            omega
          · have := hT.out.2 j a (by omega) ha
            omega
      clear hT hok hxh
      go_upto_region 9 with (fail)
      refine no_implicit_lambda% (wp_region_lit ?_)
      iterate 2
        refine no_implicit_lambda% (wpl_val ?_ rfl ?_ ?_)
        rotate_left
        · (go_simp; (try with_reducible rfl))
        (try simp only [Act.put, Z1, Z2, Z3, Z4, Z5, Z6])
      refine no_implicit_lambda% (wpl_val ?_ rfl ?_ ?_)
      rotate_left
      · (have c0 := c0; go_simp; (try with_reducible rfl))
      (try simp only [Act.put, Z1, Z2, Z3, Z4, Z5, Z6])
      refine no_implicit_lambda% (wpl_val ?_ rfl ?_ ?_)
      rotate_left
      · (go_simp; (try with_reducible rfl))
      (try simp only [Act.put, Z1, Z2, Z3, Z4, Z5, Z6])
      refine no_implicit_lambda% (wpl_val ?_ rfl ?_ ?_)
      rotate_left
      · (have c0 := c1; go_simp; (try with_reducible rfl))
      (try simp only [Act.put, Z1, Z2, Z3, Z4, Z5, Z6])
      refine wpl_val (.int .u32 (mx (mx mo x.1.start) x.1.commit)) rfl (run_max3 rfl rfl rfl rfl) ?_
      (try simp only [Act.put, Z1, Z2, Z3, Z4, Z5, Z6])
      generalize mx (mx mo x.1.start) x.1.commit = mo2 at *
      clear c0 c1
      refine no_implicit_lambda% (wpl_val ?_ rfl ?_ ?_)
      rotate_left
      · (go_simp; (try with_reducible rfl))
      (try simp only [Act.put, Z1, Z2, Z3, Z4, Z5, Z6])
      refine no_implicit_lambda% (wpList_nil ?_)
      go_wp2_with fail
      go_roundw
      case rel => exact ⟨k + 1, mo2, by go_num, rfl, by omega, hS9, hT2⟩
      case measure => simp [intOf]; omega
    · obtain rfl : k = R1.length := by omega
      have hmo : Hid (wU32 mo ∧ ∀ a ∈ his R1, a.start ≤ mo ∧ a.commit ≤ mo) := ⟨hT.out.1, fun a ha => by
        obtain ⟨j, hj⟩ := List.mem_iff_getElem?.1 ha
        have hl := (List.getElem?_eq_some_iff.1 hj).1
        rw [his_length] at hl
        exact hT.out.2 j a hl hj⟩
      have hb2 := Lib.hid (HH2.out.2.trans (hS.mono HH2.out.2.size))
      have hH2 := Lib.hid (HH2.out.1.below hS)
      clear hT hlt hk HH2 h0
      by_cases hbig : (2147483648 : Int) < mo
      · have hbig' : decide ((2147483648 : Int) < mo) = true := by simp [hbig]
        go_upto_region 11 with (fail)
        refine no_implicit_lambda% (wp_region_lit ?_)
        iterate 2
          refine no_implicit_lambda% (wpl_val ?_ rfl ?_ ?_)
          rotate_left
          · (go_simp; (try with_reducible rfl))
          (try simp only [Act.put, Z1, Z2, Z3, Z4, Z5, Z6])
        refine no_implicit_lambda% (wpList_nil ?_)
        clear hbig
        go_upto_region 12 with (fail)
        refine no_implicit_lambda% (wp_region_lit ?_)
        refine wpl_call _ _ rfl (by go_simp) _ (awake_any wr) ?_
        rintro e w9 ⟨rfl, hb9⟩
        refine ⟨_, rfl, ?_⟩
        (try simp only [Act.put, Z1, Z2, Z3, Z4, Z5, Z6])
        refine no_implicit_lambda% (wpl_val ?_ rfl ?_ ?_)
        rotate_left
        · (go_simp; (try with_reducible rfl))
        (try simp only [Act.put, Z1, Z2, Z3, Z4, Z5, Z6])
        refine no_implicit_lambda% (wpList_nil ?_)
        go_wp2_with fail
        go_ret
        exact ⟨rfl, hb2.out.trans (hb9.mono hb2.out.size)⟩
      have hbig' : decide ((2147483648 : Int) < mo) = false := by simp; omega
      go_upto_region 11 with (fail)
      refine no_implicit_lambda% (wp_region_lit ?_)
      iterate 2
        refine no_implicit_lambda% (wpl_val ?_ rfl ?_ ?_)
        rotate_left
        · (go_simp; (try with_reducible rfl))
        (try simp only [Act.put, Z1, Z2, Z3, Z4, Z5, Z6])
      refine no_implicit_lambda% (wpList_nil ?_)
      clear hbig'
      have hmr : Hid (0 ≤ mo ∧ mo ≤ 2147483648) := ⟨hmo.out.1.le, by omega⟩
      clear hbig
      have hmw : IntKind.u16.wrap (pg.tmod 8 + 40000) = pg.tmod 8 + 40000 := IntWalk.u16_in _ (by rw [Int.tmod_eq_emod_of_nonneg hpg.1]; omega)
      have hqr : 40000 ≤ pg.tmod 8 + 40000 ∧ pg.tmod 8 + 40000 < 40008 := by rw [Int.tmod_eq_emod_of_nonneg hpg.1]; omega
      go_upto_region 13 with (fail)
      refine no_implicit_lambda% (wp_region_lit ?_)
      iterate 4
        refine no_implicit_lambda% (wpl_val ?_ rfl ?_ ?_)
        rotate_left
        · (go_simp; (try with_reducible rfl))
        (try simp only [Act.put, Z1, Z2, Z3, Z4, Z5, Z6])
      refine no_implicit_lambda% (wpList_nil ?_)
      clear hmw hpg
      generalize pg.tmod 8 + 40000 = q at *
      replace hqr := Lib.hid hqr
      have h0 : Hid (Below wr.heap.size wr wr) := Below.refl _ _
      obtain ⟨w3, hw3⟩ : ∃ w3, w3 = wr := ⟨_, rfl⟩
      have hb3 : Hid (Below w.heap.size w w3) := by rw [hw3]; exact hb2
      have hH3 : Hid (HAt w3 ao1 R1) := by rw [hw3]; exact hH2
      have h03 : Hid (Below w3.heap.size w3 wr) := by rw [hw3]; exact h0
      clear hb2 hH2 h0 hw3 hS
      go_upto_region 14 with (fail)
      refine no_implicit_lambda% (wp_region_lit ?_)
      refine no_implicit_lambda% (wpl_val ?_ rfl ?_ ?_)
      rotate_left
      · (go_simp; (try with_reducible rfl))
      (try simp only [Act.put, Z1, Z2, Z4, Z5, Z6])
      refine no_implicit_lambda% (wpl_val ?_ rfl ?_ ?_)
      rotate_left
      · (go_simp; (try with_reducible rfl))
      (try simp only [Act.put, Z1, Z2, Z3, Z4, Z5, Z6])
      refine no_implicit_lambda% (wpl_val ?_ rfl ?_ ?_)
      rotate_left
      · (go_simp; (try with_reducible rfl))
      (try simp only [Act.put, Z1, Z2, Z3, Z4, Z5, Z6])
      refine no_implicit_lambda% (wpList_nil ?_)
      go_wp2_with fail
      go_loopw [58] (fun i wr => ∃ (k : Nat), i = .int .i64 k ∧ k ≤ R1.length ∧ Below w3.heap.size w3 wr ∧ Hid (∀ (j : Nat) (a : P.Pst), j < k → (his R1)[j]? = some a → q ∉ a.writes)) (fun i _ => R1.length - (intOf i).toNat)
      case atStart => exact ⟨0, rfl, Nat.zero_le _, h03.out, fun j a hj => by omega⟩
      case round =>
        clear h03
        obtain ⟨k, rfl, hk, hS, hT⟩ := hrel
        by_cases hlt : k < R1.length
        · have hlt' : (k : Int) < (R1.length : Int) := by omega
          obtain ⟨x, hx⟩ : ∃ x, R1[k]? = some x := ⟨_, List.getElem?_eq_getElem hlt⟩
          have hHr := hH3.out.below hS
          obtain ⟨b, o, rfl, hbl, hr⟩ := hHr.row k x hx
          replace hr := Lib.hid hr
          have hsub := hHr.sub x (List.mem_of_getElem? hx)
          have hone := Lib.hid hsub.one
          have hok := Lib.hid hsub.ok
          have hmem := Lib.hid (List.mem_of_getElem? hx)
          have hxh := Lib.hid (his_get hx)
          clear hx hHr
          go_upto_region 16 with (fail)
          refine no_implicit_lambda% (wp_region_lit ?_)
          refine no_implicit_lambda% (wpl_val ?_ rfl ?_ ?_)
          rotate_left
          · (go_simp; (try with_reducible rfl))
          (try simp only [Act.put, Z1, Z2, Z4, Z5, Z6])
          refine wpList_load_mid rfl 36 _ rfl b (o + k * 5) rfl (pcL x) _ hr.out Try.underlying36 rfl (size36' x) ?_
          (try simp only [Act.put, Z1, Z2, Z3, Z4, Z5, Z6])
          refine wpl_alloc 36 (pcA noR) rfl rfl hz36 ?_
          (try simp only [Act.put, Z1, Z2, Z3, Z4, Z5, Z6])
          refine wpList_store_fr rfl 36 _ _ rfl wr.heap.size (pcA x) rfl rfl 36 _ (Blk.alloc_new _ _ _) (size36 x) rfl hone.out ?_
          intro w9 hB9 hF9
          (try simp only [Act.put, Z1, Z2, Z3, Z4, Z5, Z6])
          refine no_implicit_lambda% (wpList_nil ?_)
          have hS9 := hS.trans ((box_below hF9).mono hS.size)
          obtain ⟨aow, capw, hwv, hcw, hwr⟩ := hsub.wt
          have cw : w9.cell? ⟨wr.heap.size, 4, none⟩ = some (.slice aow x.1.writes.length capw) := by rw [hB9.cell, ← hwv]; rfl
          replace hwv := Lib.hid hwv
          clear hF9 hr hbl hone hsub hwr hB9 hS
          generalize wr.heap.size = bx at *
          go_upto_region 17 with (fail)
          refine no_implicit_lambda% (wp_region_lit ?_)
          refine no_implicit_lambda% (wpl_val ?_ rfl ?_ ?_)
          rotate_left
          · (go_simp; (try with_reducible rfl))
          (try simp only [Act.put, Z1, Z2, Z4, Z5, Z6])
          refine no_implicit_lambda% (wpl_val ?_ rfl ?_ ?_)
          rotate_left
          · (have c0 := cw; go_simp; (try with_reducible rfl))
          (try simp only [Act.put, Z1, Z2, Z3, Z4, Z5, Z6])
          refine no_implicit_lambda% (wpl_val ?_ rfl ?_ ?_)
          rotate_left
          · (go_simp; (try with_reducible rfl))
          (try simp only [Act.put, Z1, Z2, Z3, Z4, Z5, Z6])
          refine no_implicit_lambda% (wpl_val ?_ rfl ?_ ?_)
          rotate_left
          · (go_simp; (try with_reducible rfl))
          (try simp only [Act.put, Z1, Z2, Z3, Z4, Z5, Z6])
          refine no_implicit_lambda% (wpList_nil ?_)
          have hwl := hok.out.wl
          have HS := Lib.hid hS9
          clear hS9 cw
          go_wp2_with fail
          go_loopw [65] (fun i wr => ∃ (m : Nat), i = .int .i64 m ∧ m ≤ x.1.writes.length ∧ Below w3.heap.size w3 wr ∧ Hid (∀ (j : Nat), j < m → x.1.writes[j]? ≠ some q)) (fun i _ => x.1.writes.length - (intOf i).toNat)
          case atStart => exact ⟨0, rfl, Nat.zero_le _, HS.out, fun j hj => by omega⟩
          case round =>
            clear HS
            obtain ⟨m, rfl, hm, hS, hM⟩ := hrel
            by_cases hlm : m < x.1.writes.length
            · have hlm' : (m : Int) < (x.1.writes.length : Int) := by omega
              obtain ⟨p, hp⟩ : ∃ p, x.1.writes[m]? = some p := ⟨_, List.getElem?_eq_getElem hlm⟩
              obtain ⟨b2, o2, rfl, hbl2, hr2⟩ := (wt_at ((hH3.out.below hS).sub x hmem.out) hwv.out) m p hp
              have hcp : wr.cell? ⟨b2, o2 + m, none⟩ = some (.int .u16 p) := by have := hr2 0 _ rfl; simpa using this
              replace hp := Lib.hid hp
              clear hr2 hbl2
              go_upto_region 19 with (fail)
              refine no_implicit_lambda% (wp_region_lit ?_)
              refine no_implicit_lambda% (wpl_val ?_ rfl ?_ ?_)
              rotate_left
              · (go_simp; (try with_reducible rfl))
              (try simp only [Act.put, Z1, Z2, Z4, Z5, Z6])
              refine no_implicit_lambda% (wpl_val ?_ rfl ?_ ?_)
              rotate_left
              · (have c0 := hcp; go_simp; (try with_reducible rfl))
              (try simp only [Act.put, Z1, Z2, Z3, Z4, Z5, Z6])
              refine no_implicit_lambda% (wpl_val ?_ rfl ?_ ?_)
              rotate_left
              · (go_simp; (try with_reducible rfl))
              (try simp only [Act.put, Z1, Z2, Z3, Z4, Z5, Z6])
              refine no_implicit_lambda% (wpList_nil ?_)
              clear hcp
              by_cases h1 : 40000 ≤ p
              · have h1' : decide (40000 ≤ p) = true := by simp [h1]
                by_cases h2 : p < 40008
                · have h2' : decide (p < 40008) = true := by simp [h2]
                  clear h1 h2
                  have hb4 := Lib.hid (hb3.out.trans (hS.mono hb3.out.size))
                  go_upto_region 20 with (fail)
                  refine no_implicit_lambda% (wp_region_lit ?_)
                  iterate 6
                    refine no_implicit_lambda% (wpl_val ?_ rfl ?_ ?_)
                    rotate_left
                    · (go_simp; (try with_reducible rfl))
                    (try simp only [Act.put, Z1, Z2, Z3, Z4, Z5, Z6])
                  refine no_implicit_lambda% (wpList_nil ?_)
                  go_upto_region 21 with (fail)
                  refine no_implicit_lambda% (wp_region_lit ?_)
                  refine wpl_call _ _ rfl (by go_simp) _ (awake_any wr) ?_
                  rintro e w9 ⟨rfl, hb9⟩
                  refine ⟨_, rfl, ?_⟩
                  (try simp only [Act.put, Z1, Z2, Z3, Z4, Z5, Z6])
                  refine no_implicit_lambda% (wpl_val ?_ rfl ?_ ?_)
                  rotate_left
                  · (go_simp; (try with_reducible rfl))
                  (try simp only [Act.put, Z1, Z2, Z3, Z4, Z5, Z6])
                  refine no_implicit_lambda% (wpList_nil ?_)
                  go_wp2_with fail
                  go_ret
                  exact ⟨rfl, hb4.out.trans (hb9.mono hb4.out.size)⟩
                · have h2' : decide (p < 40008) = false := by simp; omega
                  have hM2 : Hid (∀ (j : Nat), j < m + 1 → x.1.writes[j]? ≠ some q) := fun j hj e => by
                    by_cases e2 : j = m
                    · rw [e2, hp.out] at e
                      have := Option.some.inj e; have := hqr.out; omega
                    · exact hM.out j (by omega) e
                  clear h1 h2 hM hp
                  go_upto_region 20 with (fail)
                  refine no_implicit_lambda% (wp_region_lit ?_)
                  iterate 6
                    refine no_implicit_lambda% (wpl_val ?_ rfl ?_ ?_)
                    rotate_left
                    · (go_simp; (try with_reducible rfl))
                    (try simp only [Act.put, Z1, Z2, Z3, Z4, Z5, Z6])
                  refine no_implicit_lambda% (wpList_nil ?_)
                  go_wp2_with fail
                  go_roundw
                  case rel => exact ⟨m + 1, by go_num, by omega, hS, hM2⟩
                  case measure => simp [intOf]; omega
              · have h1' : decide (40000 ≤ p) = false := by simp; omega
                have hM2 : Hid (∀ (j : Nat), j < m + 1 → x.1.writes[j]? ≠ some q) := fun j hj e => by
                  by_cases e2 : j = m
                  · rw [e2, hp.out] at e
                    have := Option.some.inj e; have := hqr.out; omega
                  · exact hM.out j (by omega) e
                clear h1 hM hp
                go_upto_region 20 with (fail)
                refine no_implicit_lambda% (wp_region_lit ?_)
                iterate 3
                  refine no_implicit_lambda% (wpl_val ?_ rfl ?_ ?_)
                  rotate_left
                  · (go_simp; (try with_reducible rfl))
                  (try simp only [Act.put, Z1, Z2, Z3, Z4, Z5, Z6])
                iterate 2
                  refine no_implicit_lambda% (wpl_skip rfl ?_)
                  (try simp only [Act.put, Z1, Z2, Z3, Z4, Z5, Z6])
                refine no_implicit_lambda% (wpl_val ?_ rfl ?_ ?_)
                rotate_left
                · (go_simp; (try with_reducible rfl))
                (try simp only [Act.put, Z1, Z2, Z3, Z4, Z5, Z6])
                refine no_implicit_lambda% (wpList_nil ?_)
                go_wp2_with fail
                go_roundw
                case rel => exact ⟨m + 1, by go_num, by omega, hS, hM2⟩
                case measure => simp [intOf]; omega
            · obtain rfl : m = x.1.writes.length := by omega
              have hT2 : Hid (∀ (j : Nat) (a : P.Pst), j < k + 1 → (his R1)[j]? = some a → q ∉ a.writes) := fun j a hj ha => by
                by_cases e : j = k
                · rw [e, hxh.out] at ha
                  obtain rfl := Option.some.inj ha
                  intro hq
                  obtain ⟨i, hi⟩ := List.mem_iff_getElem?.1 hq
                  exact hM.out i (List.getElem?_eq_some_iff.1 hi).1 hi
                · exact hT.out j a (by omega) ha
              clear hT hM hlm hxh hmem hok hwv
              go_wp2_with fail
              go_roundw
              case rel => exact ⟨k + 1, by go_num, by omega, hS, hT2⟩
              case measure => simp [intOf]; omega
        · obtain rfl : k = R1.length := by omega
          have hq : Hid (∀ a ∈ his R1, q ∉ a.writes) := fun a ha => by
            obtain ⟨j, hj⟩ := List.mem_iff_getElem?.1 ha
            have hl := (List.getElem?_eq_some_iff.1 hj).1
            rw [his_length] at hl
            exact hT.out j a hl hj
          have hb4 := hb3.out.trans (hS.mono hb3.out.size)
          have hH4 := hH3.out.below hS
          have hPast : Hid (P.Past (his R1) mo) := ⟨hbad.out, hmo.out.2⟩
          have hmw : Hid (wU32 mo) := hmo.out.1
          clear hT hlt hk hb3 hH3 hS hmo hbad
          have htw : IntKind.u32.wrap (ts.tmod 1000 + 1) = ts.tmod 1000 + 1 := IntWalk.u32_in _ (by rw [Int.tmod_eq_emod_of_nonneg hts]; omega)
          have htr : 0 < ts.tmod 1000 + 1 ∧ ts.tmod 1000 + 1 ≤ 1000 := by rw [Int.tmod_eq_emod_of_nonneg hts]; omega
          go_upto_region 24 with (fail)
          refine no_implicit_lambda% (wp_region_lit ?_)
          iterate 4
            refine no_implicit_lambda% (wpl_val ?_ rfl ?_ ?_)
            rotate_left
            · (go_simp; (try with_reducible rfl))
            (try simp only [Act.put, Z1, Z2, Z3, Z4, Z5, Z6])
          refine no_implicit_lambda% (wpList_nil ?_)
          clear htw hts
          generalize ts.tmod 1000 + 1 = ti at *
          replace htr := Lib.hid htr
          obtain ⟨iq, hiq, zq, sq, yq⟩ := info_parts info43
          obtain ⟨ip, hip, zp, sp, yp⟩ := info_parts info41
          have hmr2 := hmr.out
          have hqr2 := hqr.out
          have htr2 := htr.out
          have hqw : wU16 q := wU16_of (by omega)
          have htw : wU32 ti := wU32_of (by omega)
          have hm1 : wU32 (mo + 1) := wU32_of (by omega)
          have hm2 : wU32 (mo + 2) := wU32_of (by omega)
          have hww1 : Hid (IntKind.u32.wrap (mo + 1) = mo + 1) := IntWalk.u32_in _ (by omega)
          have hww2 : Hid (IntKind.u32.wrap (mo + 2) = mo + 2) := IntWalk.u32_in _ (by omega)
          obtain ⟨b1, c1, d1, hF1⟩ := P.finds_one hPast.out hq.out htr.out.1
          obtain ⟨a2, b2, d2, hF2⟩ := P.finds_two hPast.out hq.out
          obtain ⟨a3, b3, c3, hF3⟩ := P.finds_three hPast.out hmr.out.1 hq.out
          replace hF1 := Lib.hid hF1
          replace hF2 := Lib.hid hF2
          replace hF3 := Lib.hid hF3
          replace hqw := Lib.hid hqw
          replace htw := Lib.hid htw
          replace hm1 := Lib.hid hm1
          replace hm2 := Lib.hid hm2
          clear hPast hq htr hqr hmr hmr2 hqr2 htr2
          have hH := hH4
          clear hH4
          go_upto_region 25 with (fail)
          refine no_implicit_lambda% (wp_region_lit ?_)
          refine no_implicit_lambda% (wpl_val ?_ rfl ?_ ?_)
          rotate_left
          · (go_simp; (try with_reducible rfl))
          (try simp only [Act.put, Z1, Z2, Z4, Z5, Z6])
          have hce := few_any hH.arg hc1.1 (by unfold maxLen; omega)
          refine wpl_call _ _ rfl (by go_simp) _ hce ?_
          rintro e U ⟨v5, R5, rfl, hO, hR5, _, hU⟩
          refine ⟨_, rfl, ?_⟩
          have hR : Hid (his R5 = his R1) := hR5.trans hid.out
          have hRl : R5.length = R1.length := by have := congrArg List.length hR.out; rwa [his_length, his_length] at this
          clear hce hR5
          (try simp only [Act.put, Z1, Z2, Z3, Z4, Z5, Z6])
          iterate 3
            refine no_implicit_lambda% (wpl_val ?_ rfl ?_ ?_)
            rotate_left
            · (go_simp; (try with_reducible rfl))
            (try simp only [Act.put, Z1, Z2, Z3, Z4, Z5, Z6])
          refine wpl_val (.agg #[.int .u16 q, .int .u32 ti]) rfl (run_buildE rfl (by go_simp; exact b43 q ti)) ?_
          (try simp only [Act.put, Z1, Z2, Z3, Z4, Z5, Z6])
          refine wpl_law rfl (wp_buildSlice 33 43 1 _ rfl #[.int .u16 q, .int .u32 ti] iq _ Try.underlying33 hiq zq (by rw [sq]; decide) (by rw [sq]; decide) ?c1 ?_)
          case c1 => (simp only [sq, List.map_toArray, List.map_cons, List.map_nil]; exact fill43 q ti)
          have hq1 : RowIn (U.alloc (.cells #[.int .u16 q, .int .u32 ti] 43)) (.slice (some ⟨U.heap.size, 0, none⟩) 1 1) 2 seC [(q, ti)] := row_one1 (t := 43) (Blk.alloc_new _ _ _)
          have hqn : ∀ b, v5.ownBlock = some b → b < U.heap.size := fun b hb => (hO.own.lt b hb).2
          have al := (Below.refl U.heap.size U).alloc (Nat.le_refl _) (.cells #[.int .u16 q, .int .u32 ti] 43)
          replace hO := hO.below al
          replace hU := hU.trans (al.mono hU.size)
          clear al
          (try simp only [Act.put, Z1, Z2, Z3, Z4, Z5, Z6])
          generalize U.alloc (.cells #[.int .u16 q, .int .u32 ti] 43) = U2 at *
          generalize U.heap.size = gq at *
          clear U
          refine wpl_val (.agg (pcA (P.oneP mo q ti, .slice (some ⟨gq, 0, none⟩) 1 1, .slice none 0 0))) rfl (run_buildE rfl (by go_simp; exact b36a mo true _ 1 1)) ?_
          (try simp only [Act.put, Z1, Z2, Z3, Z4, Z5, Z6])
          have hX : ∀ x ∈ [((P.oneP mo q ti, .slice (some ⟨gq, 0, none⟩) 1 1, .slice none 0 0) : Rec)], SubAt U2 x ∧ ∀ b, vblk x.2.1 = some b ∨ vblk x.2.2 = some b → v5.ownBlock ≠ some b := fun x hx => by
            obtain rfl := List.mem_singleton.1 hx
            refine ⟨⟨hq1, row_none _ _ _, hmw.out, wU32_of (by simp [P.oneP]), fun v hv => ?_, fun p hp => (by cases hp), by simp [P.oneP], by simp [P.oneP]⟩, fun b hb e => ?_⟩
            · obtain rfl := List.mem_singleton.1 hv
              exact ⟨hqw.out, htw.out⟩
            · have := hqn b e
              rcases hb with hb | hb
              · have e9 : gq = b := Option.some.inj hb
                omega
              · cases hb
          generalize hx1 : ((P.oneP mo q ti, .slice (some ⟨gq, 0, none⟩) 1 1, .slice none 0 0) : Rec) = x1 at *
          have hx1' : x1.1 = P.oneP mo q ti := by rw [← hx1]
          replace hx1 := Lib.hid hx1
          replace hx1' := Lib.hid hx1'
          clear hq1 hqn
          refine wpl_law rfl (wp_buildSlice 22 36 1 _ rfl ([x1].flatMap pcL).toArray ie _ Try.underlying22 hie ze (by rw [se]; decide) (by rw [se]; decide) ?c1 ?_)
          case c1 => (simp only [se, List.map_toArray, List.map_cons, List.map_nil]; exact fill36 x1)
          have hone := Lib.hid (show ∀ x ∈ [x1], ∀ u ∈ pcL x, u.oneCell' = true from fun x hx u hu => by have := (hX x hx).1.one; rw [Array.all_eq_true_iff_forall_mem] at this; exact this u (by simpa [pcA, pcL] using hu))
          have hlit : Blk (U2.alloc (.cells (([x1]).flatMap pcL).toArray 36)) U2.heap.size (([x1]).flatMap pcL).toArray 36 := Blk.alloc_new _ _ _
          have al := (Below.refl U2.heap.size U2).alloc (Nat.le_refl _) (.cells (([x1]).flatMap pcL).toArray 36)
          have hX4 : ∀ x ∈ [x1], SubAt (U2.alloc (.cells (([x1]).flatMap pcL).toArray 36)) x ∧ ∀ b, vblk x.2.1 = some b ∨ vblk x.2.2 = some b → v5.ownBlock ≠ some b := fun x hx => ⟨(hX x hx).1.below al, (hX x hx).2⟩
          have hO4 := hO.below al
          have hU4 := hU.trans (al.mono hU.size)
          have hsz4 := hU4.size
          replace hX4 := Lib.hid hX4
          clear al hX hO hU
          (try simp only [Act.put, Z1, Z2, Z3, Z4, Z5, Z6])
          generalize U2.alloc (.cells (([x1]).flatMap pcL).toArray 36) = U4 at *
          generalize U2.heap.size = lb at *
          refine wpl_law rfl (wp_append_src _ _ 22 rfl wr.heap.size 36 ie _ 5 64 Try.underlying22 hie ze se ye rfl (by decide) v5 R5.length _ rfl hO4.own _ 1 (([x1]).flatMap pcL) rfl (src_blk hlit) rfl (flat_one hone.out) ?_ ?_ ?_ ?_)
          · unfold maxLen; omega
          · omega
          · omega
          intro v7 W7 own7 gr7 _ hloc7
          have hO7 := hO4.pushL hX4.out own7 gr7 hloc7
          have hU7 : Below wr.heap.size wr W7 := Fr.below hU4 (Fr.of_grown gr7) (Nat.le_refl _) fun i e => (hO4.own.lt i e).1
          clear hO4 hX4 own7 gr7 hloc7 hlit hone hU4 hsz4
          (try simp only [Act.put, Z1, Z2, Z3, Z4, Z5, Z6])
          obtain ⟨ao7, cap7, hve, hc7, hH7⟩ := hO7.at_
          subst hve
          have hce := check_any hH7 hc7.1 (by rw [List.length_append, hRl]; show _ + 1 ≤ 1000; omega)
          have hch : his (R5 ++ [x1]) = his R1 ++ [P.oneP mo q ti] := by rw [his, List.map_append, ← his, hR.out]; (show his R1 ++ [x1.1] = _; rw [hx1'.out])
          rw [hch] at hce
          clear hch hO7
          rw [hF1.out] at hce
          refine wpl_call _ _ rfl (by go_simp) _ hce ?_
          rintro e W8 ⟨rfl, hbc⟩
          refine ⟨_, rfl, ?_⟩
          (try simp only [Act.put, Z1, Z2, Z3, Z4, Z5, Z6])
          iterate 5
            refine no_implicit_lambda% (wpl_val ?_ rfl ?_ ?_)
            rotate_left
            · (go_simp; (try with_reducible rfl))
            (try simp only [Act.put, Z1, Z2, Z3, Z4, Z5, Z6])
          refine no_implicit_lambda% (wpList_nil ?_)
          have hU8 := hU7.trans (hbc.mono hU7.size)
          have hb := Lib.hid (hb4.trans (hU8.mono hb4.size))
          replace hH := hH.below hU8
          clear hce hbc hU7 hU8 hH7 hb4 hx1 hx1' hF1 hRl hR
          clear hc7
          have hH := hH
          -- two
          go_upto_region 26 with (fail)
          refine no_implicit_lambda% (wp_region_lit ?_)
          refine no_implicit_lambda% (wpl_val ?_ rfl ?_ ?_)
          rotate_left
          · (go_simp; (try with_reducible rfl))
          (try simp only [Act.put, Z1, Z2, Z4, Z5, Z6])
          refine wpl_law rfl (wp_buildSlice 34 41 1 _ rfl #[.int .u16 q] ip _ Try.underlying34 hip zp (by rw [sp]; decide) (by rw [sp]; decide) ?c1 ?_)
          case c1 => (simp only [sp, List.map_toArray, List.map_cons, List.map_nil]; exact fill41 q)
          have hwq : Blk (W8.alloc (.cells #[.int .u16 q] 41)) W8.heap.size #[.int .u16 q] 41 := Blk.alloc_new _ _ _
          have al := (Below.refl W8.heap.size W8).alloc (Nat.le_refl _) (.cells #[.int .u16 q] 41)
          replace hH := hH.below al
          have hbq := Lib.hid (hb.out.trans (al.mono hb.out.size))
          clear al hb
          (try simp only [Act.put, Z1, Z2, Z3, Z4, Z5, Z6])
          generalize W8.alloc (.cells #[.int .u16 q] 41) = Y at *
          generalize W8.heap.size = gw at *
          refine no_implicit_lambda% (wpl_val ?_ rfl ?_ ?_)
          rotate_left
          · (go_simp; (try with_reducible rfl))
          (try simp only [Act.put, Z1, Z2, Z3, Z4, Z5, Z6])
          refine no_implicit_lambda% (wpList_nil ?_)
          go_upto_region 27 with (fail)
          refine no_implicit_lambda% (wp_region_lit ?_)
          refine no_implicit_lambda% (wpl_val ?_ rfl ?_ ?_)
          rotate_left
          · (go_simp; (try with_reducible rfl))
          (try simp only [Act.put, Z1, Z2, Z4, Z5, Z6])
          have hce := few_any hH.arg hc1.1 (by unfold maxLen; omega)
          refine wpl_call _ _ rfl (by go_simp) _ hce ?_
          rintro e U ⟨v5, R5, rfl, hO, hR5, _, hU⟩
          refine ⟨_, rfl, ?_⟩
          have hR : Hid (his R5 = his R1) := hR5.trans hid.out
          have hRl : R5.length = R1.length := by have := congrArg List.length hR.out; rwa [his_length, his_length] at this
          clear hce hR5
          (try simp only [Act.put, Z1, Z2, Z3, Z4, Z5, Z6])
          have hgl : gw < Y.heap.size := hwq.lt
          have hgu : gw < U.heap.size := Nat.lt_of_lt_of_le hgl hU.size
          have hww : RowIn U (.slice (some ⟨gw, 0, none⟩) 1 1) 1 pgC [q] := row_one1 (t := 41) (hwq.below hU)
          have hwne : ∀ b, v5.ownBlock = some b → gw ≠ b := fun b hb e => by have := (hO.own.lt b hb).1; omega
          have e1 := hww1.out
          have e2 := hww2.out
          iterate 4
            refine no_implicit_lambda% (wpl_val ?_ rfl ?_ ?_)
            rotate_left
            · (go_simp; (try with_reducible rfl))
            (try simp only [Act.put, Z1, Z2, Z3, Z4, Z5, Z6])
          refine wpl_val (.agg (pcA (P.wrP mo (mo + 1) q, .slice none 0 0, .slice (some ⟨gw, 0, none⟩) 1 1))) rfl (run_buildE rfl (by go_simp; exact b36b mo (mo + 1) true _ 1 1)) ?_
          (try simp only [Act.put, Z1, Z2, Z3, Z4, Z5, Z6])
          iterate 4
            refine no_implicit_lambda% (wpl_val ?_ rfl ?_ ?_)
            rotate_left
            · (go_simp; (try with_reducible rfl))
            (try simp only [Act.put, Z1, Z2, Z3, Z4, Z5, Z6])
          refine wpl_val (.agg (pcA (P.wrP mo (mo + 2) q, .slice none 0 0, .slice (some ⟨gw, 0, none⟩) 1 1))) rfl (run_buildE rfl (by go_simp; exact b36b mo (mo + 2) true _ 1 1)) ?_
          (try simp only [Act.put, Z1, Z2, Z3, Z4, Z5, Z6])
          clear e1 e2
          have hsw : ∀ c, wU32 c → SubAt U (P.wrP mo c q, .slice none 0 0, .slice (some ⟨gw, 0, none⟩) 1 1) ∧ ∀ b, vblk (Value.slice none 0 0) = some b ∨ vblk (Value.slice (some ⟨gw, 0, none⟩) 1 1) = some b → v5.ownBlock ≠ some b := fun c hc => by
            refine ⟨⟨row_none _ _ _, hww, hmw.out, hc, fun v hv => (by cases hv), fun p hp => (by obtain rfl := List.mem_singleton.1 hp; exact hqw.out), by simp [P.wrP], by simp [P.wrP]⟩, fun b hb e => ?_⟩
            have := hwne b e
            rcases hb with hb | hb
            · cases hb
            · have e9 : gw = b := Option.some.inj hb
              omega
          have hs1 := hsw (mo + 1) hm1.out
          have hs2 := hsw (mo + 2) hm2.out
          have hxa' : ((P.wrP mo (mo + 1) q, .slice none 0 0, .slice (some ⟨gw, 0, none⟩) 1 1) : Rec).1 = P.wrP mo (mo + 1) q := rfl
          have hxb' : ((P.wrP mo (mo + 2) q, .slice none 0 0, .slice (some ⟨gw, 0, none⟩) 1 1) : Rec).1 = P.wrP mo (mo + 2) q := rfl
          have hX : ∀ x ∈ [((P.wrP mo (mo + 1) q, .slice none 0 0, .slice (some ⟨gw, 0, none⟩) 1 1) : Rec), ((P.wrP mo (mo + 2) q, .slice none 0 0, .slice (some ⟨gw, 0, none⟩) 1 1) : Rec)], SubAt U x ∧ ∀ b, vblk x.2.1 = some b ∨ vblk x.2.2 = some b → v5.ownBlock ≠ some b := fun x hx => by
            rcases List.mem_cons.1 hx with rfl | hx
            · exact hs1
            · obtain rfl := List.mem_singleton.1 hx
              exact hs2
          clear hsw hs1 hs2 hww hwne hgu hgl
          generalize ((P.wrP mo (mo + 1) q, .slice none 0 0, .slice (some ⟨gw, 0, none⟩) 1 1) : Rec) = xa at *
          generalize ((P.wrP mo (mo + 2) q, .slice none 0 0, .slice (some ⟨gw, 0, none⟩) 1 1) : Rec) = xb at *
          replace hxa' := Lib.hid hxa'
          replace hxb' := Lib.hid hxb'
          refine wpl_law rfl (wp_buildSlice 22 36 2 _ rfl ([xa, xb].flatMap pcL).toArray ie _ Try.underlying22 hie ze (by rw [se]; decide) (by rw [se]; decide) ?c1 ?_)
          case c1 => (simp only [se, List.map_toArray, List.map_cons, List.map_nil]; exact fill22 xa xb)
          have hone := Lib.hid (show ∀ x ∈ [xa, xb], ∀ u ∈ pcL x, u.oneCell' = true from fun x hx u hu => by have := (hX x hx).1.one; rw [Array.all_eq_true_iff_forall_mem] at this; exact this u (by simpa [pcA, pcL] using hu))
          have hlit : Blk (U.alloc (.cells (([xa, xb]).flatMap pcL).toArray 36)) U.heap.size (([xa, xb]).flatMap pcL).toArray 36 := Blk.alloc_new _ _ _
          have al := (Below.refl U.heap.size U).alloc (Nat.le_refl _) (.cells (([xa, xb]).flatMap pcL).toArray 36)
          have hX4 : ∀ x ∈ [xa, xb], SubAt (U.alloc (.cells (([xa, xb]).flatMap pcL).toArray 36)) x ∧ ∀ b, vblk x.2.1 = some b ∨ vblk x.2.2 = some b → v5.ownBlock ≠ some b := fun x hx => ⟨(hX x hx).1.below al, (hX x hx).2⟩
          have hO4 := hO.below al
          have hU4 := hU.trans (al.mono hU.size)
          have hsz4 := hU4.size
          replace hX4 := Lib.hid hX4
          clear al hX hO hU
          (try simp only [Act.put, Z1, Z2, Z3, Z4, Z5, Z6])
          generalize U.alloc (.cells (([xa, xb]).flatMap pcL).toArray 36) = U4 at *
          generalize U.heap.size = lb at *
          refine wpl_law rfl (wp_append_src _ _ 22 rfl Y.heap.size 36 ie _ 5 64 Try.underlying22 hie ze se ye rfl (by decide) v5 R5.length _ rfl hO4.own _ 2 (([xa, xb]).flatMap pcL) rfl (src_blk hlit) rfl (flat_one hone.out) ?_ ?_ ?_ ?_)
          · unfold maxLen; omega
          · omega
          · omega
          intro v7 W7 own7 gr7 _ hloc7
          have hO7 := hO4.pushL hX4.out own7 gr7 hloc7
          have hU7 : Below Y.heap.size Y W7 := Fr.below hU4 (Fr.of_grown gr7) (Nat.le_refl _) fun i e => (hO4.own.lt i e).1
          clear hO4 hX4 own7 gr7 hloc7 hlit hone hU4 hsz4
          (try simp only [Act.put, Z1, Z2, Z3, Z4, Z5, Z6])
          obtain ⟨ao7, cap7, hve, hc7, hH7⟩ := hO7.at_
          subst hve
          have hce := check_any hH7 hc7.1 (by rw [List.length_append, hRl]; show _ + 2 ≤ 1000; omega)
          have hch : his (R5 ++ [xa, xb]) = his R1 ++ [P.wrP mo (mo + 1) q, P.wrP mo (mo + 2) q] := by rw [his, List.map_append, ← his, hR.out]; (show his R1 ++ [xa.1, xb.1] = _; rw [hxa'.out, hxb'.out])
          rw [hch] at hce
          clear hch hO7
          rw [hF2.out] at hce
          refine wpl_call _ _ rfl (by go_simp) _ hce ?_
          rintro e Z8 ⟨rfl, hbc⟩
          refine ⟨_, rfl, ?_⟩
          (try simp only [Act.put, Z1, Z2, Z3, Z4, Z5, Z6])
          iterate 5
            refine no_implicit_lambda% (wpl_val ?_ rfl ?_ ?_)
            rotate_left
            · (go_simp; (try with_reducible rfl))
            (try simp only [Act.put, Z1, Z2, Z3, Z4, Z5, Z6])
          refine no_implicit_lambda% (wpList_nil ?_)
          have hU8 := hU7.trans (hbc.mono hU7.size)
          have hb := Lib.hid (hbq.out.trans (hU8.mono hbq.out.size))
          replace hH := hH.below hU8
          replace hwq := hwq.below hU8
          clear hce hbc hU7 hU8 hH7 hbq hxa' hxb' hF2 hRl hR hc7
          -- three
          go_upto_region 28 with (fail)
          refine no_implicit_lambda% (wp_region_lit ?_)
          refine no_implicit_lambda% (wpl_val ?_ rfl ?_ ?_)
          rotate_left
          · (go_simp; (try with_reducible rfl))
          (try simp only [Act.put, Z1, Z2, Z4, Z5, Z6])
          have hce := few_any hH.arg hc1.1 (by unfold maxLen; omega)
          refine wpl_call _ _ rfl (by go_simp) _ hce ?_
          rintro e U ⟨v5, R5, rfl, hO, hR5, _, hU⟩
          refine ⟨_, rfl, ?_⟩
          have hR : Hid (his R5 = his R1) := hR5.trans hid.out
          have hRl : R5.length = R1.length := by have := congrArg List.length hR.out; rwa [his_length, his_length] at this
          clear hce hR5
          (try simp only [Act.put, Z1, Z2, Z3, Z4, Z5, Z6])
          have hgl : gw < Z8.heap.size := hwq.lt
          have hgu : gw < U.heap.size := Nat.lt_of_lt_of_le hgl hU.size
          have hww : RowIn U (.slice (some ⟨gw, 0, none⟩) 1 1) 1 pgC [q] := row_one1 (t := 41) (hwq.below hU)
          have hwne : ∀ b, v5.ownBlock = some b → gw ≠ b := fun b hb e => by have := (hO.own.lt b hb).1; omega
          have e1 := hww1.out
          iterate 4
            refine no_implicit_lambda% (wpl_val ?_ rfl ?_ ?_)
            rotate_left
            · (go_simp; (try with_reducible rfl))
            (try simp only [Act.put, Z1, Z2, Z3, Z4, Z5, Z6])
          refine wpl_val (.agg (pcA (P.wrP mo (mo + 1) q, .slice none 0 0, .slice (some ⟨gw, 0, none⟩) 1 1))) rfl (run_buildE rfl (by go_simp; exact b36b mo (mo + 1) true _ 1 1)) ?_
          (try simp only [Act.put, Z1, Z2, Z3, Z4, Z5, Z6])
          iterate 3
            refine no_implicit_lambda% (wpl_val ?_ rfl ?_ ?_)
            rotate_left
            · (go_simp; (try with_reducible rfl))
            (try simp only [Act.put, Z1, Z2, Z3, Z4, Z5, Z6])
          clear e1
          refine wpl_val (.agg #[.int .u16 q, .int .u32 0]) rfl (run_buildE rfl (by go_simp; exact b43a q)) ?_
          (try simp only [Act.put, Z1, Z2, Z3, Z4, Z5, Z6])
          have hs1 : SubAt U (P.wrP mo (mo + 1) q, .slice none 0 0, .slice (some ⟨gw, 0, none⟩) 1 1) ∧ ∀ b, vblk (Value.slice none 0 0) = some b ∨ vblk (Value.slice (some ⟨gw, 0, none⟩) 1 1) = some b → v5.ownBlock ≠ some b := by
            refine ⟨⟨row_none _ _ _, hww, hmw.out, hm1.out, fun v hv => (by cases hv), fun p hp => (by obtain rfl := List.mem_singleton.1 hp; exact hqw.out), by simp [P.wrP], by simp [P.wrP]⟩, fun b hb e => ?_⟩
            have := hwne b e
            rcases hb with hb | hb
            · cases hb
            · have e9 : gw = b := Option.some.inj hb
              omega
          have hxa' : ((P.wrP mo (mo + 1) q, .slice none 0 0, .slice (some ⟨gw, 0, none⟩) 1 1) : Rec).1 = P.wrP mo (mo + 1) q := rfl
          have hs1' : ∀ x : Rec, x = (P.wrP mo (mo + 1) q, .slice none 0 0, .slice (some ⟨gw, 0, none⟩) 1 1) → SubAt U x ∧ ∀ b, vblk x.2.1 = some b ∨ vblk x.2.2 = some b → v5.ownBlock ≠ some b := fun x hx => by subst hx; exact hs1
          clear hs1 hww hwne hgu hgl
          have hxe : ∃ xa : Rec, xa = (P.wrP mo (mo + 1) q, .slice none 0 0, .slice (some ⟨gw, 0, none⟩) 1 1) := ⟨_, rfl⟩
          generalize hxa : ((P.wrP mo (mo + 1) q, .slice none 0 0, .slice (some ⟨gw, 0, none⟩) 1 1) : Rec) = xa at *
          have hsa := hs1' xa rfl
          replace hxa' := Lib.hid hxa'
          clear hs1' hxe hxa
          refine wpl_law rfl (wp_buildSlice 33 43 1 _ rfl #[.int .u16 q, .int .u32 0] iq _ Try.underlying33 hiq zq (by rw [sq]; decide) (by rw [sq]; decide) ?c1 ?_)
          case c1 => (simp only [sq, List.map_toArray, List.map_cons, List.map_nil]; exact fill43 q 0)
          have hq1 : RowIn (U.alloc (.cells #[.int .u16 q, .int .u32 0] 43)) (.slice (some ⟨U.heap.size, 0, none⟩) 1 1) 2 seC [(q, 0)] := row_one1 (t := 43) (Blk.alloc_new _ _ _)
          have hqn : ∀ b, v5.ownBlock = some b → b < U.heap.size := fun b hb => (hO.own.lt b hb).2
          have al := (Below.refl U.heap.size U).alloc (Nat.le_refl _) (.cells #[.int .u16 q, .int .u32 0] 43)
          replace hO := hO.below al
          replace hsa : SubAt (U.alloc (.cells #[.int .u16 q, .int .u32 0] 43)) xa ∧ ∀ b, vblk xa.2.1 = some b ∨ vblk xa.2.2 = some b → v5.ownBlock ≠ some b := ⟨hsa.1.below al, hsa.2⟩
          replace hU := hU.trans (al.mono hU.size)
          clear al
          (try simp only [Act.put, Z1, Z2, Z3, Z4, Z5, Z6])
          generalize U.alloc (.cells #[.int .u16 q, .int .u32 0] 43) = U2 at *
          generalize U.heap.size = gq at *
          clear U
          refine wpl_val (.agg (pcA (P.rdP (mo + 1) q, .slice (some ⟨gq, 0, none⟩) 1 1, .slice none 0 0))) rfl (run_buildE rfl (by go_simp; exact b36a (mo + 1) true _ 1 1)) ?_
          (try simp only [Act.put, Z1, Z2, Z3, Z4, Z5, Z6])
          have hs2 : ∀ x : Rec, x = (P.rdP (mo + 1) q, .slice (some ⟨gq, 0, none⟩) 1 1, .slice none 0 0) → SubAt U2 x ∧ ∀ b, vblk x.2.1 = some b ∨ vblk x.2.2 = some b → v5.ownBlock ≠ some b := fun x hx => by
            subst hx
            refine ⟨⟨hq1, row_none _ _ _, hm1.out, wU32_of (by simp [P.rdP]), fun v hv => ?_, fun p hp => (by cases hp), by simp [P.rdP], by simp [P.rdP]⟩, fun b hb e => ?_⟩
            · obtain rfl := List.mem_singleton.1 hv
              exact ⟨hqw.out, wU32_of (by simp)⟩
            · have := hqn b e
              rcases hb with hb | hb
              · have e9 : gq = b := Option.some.inj hb
                omega
              · cases hb
          have hxb' : ((P.rdP (mo + 1) q, .slice (some ⟨gq, 0, none⟩) 1 1, .slice none 0 0) : Rec).1 = P.rdP (mo + 1) q := rfl
          generalize hxb : ((P.rdP (mo + 1) q, .slice (some ⟨gq, 0, none⟩) 1 1, .slice none 0 0) : Rec) = xb at *
          have hsb := hs2 xb rfl
          replace hxb' := Lib.hid hxb'
          clear hs2 hxb hq1 hqn
          have hX : ∀ x ∈ [xa, xb], SubAt U2 x ∧ ∀ b, vblk x.2.1 = some b ∨ vblk x.2.2 = some b → v5.ownBlock ≠ some b := fun x hx => by
            rcases List.mem_cons.1 hx with rfl | hx
            · exact hsa
            · obtain rfl := List.mem_singleton.1 hx
              exact hsb
          clear hsa hsb
          refine wpl_law rfl (wp_buildSlice 22 36 2 _ rfl ([xa, xb].flatMap pcL).toArray ie _ Try.underlying22 hie ze (by rw [se]; decide) (by rw [se]; decide) ?c1 ?_)
          case c1 => (simp only [se, List.map_toArray, List.map_cons, List.map_nil]; exact fill22 xa xb)
          have hone := Lib.hid (show ∀ x ∈ [xa, xb], ∀ u ∈ pcL x, u.oneCell' = true from fun x hx u hu => by have := (hX x hx).1.one; rw [Array.all_eq_true_iff_forall_mem] at this; exact this u (by simpa [pcA, pcL] using hu))
          have hlit : Blk (U2.alloc (.cells (([xa, xb]).flatMap pcL).toArray 36)) U2.heap.size (([xa, xb]).flatMap pcL).toArray 36 := Blk.alloc_new _ _ _
          have al := (Below.refl U2.heap.size U2).alloc (Nat.le_refl _) (.cells (([xa, xb]).flatMap pcL).toArray 36)
          have hX4 : ∀ x ∈ [xa, xb], SubAt (U2.alloc (.cells (([xa, xb]).flatMap pcL).toArray 36)) x ∧ ∀ b, vblk x.2.1 = some b ∨ vblk x.2.2 = some b → v5.ownBlock ≠ some b := fun x hx => ⟨(hX x hx).1.below al, (hX x hx).2⟩
          have hO4 := hO.below al
          have hU4 := hU.trans (al.mono hU.size)
          have hsz4 := hU4.size
          replace hX4 := Lib.hid hX4
          clear al hX hO hU
          (try simp only [Act.put, Z1, Z2, Z3, Z4, Z5, Z6])
          generalize U2.alloc (.cells (([xa, xb]).flatMap pcL).toArray 36) = U4 at *
          generalize U2.heap.size = lb at *
          refine wpl_law rfl (wp_append_src _ _ 22 rfl Z8.heap.size 36 ie _ 5 64 Try.underlying22 hie ze se ye rfl (by decide) v5 R5.length _ rfl hO4.own _ 2 (([xa, xb]).flatMap pcL) rfl (src_blk hlit) rfl (flat_one hone.out) ?_ ?_ ?_ ?_)
          · unfold maxLen; omega
          · omega
          · omega
          intro v7 W7 own7 gr7 _ hloc7
          have hO7 := hO4.pushL hX4.out own7 gr7 hloc7
          have hU7 : Below Z8.heap.size Z8 W7 := Fr.below hU4 (Fr.of_grown gr7) (Nat.le_refl _) fun i e => (hO4.own.lt i e).1
          clear hO4 hX4 own7 gr7 hloc7 hlit hone hU4 hsz4
          (try simp only [Act.put, Z1, Z2, Z3, Z4, Z5, Z6])
          obtain ⟨ao7, cap7, hve, hc7, hH7⟩ := hO7.at_
          subst hve
          have hce := check_any hH7 hc7.1 (by rw [List.length_append, hRl]; show _ + 2 ≤ 1000; omega)
          have hch : his (R5 ++ [xa, xb]) = his R1 ++ [P.wrP mo (mo + 1) q, P.rdP (mo + 1) q] := by rw [his, List.map_append, ← his, hR.out]; (show his R1 ++ [xa.1, xb.1] = _; rw [hxa'.out, hxb'.out])
          rw [hch] at hce
          clear hch hO7
          rw [hF3.out] at hce
          refine wpl_call _ _ rfl (by go_simp) _ hce ?_
          rintro e Y8 ⟨rfl, hbc⟩
          refine ⟨_, rfl, ?_⟩
          (try simp only [Act.put, Z1, Z2, Z3, Z4, Z5, Z6])
          iterate 5
            refine no_implicit_lambda% (wpl_val ?_ rfl ?_ ?_)
            rotate_left
            · (go_simp; (try with_reducible rfl))
            (try simp only [Act.put, Z1, Z2, Z3, Z4, Z5, Z6])
          refine no_implicit_lambda% (wpList_nil ?_)
          have hU8 := hU7.trans (hbc.mono hU7.size)
          have hb8 := Lib.hid (hb.out.trans (hU8.mono hb.out.size))
          clear hce hbc hU7 hU8 hH7 hb hxa' hxb' hF3 hRl hR hc7 hH hwq
          go_upto_region 29 with (fail)
          refine no_implicit_lambda% (wp_region_lit ?_)
          iterate 12
            refine no_implicit_lambda% (wpl_val ?_ rfl ?_ ?_)
            rotate_left
            · (go_simp; (try with_reducible rfl))
            (try simp only [Act.put, Z1, Z2, Z3, Z4, Z5, Z6])
          refine wpl_val (.int .u8 1) rfl (run_and rfl rfl (and1 _ _ _)) ?_
          (try simp only [Act.put, Z1, Z2, Z3, Z4, Z5, Z6])
          iterate 4
            refine no_implicit_lambda% (wpl_val ?_ rfl ?_ ?_)
            rotate_left
            · (go_simp; (try with_reducible rfl))
            (try simp only [Act.put, Z1, Z2, Z3, Z4, Z5, Z6])
          refine wpl_val (.int .u8 4) rfl (run_and rfl rfl (and4 _ _ _)) ?_
          (try simp only [Act.put, Z1, Z2, Z3, Z4, Z5, Z6])
          iterate 4
            refine no_implicit_lambda% (wpl_val ?_ rfl ?_ ?_)
            rotate_left
            · (go_simp; (try with_reducible rfl))
            (try simp only [Act.put, Z1, Z2, Z3, Z4, Z5, Z6])
          refine wpl_val (.int .u8 8) rfl (run_and rfl rfl (and8 _ _ _)) ?_
          (try simp only [Act.put, Z1, Z2, Z3, Z4, Z5, Z6])
          iterate 3
            refine no_implicit_lambda% (wpl_val ?_ rfl ?_ ?_)
            rotate_left
            · (go_simp; (try with_reducible rfl))
            (try simp only [Act.put, Z1, Z2, Z3, Z4, Z5, Z6])
          refine wpl_call _ _ rfl (by go_simp) _ (awake_any Y8) ?_
          rintro e w9 ⟨rfl, hb9⟩
          refine ⟨_, rfl, ?_⟩
          (try simp only [Act.put, Z1, Z2, Z3, Z4, Z5, Z6])
          iterate 2
            refine no_implicit_lambda% (wpl_val ?_ rfl ?_ ?_)
            rotate_left
            · (go_simp; (try with_reducible rfl))
            (try simp only [Act.put, Z1, Z2, Z3, Z4, Z5, Z6])
          refine no_implicit_lambda% (wpList_nil ?_)
          go_wp2_with fail
          go_ret
          exact ⟨rfl, hb8.out.trans (hb9.mono hb8.out.size)⟩
end Go.Proofs.Ytnemaolbmocncaa
