/- The state of Of in its loop; has. -/
import Derived.Test.YtnemaolbmocncaaOfM
import Derived.Test.YtnemaolbmocncaaSerW
namespace Go.Proofs.Ytnemaolbmocncaa
open Go.RowKit
set_option linter.unusedSimpArgs false
set_option linter.unusedVariables false
attribute [local irreducible] wpList
theorem tA1 (x : Tr) : (tdL x).toArray[1]? = some (.int .u8 x.t.kind) := rfl
theorem tA2 (x : Tr) : (tdL x).toArray[2]? = some (.int .u64 x.t.txn) := rfl
theorem tA3 (x : Tr) : (tdL x).toArray[3]? = some (.int .u16 x.t.page) := rfl
theorem tA6 (x : Tr) : (tdL x).toArray[6]? = some (.int .i64 x.t.life) := rfl
theorem tA9 (x : Tr) : (tdL x).toArray[9]? = some (.bool x.t.opn) := rfl
theorem tA10 (x : Tr) : (tdL x).toArray[10]? = some (.int .i64 x.t.err) := rfl
theorem tA11 (x : Tr) : (tdL x).toArray[11]? = some (.int .u64 x.t.rtxn) := rfl
theorem tA12 (x : Tr) : (tdL x).toArray[12]? = some (.int .u32 x.t.rts) := rfl
theorem zero82' : (Try.prog.info? 82).map (fun i => (i.zero, i.size)) = some (some (.agg #[.int .i64 0, .int .u64 0]), 2) := by kernel_rfl
theorem zero82 : (∀ w, (zeroValue 82).run Try.prog w = .ok (.agg #[.int .i64 0, .int .u64 0]) w) ∧ (Try.prog.info? 82).map (·.size) = some 2 := zero_of_info zero82'
theorem b82 (l t : Int) : Try.prog.built 82 [(0, .int .i64 l), (1, .int .u64 t)] = some #[.int .i64 l, .int .u64 t] := by kernel_rfl
theorem b36s (s : Int) : Try.prog.built 36 [(0, .int .u32 s)] = some #[.int .u32 s, .int .u32 0, .bool false, .slice none 0 0, .slice none 0 0] := by kernel_rfl
/-! ### has -/
set_option maxRecDepth 100000 in
set_option maxHeartbeats 4000000 in
theorem has_any {w : World} {ao : Option Addr} {cap : Nat} {L : List Int} (h : RowAt w ao 1 pgC L) (hL : L.length ≤ 1000) (p : Int) :
    Calls Try.prog 30 #[.slice ao L.length cap, .int .u16 p] w fun e w' => e = .returned (.bool (decide (p ∈ L))) ∧ Below w.heap.size w w' := by
  have hH := Lib.hid h
  have h0 : Hid (Below w.heap.size w w) := Below.refl _ _
  clear h
  go_enter Try.func30, Try.ntmps30
  go_upto_region 1 with (fail)
  refine no_implicit_lambda% (wp_region_lit ?_)
  refine no_implicit_lambda% (wpl_val ?_ rfl ?_ ?_)
  rotate_left
  · (go_simp; (try with_reducible rfl))
  (try simp only [Act.put, Z1, Z2, Z4, Z5, Z6])
  refine no_implicit_lambda% (wpl_val ?_ rfl ?_ ?_)
  rotate_left
  · (go_simp; (try with_reducible rfl))
  (try simp only [Act.put, Z1, Z2, Z3, Z4, Z5, Z6])
  refine no_implicit_lambda% (wpl_val ?_ rfl ?_ ?_)
  rotate_left
  · (go_simp; (try with_reducible rfl))
  (try simp only [Act.put, Z1, Z2, Z3, Z4, Z5, Z6])
  refine no_implicit_lambda% (wpList_nil ?_)
  go_wp2_with fail
  go_loopw [9] (fun i wr => ∃ m : Nat, i = .int .i64 m ∧ m ≤ L.length ∧ Below w.heap.size w wr ∧ Hid (∀ j : Nat, j < m → L[j]? ≠ some p)) (fun i _ => L.length - (intOf i).toNat)
  case atStart => exact ⟨0, rfl, Nat.zero_le _, h0.out, fun j hj => by omega⟩
  case round =>
    obtain ⟨m, rfl, hm, hS, hT⟩ := hrel
    by_cases hlm : m < L.length
    · have hlm' : (m : Int) < (L.length : Int) := by omega
      obtain ⟨q, hq⟩ : ∃ q, L[m]? = some q := ⟨_, List.getElem?_eq_getElem hlm⟩
      obtain ⟨b, o, rfl, _, hr⟩ := (hH.out.below hS) m q hq
      have hcp : wr.cell? ⟨b, o + m, none⟩ = some (.int .u16 q) := by have := hr 0 _ rfl; simpa using this
      clear hr
      go_upto_region 3 with (fail)
      refine no_implicit_lambda% (wp_region_lit ?_)
      refine no_implicit_lambda% (wpl_val ?_ rfl ?_ ?_)
      rotate_left
      · (go_simp; (try with_reducible rfl))
      (try simp only [Act.put, Z1, Z2, Z4, Z5, Z6])
      refine no_implicit_lambda% (wpl_val ?_ rfl ?_ ?_)
      rotate_left
      · (have c0 := hcp; go_simp; (try with_reducible rfl))
      (try simp only [Act.put, Z1, Z2, Z3, Z4, Z5, Z6])
      refine no_implicit_lambda% (wpl_val ?_ rfl ?_ ?_)
      rotate_left
      · (go_simp; (try with_reducible rfl))
      (try simp only [Act.put, Z1, Z2, Z3, Z4, Z5, Z6])
      refine no_implicit_lambda% (wpList_nil ?_)
      clear hcp
      by_cases he : q = p
      · have he' : (q == p) = true := by simp [he]
        have HR : Hid (decide (p ∈ L) = true) := decide_eq_true (he ▸ List.mem_of_getElem? hq)
        replace he := Lib.hid he
        clear hq
        go_upto_region 4 with (fail)
        refine no_implicit_lambda% (wp_region_lit ?_)
        iterate 3
          refine no_implicit_lambda% (wpl_val ?_ rfl ?_ ?_)
          rotate_left
          · (go_simp; (try with_reducible rfl))
          (try simp only [Act.put, Z1, Z2, Z3, Z4, Z5, Z6])
        refine no_implicit_lambda% (wpList_nil ?_)
        go_wp2_with fail
        go_ret
        rw [HR.out]
        exact ⟨rfl, hS⟩
      · have he' : (q == p) = false := by simp [he]
        have hT2 : Hid (∀ j : Nat, j < m + 1 → L[j]? ≠ some p) := fun j hj e => by
          by_cases e1 : j = m
          · rw [e1, hq] at e; exact he (Option.some.inj e)
          · exact hT.out j (by omega) e
        replace he := Lib.hid he
        clear hq hT
        go_upto_region 4 with (fail)
        refine no_implicit_lambda% (wp_region_lit ?_)
        iterate 3
          refine no_implicit_lambda% (wpl_val ?_ rfl ?_ ?_)
          rotate_left
          · (go_simp; (try with_reducible rfl))
          (try simp only [Act.put, Z1, Z2, Z3, Z4, Z5, Z6])
        refine no_implicit_lambda% (wpList_nil ?_)
        go_wp2_with fail
        go_roundw
        case rel => exact ⟨m + 1, by go_num, by omega, hS, hT2⟩
        case measure => simp [intOf]; omega
    · obtain rfl : m = L.length := by omega
      have HR : Hid (decide (p ∈ L) = false) := decide_eq_false fun e => by
        obtain ⟨j, hj⟩ := List.mem_iff_getElem?.1 e
        exact hT.out j (List.getElem?_eq_some_iff.1 hj).1 hj
      clear hT hlm
      go_wp2_with fail
      go_ret
      rw [HR.out]
      exact ⟨rfl, hS⟩
set_option maxRecDepth 100000 in
set_option maxHeartbeats 4000000 in
theorem rhas_any {w : World} {ao : Option Addr} {cap : Nat} {L : List Int} (h : RowAt w ao 1 pgC L) (hL : L.length ≤ 1000) (p : Int) :
    Calls Try.prog 32 #[.slice ao L.length cap, .int .u16 p] w fun e w' => e = .returned (.bool (decide (p ∈ L))) ∧ Below w.heap.size w w' := by
  have hH := Lib.hid h
  have h0 : Hid (Below w.heap.size w w) := Below.refl _ _
  clear h
  go_enter Try.func32, Try.ntmps32
  go_upto_region 1 with (fail)
  refine no_implicit_lambda% (wp_region_lit ?_)
  refine no_implicit_lambda% (wpl_val ?_ rfl ?_ ?_)
  rotate_left
  · (go_simp; (try with_reducible rfl))
  (try simp only [Act.put, Z1, Z2, Z4, Z5, Z6])
  refine no_implicit_lambda% (wpl_val ?_ rfl ?_ ?_)
  rotate_left
  · (go_simp; (try with_reducible rfl))
  (try simp only [Act.put, Z1, Z2, Z3, Z4, Z5, Z6])
  refine no_implicit_lambda% (wpl_val ?_ rfl ?_ ?_)
  rotate_left
  · (go_simp; (try with_reducible rfl))
  (try simp only [Act.put, Z1, Z2, Z3, Z4, Z5, Z6])
  refine no_implicit_lambda% (wpList_nil ?_)
  go_wp2_with fail
  go_loopw [9] (fun i wr => ∃ m : Nat, i = .int .i64 m ∧ m ≤ L.length ∧ Below w.heap.size w wr ∧ Hid (∀ j : Nat, j < m → L[j]? ≠ some p)) (fun i _ => L.length - (intOf i).toNat)
  case atStart => exact ⟨0, rfl, Nat.zero_le _, h0.out, fun j hj => by omega⟩
  case round =>
    obtain ⟨m, rfl, hm, hS, hT⟩ := hrel
    by_cases hlm : m < L.length
    · have hlm' : (m : Int) < (L.length : Int) := by omega
      obtain ⟨q, hq⟩ : ∃ q, L[m]? = some q := ⟨_, List.getElem?_eq_getElem hlm⟩
      obtain ⟨b, o, rfl, _, hr⟩ := (hH.out.below hS) m q hq
      have hcp : wr.cell? ⟨b, o + m, none⟩ = some (.int .u16 q) := by have := hr 0 _ rfl; simpa using this
      clear hr
      go_upto_region 3 with (fail)
      refine no_implicit_lambda% (wp_region_lit ?_)
      refine no_implicit_lambda% (wpl_val ?_ rfl ?_ ?_)
      rotate_left
      · (go_simp; (try with_reducible rfl))
      (try simp only [Act.put, Z1, Z2, Z4, Z5, Z6])
      refine no_implicit_lambda% (wpl_val ?_ rfl ?_ ?_)
      rotate_left
      · (have c0 := hcp; go_simp; (try with_reducible rfl))
      (try simp only [Act.put, Z1, Z2, Z3, Z4, Z5, Z6])
      refine no_implicit_lambda% (wpl_val ?_ rfl ?_ ?_)
      rotate_left
      · (go_simp; (try with_reducible rfl))
      (try simp only [Act.put, Z1, Z2, Z3, Z4, Z5, Z6])
      refine no_implicit_lambda% (wpList_nil ?_)
      clear hcp
      by_cases he : q = p
      · have he' : (q == p) = true := by simp [he]
        have HR : Hid (decide (p ∈ L) = true) := decide_eq_true (he ▸ List.mem_of_getElem? hq)
        replace he := Lib.hid he
        clear hq
        go_upto_region 4 with (fail)
        refine no_implicit_lambda% (wp_region_lit ?_)
        iterate 3
          refine no_implicit_lambda% (wpl_val ?_ rfl ?_ ?_)
          rotate_left
          · (go_simp; (try with_reducible rfl))
          (try simp only [Act.put, Z1, Z2, Z3, Z4, Z5, Z6])
        refine no_implicit_lambda% (wpList_nil ?_)
        go_wp2_with fail
        go_ret
        rw [HR.out]
        exact ⟨rfl, hS⟩
      · have he' : (q == p) = false := by simp [he]
        have hT2 : Hid (∀ j : Nat, j < m + 1 → L[j]? ≠ some p) := fun j hj e => by
          by_cases e1 : j = m
          · rw [e1, hq] at e; exact he (Option.some.inj e)
          · exact hT.out j (by omega) e
        replace he := Lib.hid he
        clear hq hT
        go_upto_region 4 with (fail)
        refine no_implicit_lambda% (wp_region_lit ?_)
        iterate 3
          refine no_implicit_lambda% (wpl_val ?_ rfl ?_ ?_)
          rotate_left
          · (go_simp; (try with_reducible rfl))
          (try simp only [Act.put, Z1, Z2, Z3, Z4, Z5, Z6])
        refine no_implicit_lambda% (wpList_nil ?_)
        go_wp2_with fail
        go_roundw
        case rel => exact ⟨m + 1, by go_num, by omega, hS, hT2⟩
        case measure => simp [intOf]; omega
    · obtain rfl : m = L.length := by omega
      have HR : Hid (decide (p ∈ L) = false) := decide_eq_false fun e => by
        obtain ⟨j, hj⟩ := List.mem_iff_getElem?.1 e
        exact hT.out j (List.getElem?_eq_some_iff.1 hj).1 hj
      clear hT hlm
      go_wp2_with fail
      go_ret
      rw [HR.out]
      exact ⟨rfl, hS⟩
/-! ### The state -/
structure OS (w W : World) (r : Nat) (v : Value) (R : List Rec) (B : List ((Int × Int) × Nat)) : Prop where
  bel : Below w.heap.size w W
  key : KeyAt W r B
  ot : OT (r + 1) W v R
  ge : w.heap.size ≤ r
section
variable {w W W' : World} {r : Nat} {v : Value} {R : List Rec} {B : List ((Int × Int) × Nat)}
theorem OS.go (h : OS w W r v R B) (k : Below W.heap.size W W') : OS w W' r v R B := ⟨h.bel.trans (k.mono h.bel.size), h.key.below k, h.ot.below k, h.ge⟩
/-- Who begins has a number. -/
theorem OS.num (h : OS w W r v R B) {k : Int × Int} (hk : DK k) (n : Nat) :
    ∃ w', (Instr.mapUpdate 80 (.map (some r)) (.agg #[.int .i64 k.1, .int .u64 k.2]) (.int .i64 n)).run Try.prog W = .ok () w' ∧ OS w w' r v R (G.put B k n) ∧ Fr (fun b => b = r) W w' := by
  obtain ⟨w', h1, h2, h3⟩ := h.key.put hk n
  exact ⟨w', h1, ⟨Fr.below h.bel h3 (Nat.le_refl _) fun i e => e ▸ h.ge, h2, h.ot.fr h3 fun b hb _ e => by omega, h.ge⟩, h3⟩
theorem OS.push (h : OS w W r v R B) {v' : Value} {a : P.Pst} (ha : a.reads = []) (hb : a.writes = []) (hok : Pok a) (own : W'.ownsRow (r + 1) 36 5 v' (R.length + 1) (R.flatMap pcL ++ pcL (a, .slice none 0 0, .slice none 0 0))) (gr : W.grownBy W' v.ownBlock)
    (hl : v'.ownBlock = v.ownBlock ∨ v'.ownBlock = some W.heap.size) : OS w W' r v' (R ++ [(a, .slice none 0 0, .slice none 0 0)]) B := by
  have k := Fr.of_grown gr
  have hlo : ∀ b, v.ownBlock = some b → r + 1 ≤ b := fun b e => (h.ot.own.lt b e).1
  exact ⟨Fr.below h.bel k (Nat.le_refl _) fun i e => by have := hlo i e; have := h.ge; omega, h.key.fr k fun e => by have := hlo r e; omega, h.ot.push ha hb hok own gr hl, h.ge⟩
theorem OS.upd (h : OS w W r v R B) {i : Nat} {x : Rec} (hx : R[i]? = some x) (c : Bool) {w1 : World} (gr : W.grownBy w1 (sel c x).ownBlock) {y : Rec}
    (ho : sel (!c) y = sel (!c) x) (hr : w1.ownsRow (r + 1) 43 2 y.2.1 y.1.reads.length (y.1.reads.flatMap seC)) (hw : w1.ownsRow (r + 1) 41 1 y.2.2 y.1.writes.length (y.1.writes.flatMap pgC))
    (hl : (sel c y).ownBlock = (sel c x).ownBlock ∨ (sel c y).ownBlock = some W.heap.size) {j : Nat} {u : Value} (hc : pcL y = (pcL x).set j u) (hj : j < 5) (hok : Pok y.1) {g : Nat} (hg : v.ownBlock = some g) :
    OS w (w1.setCell ⟨g, i * 5 + j, none⟩ u) r v (R.set i y) B := by
  have k1 := Fr.of_grown gr
  have k2 : Fr (fun b => b = g) w1 (w1.setCell ⟨g, i * 5 + j, none⟩ u) := (Fr.refl _ _).setCell _ _ fun _ => rfl
  have h1 : ∀ b, (sel c x).ownBlock = some b → r + 1 ≤ b := fun b e => (h.ot.sub_lt hx e).1
  have h2 : r + 1 ≤ g := (h.ot.own.lt g hg).1
  have hge := h.ge
  exact ⟨Fr.below (Fr.below h.bel k1 (Nat.le_refl _) fun b e => by have := h1 b e; omega) k2 (Nat.le_refl _) fun b e => by omega,
    (h.key.fr k1 fun e => by have := h1 r e; omega).fr k2 (by omega), h.ot.upd hx c gr ho hr hw hl hc hj hok hg, h.ge⟩
/-- Where a transaction stands. -/
theorem OT.spot {base : Nat} {w : World} (h : OT base w v R) {i : Nat} {x : Rec} (hx : R[i]? = some x) : ∃ g cap, v = .slice (some ⟨g, 0, none⟩) R.length cap ∧ base ≤ g ∧ (∀ j u, (pcL x)[j]? = some u → w.cell? ⟨g, i * 5 + j, none⟩ = some u) ∧ ∀ j, w.frozen? ⟨g, j, none⟩ = false := by
  have hi := (List.getElem?_eq_some_iff.1 hx).1
  rcases own_cases_n h.own with ⟨_, h1, _⟩ | ⟨g, cap, rfl, _, _, hb, _, hcell, hfz⟩
  · omega
  · refine ⟨g, cap, rfl, hb, fun j u hu => ?_, hfz⟩
    have hj : j < 5 := (List.getElem?_eq_some_iff.1 hu).1
    rw [hcell _ (by omega), flat_get pcL_length hx hj]
    exact hu
theorem own_ne_blk {w : World} {base b sz n : Nat} {e t : TypeId} {v : Value} {xs : List Value} {cs : Array Value} (h : w.ownsRow base e sz v n xs) (hb : v.ownBlock = some b) (hB : Blk w b cs t) : e = t := by
  rcases h.2 with ⟨rfl, _⟩ | ⟨g, cap, cur, rfl, _, hg, _⟩
  · cases hb
  · obtain rfl := Option.some.inj hb
    have h1 : w.heap[g]? = some (.cells cs t (0, 0)) := hB
    rw [hg] at h1
    injection h1 with h1
    injection h1
theorem sel_ne_blk {base b : Nat} {w : World} (h : OT base w v R) {i : Nat} {x : Rec} (hx : R[i]? = some x) {c : Bool} {t : TypeId} {cs : Array Value} (hb : (sel c x).ownBlock = some b) (hB : Blk w b cs t) : t = 43 ∨ t = 41 := by
  cases c with
  | true => exact .inr (own_ne_blk (h.wt i x hx) hb hB).symm
  | false => exact .inl (own_ne_blk (h.rd i x hx) hb hB).symm
end
/-! ### The plain way, step by step -/
theorem tds_take {T : List Tr} {k : Nat} {x : Tr} (hx : T[k]? = some x) : tds (T.take (k + 1)) = tds (T.take k) ++ [x.t] := by
  unfold tds
  rw [List.take_add_one, hx]
  simp
theorem of_step {T : List Tr} {k : Nat} {x : Tr} (hx : T[k]? = some x) {s : List ((Int × Int) × Nat) × List P.Pst} (hs : (tds (T.take k)).foldl P.ofS ([], []) = s) : (tds (T.take (k + 1))).foldl P.ofS ([], []) = P.ofS s x.t := by
  rw [tds_take hx, List.foldl_append, hs]; rfl
theorem of_lt {L : List P.Td} {B : List ((Int × Int) × Nat)} {R : List P.Pst} (hs : L.foldl P.ofS ([], []) = (B, R)) {k : Int × Int} {i : Nat} (hg : G.get B k = some i) : i < R.length := by
  have h := P.Stp.start.all L
  rw [hs] at h
  obtain ⟨e, h1, _⟩ := (h.at_ k i).1 hg
  have h2 := h.out
  dsimp only at h2
  rw [h2, List.length_map]
  exact (List.getElem?_eq_some_iff.1 h1).1
section
variable {B : List ((Int × Int) × Nat)} {R : List Rec} {t : P.Td}
theorem ofS_off (h : ¬ t.cnt = true) (s : List ((Int × Int) × Nat) × List P.Pst) : P.ofS s t = s := by unfold P.ofS; rw [if_neg h]
theorem ofS_beg (h : t.cnt = true) (hk : t.kind = 0) : P.ofS (B, his R) t = (G.put B (t.life, t.rtxn) R.length, his (R ++ [(P.beg t, .slice none 0 0, .slice none 0 0)])) := by
  unfold P.ofS
  rw [if_pos h, if_pos hk]
  show (G.put B (t.life, t.rtxn) (his R).length, his R ++ [P.beg t]) = _
  rw [his_length, his, his, List.map_append]; rfl
theorem ofS_none (h : t.cnt = true) (hk : t.kind ≠ 0) (hg : G.get B (t.life, t.txn) = none) : P.ofS (B, his R) t = (B, his R) := by
  unfold P.ofS
  rw [if_pos h, if_neg hk, hg]
theorem his_set (R : List Rec) (i : Nat) (y : Rec) : his (R.set i y) = (his R).set i y.1 := by unfold his; rw [List.map_set]
theorem ofS_upd (h : t.cnt = true) (hk : t.kind ≠ 0) {i : Nat} (hg : G.get B (t.life, t.txn) = some i) {x y : Rec} (hx : R[i]? = some x) (hy : y.1 = P.upd x.1 t) : P.ofS (B, his R) t = (B, his (R.set i y)) := by
  unfold P.ofS
  rw [if_pos h, if_neg hk, hg]
  show (B, (his R).modify i _) = _
  rw [his_set, hy]
  refine Prod.ext rfl (List.ext_getElem? fun j => ?_)
  rw [List.getElem?_modify, List.getElem?_set]
  have hi := (List.getElem?_eq_some_iff.1 (his_get hx)).1
  by_cases e : i = j
  · subst e
    rw [his_get hx]; simp; rw [← his_length]; exact hi
  · simp [e]
theorem ofS_same (h : t.cnt = true) (hk : t.kind ≠ 0) {i : Nat} (hg : G.get B (t.life, t.txn) = some i) {x : Rec} (hx : R[i]? = some x) (hy : P.upd x.1 t = x.1) : P.ofS (B, his R) t = (B, his R) := by
  rw [ofS_upd h hk hg hx hy.symm]
  rw [his_set]
  refine Prod.ext rfl (List.ext_getElem? fun j => ?_)
  show ((his R).set i x.1)[j]? = (his R)[j]?
  rw [List.getElem?_set]
  by_cases e : i = j
  · subst e
    rw [if_pos rfl, if_pos (List.getElem?_eq_some_iff.1 (his_get hx)).1, his_get hx]
  · rw [if_neg e]
end
section
variable {W : World} {bx : Nat} {x : Tr} {t : TypeId}
theorem tk (h : Blk W bx (tdL x).toArray t) : W.cell? ⟨bx, 1, none⟩ = some (.int .u8 x.t.kind) := by rw [h.cell]; exact tA1 x
theorem tt (h : Blk W bx (tdL x).toArray t) : W.cell? ⟨bx, 2, none⟩ = some (.int .u64 x.t.txn) := by rw [h.cell]; exact tA2 x
theorem tp (h : Blk W bx (tdL x).toArray t) : W.cell? ⟨bx, 3, none⟩ = some (.int .u16 x.t.page) := by rw [h.cell]; exact tA3 x
theorem tl (h : Blk W bx (tdL x).toArray t) : W.cell? ⟨bx, 6, none⟩ = some (.int .i64 x.t.life) := by rw [h.cell]; exact tA6 x
theorem to_ (h : Blk W bx (tdL x).toArray t) : W.cell? ⟨bx, 9, none⟩ = some (.bool x.t.opn) := by rw [h.cell]; exact tA9 x
theorem te (h : Blk W bx (tdL x).toArray t) : W.cell? ⟨bx, 10, none⟩ = some (.int .i64 x.t.err) := by rw [h.cell]; exact tA10 x
theorem tr (h : Blk W bx (tdL x).toArray t) : W.cell? ⟨bx, 11, none⟩ = some (.int .u64 x.t.rtxn) := by rw [h.cell]; exact tA11 x
theorem ts (h : Blk W bx (tdL x).toArray t) : W.cell? ⟨bx, 12, none⟩ = some (.int .u32 x.t.rts) := by rw [h.cell]; exact tA12 x
end
theorem OT.cell {base : Nat} {w : World} {R : List Rec} {g n cap : Nat} (h : OT base w (.slice (some ⟨g, 0, none⟩) n cap) R) {i : Nat} {x : Rec} (hx : R[i]? = some x) {j : Nat} {u : Value} (hu : (pcL x)[j]? = some u) : w.cell? ⟨g, i * 5 + j, none⟩ = some u := by
  obtain ⟨g', cap', e, _, hc, _⟩ := h.spot hx
  injection e with e1
  injection e1 with e1
  injection e1 with e1
  subst e1
  exact hc j u hu
theorem OT.free {base : Nat} {w : World} {R : List Rec} {g n cap : Nat} (h : OT base w (.slice (some ⟨g, 0, none⟩) n cap) R) {i : Nat} {x : Rec} (hx : R[i]? = some x) (j : Nat) : w.frozen? ⟨g, j, none⟩ = false := by
  obtain ⟨g', cap', e, _, _, hf⟩ := h.spot hx
  injection e with e1
  injection e1 with e1
  injection e1 with e1
  subst e1
  exact hf j
theorem zero61'' : ∀ w, (zeroValue 61).run Try.prog w = .ok (.agg (tdL noT).toArray) w := zero61.1
theorem upd_rd {a : P.Pst} {t : P.Td} (hk : t.kind = 1) (hp : t.page ∉ a.writes) : P.upd a t = { a with reads := a.reads ++ [(t.page, t.rts)] } := by unfold P.upd; rw [if_pos hk, if_neg hp]
theorem upd_rd' {a : P.Pst} {t : P.Td} (hk : t.kind = 1) (hp : t.page ∈ a.writes) : P.upd a t = a := by unfold P.upd; rw [if_pos hk, if_pos hp]
theorem upd_wt {a : P.Pst} {t : P.Td} (hk : t.kind = 2) (hp : t.page ∉ a.writes) : P.upd a t = { a with writes := a.writes ++ [t.page] } := by unfold P.upd; rw [if_neg (by omega), if_pos hk, if_neg hp]
theorem upd_wt' {a : P.Pst} {t : P.Td} (hk : t.kind = 2) (hp : t.page ∈ a.writes) : P.upd a t = a := by unfold P.upd; rw [if_neg (by omega), if_pos hk, if_pos hp]
theorem upd_cm {a : P.Pst} {t : P.Td} (hk : t.kind = 3) : P.upd a t = { a with done := true, commit := if 0 < a.writes.length then t.rts else a.commit } := by unfold P.upd; rw [if_neg (by omega), if_neg (by omega), if_pos hk]
theorem upd_no {a : P.Pst} {t : P.Td} (h1 : t.kind ≠ 1) (h2 : t.kind ≠ 2) (h3 : t.kind ≠ 3) : P.upd a t = a := by unfold P.upd; rw [if_neg h1, if_neg h2, if_neg h3]
/-- How long the lists may be. -/
structure Nk (R : List Rec) (k : Nat) : Prop where
  n : R.length ≤ k
  l : ∀ x ∈ R, x.1.reads.length ≤ k ∧ x.1.writes.length ≤ k
theorem Nk.up {R : List Rec} {k : Nat} (h : Nk R k) : Nk R (k + 1) := ⟨by have := h.n; omega, fun x hx => by have := h.l x hx; omega⟩
theorem Nk.set {R : List Rec} {k : Nat} (h : Nk R k) {i : Nat} {y : Rec} (h1 : y.1.reads.length ≤ k + 1) (h2 : y.1.writes.length ≤ k + 1) : Nk (R.set i y) (k + 1) :=
  ⟨by rw [List.length_set]; have := h.n; omega, fun x hx => by
    rcases List.mem_or_eq_of_mem_set hx with hx | rfl
    · have := h.l x hx; omega
    · exact ⟨h1, h2⟩⟩
theorem Nk.push {R : List Rec} {k : Nat} (h : Nk R k) {y : Rec} (h1 : y.1.reads = []) (h2 : y.1.writes = []) : Nk (R ++ [y]) (k + 1) :=
  ⟨by rw [List.length_append]; have := h.n; simp; omega, fun x hx => by
    rcases List.mem_append.1 hx with hx | hx
    · have := h.l x hx; omega
    · rw [List.mem_singleton.1 hx, h1, h2]; simp⟩
end Go.Proofs.Ytnemaolbmocncaa
