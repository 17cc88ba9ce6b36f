/- The walk of HistSerial. -/
import Derived.Test.YtnemaolbmocncaaSerP
import Derived.Test.YtnemaolbmocncaaTurnedW
namespace Go.Proofs.Ytnemaolbmocncaa
open Go.RowKit Go.WideShapes Go.Deep Go.ChangeShapes
set_option linter.unusedSimpArgs false
set_option linter.unusedVariables false
attribute [local irreducible] wpList
/-! ### Rows of rows of bytes -/
def u8C (x : Int) : List Value := [.int .u8 x]
abbrev Row8 := List Int × Value
def rwC (x : Row8) : List Value := [x.2]
structure R8At (w : World) (ao : Option Addr) (L : List Row8) : Prop where
  row : RowAt w ao 1 rwC L
  sub : ∀ x ∈ L, RowIn w x.2 1 u8C x.1 ∧ (∀ u ∈ x.1, 0 ≤ u ∧ u ≤ 255) ∧ x.1.length ≤ maxLen
theorem R8At.below {w w' : World} {ao : Option Addr} {L : List Row8} (h : R8At w ao L) (k : Below w.heap.size w w') : R8At w' ao L := ⟨h.row.below k, fun x hx => ⟨(h.sub x hx).1.below k, (h.sub x hx).2⟩⟩
theorem cells40 : Try.prog.cellsOf 40 = 1 := by kernel_rfl
theorem cells5 : Try.prog.cellsOf 5 = 1 := by kernel_rfl
instance : Inhabited Row8 := ⟨([], .slice none 0 0)⟩
section
variable {H : Type} {enc : TypeId × Value → H} {w : World}
theorem u8_cells {fuel : Nat} {cs : List Value} {x : DataW H × List MemPlace} (h : DataW.trod enc Try.prog w 0 (fun _ => true) true fuel 5 cs = some x) : ∃ p : Int, cs = u8C p ∧ (0 ≤ p ∧ p ≤ 255) := by
  obtain ⟨p, hp, _, wp⟩ := DataW.trod_int Try.underlying5 h
  exact ⟨p, hp, wf_u8 wp⟩
theorem row8_cells {fuel : Nat} {cs : List Value} {x : DataW H × List MemPlace} (h : DataW.trod enc Try.prog w 0 (fun _ => true) true fuel 40 cs = some x) :
    ∃ x : Row8, cs = rwC x ∧ RowIn w x.2 1 u8C x.1 ∧ (∀ u ∈ x.1, 0 ≤ u ∧ u ≤ 255) ∧ x.1.length ≤ maxLen := by
  obtain ⟨ao, cap, L, hc, hr, hok, hcap, hm⟩ := open_rows Try.underlying40 cells5 (by decide) u8C (fun p => 0 ≤ p ∧ p ≤ 255) (fun _ => rfl) u8_cells h
  exact ⟨(L, .slice ao L.length cap), hc, ⟨ao, cap, rfl, hcap, hr⟩, hok, hm⟩
theorem open_rows8 {r : Reach} {b0 : Nat} {v : Value} {d : DataW H} {p : List MemPlace} (hv : Value.okWide Try.prog w r b0 38 v) (h : DataW.Trod enc Try.prog w 0 (fun _ => true) true 38 v d p) :
    ∃ ao cap, ∃ L : List Row8, v = .slice ao L.length cap ∧ R8At w ao L ∧ (L.length ≤ cap ∧ (ao = none → cap = 0)) ∧ L.length ≤ maxLen := by
  obtain ⟨ao, n, cap, rfl⟩ := okWide_slice Try.underlying38 hv
  obtain ⟨fuel, hf⟩ := h
  obtain ⟨ao', cap', R, hc, hr, hok, hcap, hm⟩ := open_rows Try.underlying38 cells40 (by decide) rwC (fun x => RowIn w x.2 1 u8C x.1 ∧ (∀ u ∈ x.1, 0 ≤ u ∧ u ≤ 255) ∧ x.1.length ≤ maxLen) (fun _ => rfl) row8_cells hf
  have hc' : Value.slice ao n cap = .slice ao' R.length cap' := by simpa [Value.cells] using hc
  exact ⟨ao', cap', R, hc', ⟨hr, hok⟩, hcap, hm⟩
end
/-! ### The array of what was written last -/
def nwA (f : Int → Int) : Array Value := #[.int .u32 (f 0), .int .u32 (f 1), .int .u32 (f 2), .int .u32 (f 3)]
theorem nw_get {w : World} {b : Nat} {f : Int → Int} {t : TypeId} (h : Blk w b (nwA f) t) {p : Nat} (hp : p < 4) : w.cell? ⟨b, p, none⟩ = some (.int .u32 (f p)) := by
  rw [h.cell]
  match p, hp with
  | 0, _ => rfl
  | 1, _ => rfl
  | 2, _ => rfl
  | 3, _ => rfl
theorem nw_set (f : Int → Int) {p : Nat} (hp : p < 4) (t : Int) : (nwA f).setIfInBounds p (.int .u32 t) = nwA (fun q => if q = (p : Int) then t else f q) := by
  match p, hp with
  | 0, _ => rfl
  | 1, _ => rfl
  | 2, _ => rfl
  | 3, _ => rfl
theorem nw_congr {f g : Int → Int} (h : ∀ p, 0 ≤ p → p < 4 → f p = g p) : nwA f = nwA g := by
  unfold nwA
  rw [h 0 (by decide) (by decide), h 1 (by decide) (by decide), h 2 (by decide) (by decide), h 3 (by decide) (by decide)]
theorem zero39' : (Try.prog.info? 39).map (fun i => (i.zero, i.size)) = some (some (.agg (nwA fun _ => 0)), 4) := by kernel_rfl
theorem zero39 : (∀ w, (zeroValue 39).run Try.prog w = .ok (.agg (nwA fun _ => 0)) w) ∧ (Try.prog.info? 39).map (·.size) = some 4 := zero_of_info zero39'
theorem fill43s (p t : Int) : Instr.fill (fun i => some (i * 2, 2)) ((Array.range (1 * 2)).map ((Value.agg #[.int .u16 0, .int .u32 0]).cells[· % (Value.agg #[.int .u16 0, .int .u32 0]).cells.size]!)) [(0, .agg #[.int .u16 p, .int .u32 t])] = some #[.int .u16 p, .int .u32 t] := by kernel_rfl
theorem b36c (s : Int) (d : Bool) : Try.prog.built 36 [(0, .int .u32 s), (2, .bool d)] = some #[.int .u32 s, .int .u32 0, .bool d, .slice none 0 0, .slice none 0 0] := by kernel_rfl
theorem md_lt {x : Int} (h : 0 ≤ x ∧ x ≤ 255) : ∃ p : Nat, x.tmod 4 = (p : Int) ∧ p < 4 := ⟨(x.tmod 4).toNat, by rw [Int.tmod_eq_emod_of_nonneg h.1]; omega⟩
def rds (nw : Int → Int) (r : List Int) (j : Nat) : List (Int × Int) := ((r.take j).map fun x => x.tmod 4).map fun p => (p, nw p)
def wts (r : List Int) (j : Nat) : List Int := (r.take j).map fun x => x.tmod 4
theorem rds_succ {nw : Int → Int} {r : List Int} {j : Nat} {x : Int} (h : r[j]? = some x) : rds nw r (j + 1) = rds nw r j ++ [(x.tmod 4, nw (x.tmod 4))] := by
  unfold rds
  rw [List.take_add_one, h, List.map_append, List.map_append]; rfl
theorem wts_succ {r : List Int} {j : Nat} {x : Int} (h : r[j]? = some x) : wts r (j + 1) = wts r j ++ [x.tmod 4] := by
  unfold wts
  rw [List.take_add_one, h, List.map_append]; rfl
/-- What stands while a transaction is made: nothing below block bx but this. -/
structure SO (w wr : World) (nb : Nat) (nw : Int → Int) (B0 : Nat) (l : Value) (Rl : List Rec) (bx : Nat) : Prop where
  below : Below w.heap.size w wr
  nbk : Blk wr nb (nwA nw) 39
  own : OwnH B0 wr l Rl
  lo : w.heap.size ≤ nb ∧ nb < B0 ∧ B0 ≤ bx ∧ w.heap.size ≤ B0 ∧ bx ≤ wr.heap.size
  lt : (∀ b, l.ownBlock = some b → B0 ≤ b ∧ b < bx) ∧ ∀ x ∈ Rl, ∀ b, vblk x.2.1 = some b ∨ vblk x.2.2 = some b → B0 ≤ b ∧ b < bx
theorem SO.gen {w wr w' : World} {nb : Nat} {nw : Int → Int} {B0 : Nat} {l : Value} {Rl : List Rec} {bx : Nat} (h : SO w wr nb nw B0 l Rl bx) {S : Nat → Prop} (k : Fr S wr w') (hS : ∀ i, S i → bx ≤ i) : SO w w' nb nw B0 l Rl bx := by
  have hlo := h.lo
  refine ⟨Fr.below h.below k (Nat.le_refl _) fun i hi => by have := hS i hi; omega, h.nbk.fr k fun e => by have := hS _ e; omega, ⟨own_fr h.own.own k fun b hb e => by have := h.lt.1 b hb; have := hS _ e; omega, fun x hx => (h.own.sub x hx).fr k fun b hb e => by have := h.lt.2 x hx b hb; have := hS _ e; omega, h.own.apart⟩, ⟨hlo.1, hlo.2.1, hlo.2.2.1, hlo.2.2.2.1, Nat.le_trans hlo.2.2.2.2 k.size⟩, h.lt⟩
theorem SO.go {w wr w' : World} {nb : Nat} {nw : Int → Int} {B0 : Nat} {l : Value} {Rl : List Rec} {bx : Nat} (h : SO w wr nb nw B0 l Rl bx) (k : Below wr.heap.size wr w') : SO w w' nb nw B0 l Rl bx := h.gen (Fr.of_below k fun _ => False) fun _ e => e.elim
/-- .. and the box with its two rows. -/
structure SS (w wr : World) (nb : Nat) (nw : Int → Int) (B0 : Nat) (l : Value) (Rl : List Rec) (bx : Nat) (a : P.Pst) (rv wv : Value) : Prop where
  so : SO w wr nb nw B0 l Rl bx
  box : Blk wr bx (pcA (a, rv, wv)) 36
  rd : wr.ownsRow (bx + 1) 43 2 rv a.reads.length (a.reads.flatMap seC)
  wt : wr.ownsRow (bx + 1) 41 1 wv a.writes.length (a.writes.flatMap pgC)
  ne : ∀ b, rv.ownBlock = some b → wv.ownBlock ≠ some b
theorem SS.go {w wr w' : World} {nb : Nat} {nw : Int → Int} {B0 : Nat} {l : Value} {Rl : List Rec} {bx : Nat} {a : P.Pst} {rv wv : Value} (h : SS w wr nb nw B0 l Rl bx a rv wv) (k : Below wr.heap.size wr w') : SS w w' nb nw B0 l Rl bx a rv wv :=
  ⟨h.so.go k, h.box.below k, own_fr h.rd (Fr.of_below k fun _ => False) (fun _ _ e => e), own_fr h.wt (Fr.of_below k fun _ => False) (fun _ _ e => e), h.ne⟩
/-- A read more. -/
theorem SS.putR {w wr w1 : World} {nb : Nat} {nw : Int → Int} {B0 : Nat} {l : Value} {Rl : List Rec} {bx : Nat} {a : P.Pst} {rv wv rv' : Value} (h : SS w wr nb nw B0 l Rl bx a rv wv) {x : Int × Int}
    (own : w1.ownsRow (bx + 1) 43 2 rv' (a.reads.length + 1) (a.reads.flatMap seC ++ seC x)) (gr : wr.grownBy w1 rv.ownBlock) (hl : rv'.ownBlock = rv.ownBlock ∨ rv'.ownBlock = some wr.heap.size) :
    SS w (w1.setCell ⟨bx, 3, none⟩ rv') nb nw B0 l Rl bx { a with reads := a.reads ++ [x] } rv' wv := by
  have k1 := Fr.of_grown gr
  have k2 : Fr (fun i => i = bx) w1 (w1.setCell ⟨bx, 3, none⟩ rv') := (Fr.refl _ _).setCell _ _ fun _ => rfl
  have hr := fun b (hb : rv.ownBlock = some b) => (h.rd.lt b hb).1
  have hw := fun b (hb : wv.ownBlock = some b) => h.wt.lt b hb
  have hbx := h.box.lt
  have hr' : ∀ b, rv'.ownBlock = some b → bx < b := fun b hb => by
    rcases hl with e | e
    · exact hr b (e ▸ hb)
    · rw [hb] at e; have := Option.some.inj e; omega
  refine ⟨(h.so.gen k1 fun i e => by have := hr i e; omega).gen k2 fun i e => by omega, ?_, ?_, own_fr (own_fr h.wt k1 fun b hb e => h.ne b e hb) k2 fun b hb e => by have := (hw b hb).1; omega, fun b hb e => ?_⟩
  · exact box_set (h.box.fr k1 fun e => by have := hr bx e; omega) 3 rv'
  · show World.ownsRow _ _ _ _ _ (a.reads ++ [x]).length ((a.reads ++ [x]).flatMap seC)
    rw [List.length_append, List.flatMap_append]
    exact own_fr (by simpa using own) k2 fun b hb e => by have := hr' b hb; omega
  · rcases hl with e1 | e1
    · exact h.ne b (e1 ▸ hb) e
    · rw [hb] at e1; have := Option.some.inj e1; have := (hw b e).2; omega
/-- A write more. -/
theorem SS.putW {w wr w1 : World} {nb : Nat} {nw : Int → Int} {B0 : Nat} {l : Value} {Rl : List Rec} {bx : Nat} {a : P.Pst} {rv wv wv' : Value} (h : SS w wr nb nw B0 l Rl bx a rv wv) {x : Int}
    (own : w1.ownsRow (bx + 1) 41 1 wv' (a.writes.length + 1) (a.writes.flatMap pgC ++ pgC x)) (gr : wr.grownBy w1 wv.ownBlock) (hl : wv'.ownBlock = wv.ownBlock ∨ wv'.ownBlock = some wr.heap.size) :
    SS w (w1.setCell ⟨bx, 4, none⟩ wv') nb nw B0 l Rl bx { a with writes := a.writes ++ [x] } rv wv' := by
  have k1 := Fr.of_grown gr
  have k2 : Fr (fun i => i = bx) w1 (w1.setCell ⟨bx, 4, none⟩ wv') := (Fr.refl _ _).setCell _ _ fun _ => rfl
  have hr := fun b (hb : rv.ownBlock = some b) => h.rd.lt b hb
  have hw := fun b (hb : wv.ownBlock = some b) => (h.wt.lt b hb).1
  have hbx := h.box.lt
  have hw' : ∀ b, wv'.ownBlock = some b → bx < b := fun b hb => by
    rcases hl with e | e
    · exact hw b (e ▸ hb)
    · rw [hb] at e; have := Option.some.inj e; omega
  refine ⟨(h.so.gen k1 fun i e => by have := hw i e; omega).gen k2 fun i e => by omega, ?_, own_fr (own_fr h.rd k1 fun b hb e => h.ne b hb e) k2 fun b hb e => by have := (hr b hb).1; omega, ?_, fun b hb e => ?_⟩
  · exact box_set (h.box.fr k1 fun e => by have := hw bx e; omega) 4 wv'
  · show World.ownsRow _ _ _ _ _ (a.writes ++ [x]).length ((a.writes ++ [x]).flatMap pgC)
    rw [List.length_append, List.flatMap_append]
    exact own_fr (by simpa using own) k2 fun b hb e => by have := hw' b hb; omega
  · rcases hl with e1 | e1
    · exact h.ne b hb (e1 ▸ e)
    · rw [e] at e1; have := Option.some.inj e1; have := (hr b hb).2; omega
/-- The commit's timestamp. -/
theorem SS.putC {w wr : World} {nb : Nat} {nw : Int → Int} {B0 : Nat} {l : Value} {Rl : List Rec} {bx : Nat} {a : P.Pst} {rv wv : Value} (h : SS w wr nb nw B0 l Rl bx a rv wv) (t : Int) : SS w (wr.setCell ⟨bx, 1, none⟩ (.int .u32 t)) nb nw B0 l Rl bx { a with commit := t } rv wv := by
  have k2 : Fr (fun i => i = bx) wr (wr.setCell ⟨bx, 1, none⟩ (.int .u32 t)) := (Fr.refl _ _).setCell _ _ fun _ => rfl
  exact ⟨h.so.gen k2 fun i e => by omega, box_set h.box 1 (.int .u32 t), own_fr h.rd k2 fun b hb e => by have := (h.rd.lt b hb).1; omega, own_fr h.wt k2 fun b hb e => by have := (h.wt.lt b hb).1; omega, h.ne⟩
/-- A page's newest version. -/
theorem SS.putN {w wr : World} {nb : Nat} {nw : Int → Int} {B0 : Nat} {l : Value} {Rl : List Rec} {bx : Nat} {a : P.Pst} {rv wv : Value} (h : SS w wr nb nw B0 l Rl bx a rv wv) {p : Nat} (hp : p < 4) (t : Int) :
    SS w (wr.setCell ⟨nb, p, none⟩ (.int .u32 t)) nb (fun q => if q = (p : Int) then t else nw q) B0 l Rl bx a rv wv := by
  have k2 : Fr (fun i => i = nb) wr (wr.setCell ⟨nb, p, none⟩ (.int .u32 t)) := (Fr.refl _ _).setCell _ _ fun _ => rfl
  have hlo := h.so.lo
  refine ⟨⟨Fr.below h.so.below k2 (Nat.le_refl _) fun i hi => by omega, by rw [← nw_set _ hp]; exact box_set h.so.nbk p _, ⟨own_fr h.so.own.own k2 fun b hb e => by have := h.so.lt.1 b hb; omega, fun x hx => (h.so.own.sub x hx).fr k2 fun b hb e => by have := h.so.lt.2 x hx b hb; omega, h.so.own.apart⟩, ⟨hlo.1, hlo.2.1, hlo.2.2.1, hlo.2.2.2.1, Nat.le_trans hlo.2.2.2.2 k2.size⟩, h.so.lt⟩, h.box.fr k2 (by omega), own_fr h.rd k2 fun b hb e => by have := (h.rd.lt b hb).1; omega, own_fr h.wt k2 fun b hb e => by have := (h.wt.lt b hb).1; omega, h.ne⟩
theorem md4_len (l : List Int) : (P.md4 l).length ≤ 6 := by unfold P.md4; rw [List.length_map, List.length_take]; omega
theorem SInv_nw {s : P.Sst} (h : P.SInv s) (p : Int) : 0 ≤ s.nw p ∧ s.nw p ≤ s.ts := by
  obtain ⟨h1, _, h3⟩ := h.nw p
  refine ⟨h1, ?_⟩
  rcases h3 with h3 | ⟨i, h3⟩
  · rw [h3]; exact h.ts0
  · obtain ⟨a, a1, a2, a3⟩ := P.by_wr h3
    have := ((h.st i a a1).2.2 a2).2
    omega
theorem md4_mem {l : List Int} (h : ∀ u ∈ l, 0 ≤ u ∧ u ≤ 255) {p : Int} (hp : p ∈ P.md4 l) : ∃ n : Nat, p = n ∧ n < 4 := by
  obtain ⟨x, hx, rfl⟩ := List.mem_map.1 hp
  exact md_lt (h x (List.mem_of_mem_take hx))
theorem w32' {x : Int} (h : 0 ≤ x ∧ x ≤ 1000) : wU32 x := by unfold wU32; simp [Lit.wf, IntKind.min, IntKind.max, IntKind.bits, IntKind.signed]; omega
theorem serA_ok {s : P.Sst} (h : P.SInv s) (ht : s.ts ≤ 9) {r w : List Int} (hr : ∀ u ∈ r, 0 ≤ u ∧ u ≤ 255) (hw : ∀ u ∈ w, 0 ≤ u ∧ u ≤ 255) : Pok (P.serA s r w) where
  start := w32' ⟨h.ts0, by show s.ts ≤ 1000; omega⟩
  commit := by
    show wU32 (if P.md4 w = [] then 0 else s.ts + 1)
    have := h.ts0
    split
    · exact w32' (by omega)
    · exact w32' (by omega)
  reads := fun v hv => by
    obtain ⟨p, hp, rfl⟩ := List.mem_map.1 hv
    obtain ⟨n, rfl, hn⟩ := md4_mem hr hp
    have := SInv_nw h n
    exact ⟨w16 (by omega), w32' (by dsimp only; omega)⟩
  writes := fun p hp => by
    obtain ⟨n, rfl, hn⟩ := md4_mem hw hp
    exact w16 (by omega)
  rl := by show ((P.md4 r).map _).length ≤ 1000; rw [List.length_map]; have := md4_len r; omega
  wl := by show (P.md4 w).length ≤ 1000; have := md4_len w; omega
abbrev lft (L : List Row8) : List (List Int) := L.map (·.1)
theorem lft_get {L : List Row8} {i : Nat} {x : Row8} (h : L[i]? = some x) : (lft L).getD i [] = x.1 := by
  rw [List.getD_eq_getElem?_getD, List.getElem?_map, h]; rfl
set_option maxRecDepth 100000 in
set_option maxHeartbeats 32000000 in
theorem serial_walk (ao : Option Addr) (cap : Nat) (Lr : List Row8) (ao' : Option Addr) (cap' : Nat) (Lw : List Row8) (w : World) (h : R8At w ao Lr) (hcap : Lr.length ≤ cap) (hmx : Lr.length ≤ maxLen) (h' : R8At w ao' Lw) (hcap' : Lw.length ≤ cap') (hmx' : Lw.length ≤ maxLen) :
    Calls Try.prog 5 #[.slice ao Lr.length cap, .slice ao' Lw.length cap'] w fun e w' => e = .returned (.bool true) ∧ Below w.heap.size w w' := by
  have hz36 := zero36.1
  have hz39 := zero39.1
  obtain ⟨ie, hie, ze, se, ye⟩ := info_parts info36
  obtain ⟨iq, hiq, zq, sq, yq⟩ := info_parts info43
  obtain ⟨ip, hip, zp, sp, yp⟩ := info_parts info41
  have hH := Lib.hid h
  have hH' := Lib.hid h'
  clear h h' hcap hcap'
  go_enter Try.func5, Try.ntmps5
  go_upto_region 1 with (fail)
  refine no_implicit_lambda% (wp_region_lit ?_)
  refine wpl_alloc 39 (nwA fun _ => 0) rfl rfl hz39 ?_
  have hN : Blk (w.alloc (.cells (nwA fun _ => 0) 39)) w.heap.size (nwA fun _ => 0) 39 := Blk.alloc_new _ _ _
  have al := (Below.refl w.heap.size w).alloc (Nat.le_refl _) (.cells (nwA fun _ => 0) 39)
  (try simp only [Act.put, Z1, Z2, Z3, Z4, Z5, Z6])
  refine no_implicit_lambda% (wpList_nil ?_)
  have HN := Lib.hid (And.intro hN al)
  have hB0 : w.heap.size < (w.alloc (.cells (nwA fun _ => 0) 39)).heap.size := by simp
  clear hN al
  generalize w.alloc (.cells (nwA fun _ => 0) 39) = W1 at *
  obtain ⟨nb, hnb⟩ : ∃ nb, w.heap.size = nb := ⟨_, rfl⟩
  obtain ⟨B0, hB0e⟩ : ∃ B0, W1.heap.size = B0 := ⟨_, rfl⟩
  replace HN : Hid ((Blk W1 nb (nwA fun _ => 0) 39 ∧ Below w.heap.size w W1) ∧ w.heap.size ≤ nb ∧ nb < B0 ∧ B0 ≤ W1.heap.size) := ⟨⟨hnb ▸ HN.out.1, HN.out.2⟩, by omega, by omega, by omega⟩
  have hnb' : Value.pointer (some ⟨w.heap.size, 0, none⟩) = Value.pointer (some ⟨nb, 0, none⟩) := by rw [hnb]
  rw [hnb']
  clear hnb' hB0 hB0e hnb
  go_wp2_with fail
  go_loopw [8, 6, 7] (fun i l t wr => ∃ (k : Nat) (Rl : List Rec), i = .int .i64 k ∧ k ≤ 9 ∧ k ≤ Lr.length ∧ k ≤ Lw.length ∧ t = .int .u32 (P.serAt (lft Lr) (lft Lw) k).ts ∧ OwnH B0 wr l Rl ∧ Blk wr nb (nwA (P.serAt (lft Lr) (lft Lw) k).nw) 39 ∧ Below w.heap.size w wr ∧ Hid (his Rl = (P.serAt (lft Lr) (lft Lw) k).L) ∧ B0 ≤ wr.heap.size ∧ Hid (∀ x ∈ Rl, ∀ b, vblk x.2.1 = some b ∨ vblk x.2.2 = some b → B0 ≤ b)) (fun i _ _ _ => 9 - (intOf i).toNat)
  case atStart => exact ⟨0, [], rfl, Nat.zero_le _, Nat.zero_le _, Nat.zero_le _, rfl, OwnH.nil _ _, HN.out.1.1, HN.out.1.2, rfl, HN.out.2.2.2, fun x hx => by cases hx⟩
  case round =>
    obtain ⟨k, Rl, rfl, hk, hkr, hkw, rfl, hO, hnw, hS, hT, hBs, hRB⟩ := hrel
    have hlow := HN.out.2
    have hst := P.serAt_ts (lft Lr) (lft Lw) k
    have hRl : Rl.length = k := by
      have := congrArg List.length hT.out
      rwa [his_length, P.serAt_len] at this
    generalize hs0 : P.serAt (lft Lr) (lft Lw) k = s0 at *
    replace hs0 := Lib.hid hs0
    by_cases hc : k < Lr.length ∧ k < Lw.length ∧ k < 9
    · have c1 : decide ((k : Int) < (Lr.length : Int)) = true := by simp; omega
      have c2 : decide ((k : Int) < (Lw.length : Int)) = true := by simp; omega
      have c3 : decide ((k : Int) < 9) = true := by simp; omega
      have c1' : (k : Int) < (Lr.length : Int) := by omega
      have c2' : (k : Int) < (Lw.length : Int) := by omega
      go_upto_region 5 with (fail)
      refine no_implicit_lambda% (wp_region_lit ?_)
      iterate 2
        refine no_implicit_lambda% (wpl_val ?_ rfl ?_ ?_)
        rotate_left
        · (go_simp; (try with_reducible rfl))
        (try simp only [Act.put, Z1, Z2, Z3, Z4, Z5, Z6])
      refine no_implicit_lambda% (wpl_val ?_ rfl ?_ ?_)
      rotate_left
      · (go_simp; (try with_reducible rfl))
      (try simp only [Act.put, Z1, Z2, Z3, Z4, Z5, Z6])
      iterate 4
        refine no_implicit_lambda% (wpl_val ?_ rfl ?_ ?_)
        rotate_left
        · (go_simp; (try with_reducible rfl))
        (try simp only [Act.put, Z1, Z2, Z3, Z4, Z5, Z6])
      refine no_implicit_lambda% (wpl_val ?_ rfl ?_ ?_)
      rotate_left
      · (go_simp; (try with_reducible rfl))
      (try simp only [Act.put, Z1, Z2, Z3, Z4, Z5, Z6])
      iterate 6
        refine no_implicit_lambda% (wpl_val ?_ rfl ?_ ?_)
        rotate_left
        · (go_simp; (try with_reducible rfl))
        (try simp only [Act.put, Z1, Z2, Z3, Z4, Z5, Z6])
      refine no_implicit_lambda% (wpList_nil ?_)
      clear c1 c2 c3
      obtain ⟨xr, hxr⟩ : ∃ x, Lr[k]? = some x := ⟨_, List.getElem?_eq_getElem hc.1⟩
      obtain ⟨xw, hxw⟩ : ∃ x, Lw[k]? = some x := ⟨_, List.getElem?_eq_getElem hc.2.1⟩
      have hsr := hH.out.sub xr (List.mem_of_getElem? hxr)
      have hsw := hH'.out.sub xw (List.mem_of_getElem? hxw)
      obtain ⟨⟨aor, capr, er, hcr, hrr⟩, hru, hrl⟩ := hsr
      obtain ⟨⟨aow, capw, ew, hcw, hrw⟩, hwu, hwl⟩ := hsw
      obtain ⟨b, o, rfl, hy1, hy2⟩ := hH.out.row k xr hxr
      obtain ⟨b', o', rfl, hy3, hy4⟩ := hH'.out.row k xw hxw
      have hcellr : Hid (∀ W, Below w.heap.size w W → W.cell? ⟨b, o + k, none⟩ = some (.slice aor xr.1.length capr)) := fun W hW => by
        have := ((hH.out.row.below hW).at' hxr).2 0 _ rfl
        rw [← er]; simpa using this
      have hcellw : Hid (∀ W, Below w.heap.size w W → W.cell? ⟨b', o' + k, none⟩ = some (.slice aow xw.1.length capw)) := fun W hW => by
        have := ((hH'.out.row.below hW).at' hxw).2 0 _ rfl
        rw [← ew]; simpa using this
      have hstep : Hid (P.serAt (lft Lr) (lft Lw) (k + 1) = P.serStep s0 xr.1 xw.1) := by
        unfold Hid
        show P.serStep _ _ _ = _
        rw [hs0.out, lft_get hxr, lft_get hxw]
      replace hrr := Lib.hid hrr
      replace hrw := Lib.hid hrw
      replace hru := Lib.hid hru
      replace hwu := Lib.hid hwu
      clear hxr hxw er ew hcr hcw hy1 hy2 hy3 hy4
      generalize hlr : xr.1 = r at *
      generalize hlw : xw.1 = ww at *
      clear hlr hlw xr xw
      -- the box
      go_upto_region 7 with (fail)
      refine no_implicit_lambda% (wp_region_lit ?_)
      refine no_implicit_lambda% (wpl_val ?_ rfl ?_ ?_)
      rotate_left
      · (go_simp; (try with_reducible rfl))
      (try simp only [Act.put, Z1, Z2, Z4, Z5, Z6])
      refine wpl_val (.agg (pcA (⟨s0.ts, 0, true, [], []⟩, .slice none 0 0, .slice none 0 0))) rfl (run_buildE rfl (by go_simp; exact b36c s0.ts true)) ?_
      (try simp only [Act.put, Z1, Z2, Z3, Z4, Z5, Z6])
      refine wpl_alloc 36 (pcA noR) rfl rfl hz36 ?_
      (try simp only [Act.put, Z1, Z2, Z3, Z4, Z5, Z6])
      refine wpList_store_fr rfl 36 _ _ rfl wr.heap.size (pcA (⟨s0.ts, 0, true, [], []⟩, .slice none 0 0, .slice none 0 0)) rfl rfl 36 _ (Blk.alloc_new _ _ _) (size36 _) rfl (by simp [pcA, Value.oneCell']) ?_
      intro w9 hB9 hF9
      (try simp only [Act.put, Z1, Z2, Z3, Z4, Z5, Z6])
      refine no_implicit_lambda% (wpList_nil ?_)
      have hb9 := box_below hF9
      have hSS : SS w w9 nb s0.nw B0 u6 Rl wr.heap.size ⟨s0.ts, 0, true, [], []⟩ (.slice none 0 0) (.slice none 0 0) :=
        ⟨⟨hS.trans (hb9.mono hS.size), hnw.below hb9, hO.below hb9, ⟨hlow.1, hlow.2.1, hBs, by omega, hb9.size⟩, ⟨fun b hb => hO.own.lt b hb, fun x hx b hb => ⟨hRB.out x hx b hb, (hO.sub x hx).lt hb⟩⟩⟩, hB9, World.ownsRow_nil _ _ _ _, World.ownsRow_nil _ _ _ _, fun b hb => by cases hb⟩
      clear hB9 hF9 hb9 hO hnw hS hBs hlow
      generalize wr.heap.size = bx at *
      replace hSS := Lib.hid hSS
      go_wp2_with fail
      go_loopw [10] (fun i wr => ∃ (j : Nat) (rv : Value), i = .int .i64 j ∧ j ≤ 6 ∧ j ≤ r.length ∧ SS w wr nb s0.nw B0 u6 Rl bx ⟨s0.ts, 0, true, rds s0.nw r j, []⟩ rv (.slice none 0 0)) (fun i _ => 6 - (intOf i).toNat)
      case atStart => exact ⟨0, _, rfl, Nat.zero_le _, Nat.zero_le _, hSS.out⟩
      case round =>
        clear hSS
        obtain ⟨j, rv, rfl, hj6, hjr, hS⟩ := hrel
        have hcl := hcellr.out wr hS.so.below
        by_cases hjl : j < r.length
        · have d1 : decide ((j : Int) < (r.length : Int)) = true := by simp; omega
          by_cases hj : j < 6
          · have d2 : decide ((j : Int) < 6) = true := by simp; omega
            have d1' : (j : Int) < (r.length : Int) := by omega
            go_upto_region 9 with (fail)
            refine no_implicit_lambda% (wp_region_lit ?_)
            iterate 4
              refine no_implicit_lambda% (wpl_val ?_ rfl ?_ ?_)
              rotate_left
              · (go_simp; (try with_reducible rfl))
              (try simp only [Act.put, Z1, Z2, Z3, Z4, Z5, Z6])
            refine no_implicit_lambda% (wpl_val ?_ rfl ?_ ?_)
            rotate_left
            · (have c0 := hcl; go_simp; (try with_reducible rfl))
            (try simp only [Act.put, Z1, Z2, Z3, Z4, Z5, Z6])
            refine no_implicit_lambda% (wpl_val ?_ rfl ?_ ?_)
            rotate_left
            · (go_simp; (try with_reducible rfl))
            (try simp only [Act.put, Z1, Z2, Z3, Z4, Z5, Z6])
            iterate 5
              refine no_implicit_lambda% (wpl_val ?_ rfl ?_ ?_)
              rotate_left
              · (go_simp; (try with_reducible rfl))
              (try simp only [Act.put, Z1, Z2, Z3, Z4, Z5, Z6])
            refine no_implicit_lambda% (wpList_nil ?_)
            clear d1 d2
            obtain ⟨x, hx⟩ : ∃ x, r[j]? = some x := ⟨_, List.getElem?_eq_getElem hjl⟩
            obtain ⟨b2, o2, rfl, hbl2, hr2⟩ := (hrr.out.below hS.so.below) j x hx
            have hcx : wr.cell? ⟨b2, o2 + j, none⟩ = some (.int .u8 x) := by have := hr2 0 _ rfl; simpa using this
            obtain ⟨p, hp, hp4⟩ := md_lt (hru.out x (List.mem_of_getElem? hx))
            have hp4i : (p : Int) < 4 := by omega
            have hrs : Hid (rds s0.nw r (j + 1) = rds s0.nw r j ++ [((p : Int), s0.nw p)]) := by unfold Hid; rw [rds_succ hx, hp]
            have hpw : IntKind.u16.wrap (p : Int) = (p : Int) := IntWalk.u16_in _ (by omega)
            clear hr2 hbl2 hx
            go_upto_region 11 with (fail)
            refine no_implicit_lambda% (wp_region_lit ?_)
            iterate 3
              refine no_implicit_lambda% (wpl_val ?_ rfl ?_ ?_)
              rotate_left
              · (go_simp; (try with_reducible rfl))
              (try simp only [Act.put, Z1, Z2, Z3, Z4, Z5, Z6])
            refine no_implicit_lambda% (wpl_val ?_ rfl ?_ ?_)
            rotate_left
            · (have c0 := hcl; go_simp; (try with_reducible rfl))
            (try simp only [Act.put, Z1, Z2, Z3, Z4, Z5, Z6])
            iterate 2
              refine no_implicit_lambda% (wpl_val ?_ rfl ?_ ?_)
              rotate_left
              · (go_simp; (try with_reducible rfl))
              (try simp only [Act.put, Z1, Z2, Z3, Z4, Z5, Z6])
            refine no_implicit_lambda% (wpl_val ?_ rfl ?_ ?_)
            rotate_left
            · (have c0 := hcx; go_simp; (try with_reducible rfl))
            (try simp only [Act.put, Z1, Z2, Z3, Z4, Z5, Z6])
            refine no_implicit_lambda% (wpl_val ?_ rfl ?_ ?_)
            rotate_left
            · (go_simp; (try with_reducible rfl))
            (try simp only [Act.put, Z1, Z2, Z3, Z4, Z5, Z6])
            (try simp only [Act.put, Z1, Z2, Z3, Z4, Z5, Z6])
            iterate 2
              refine no_implicit_lambda% (wpl_val ?_ rfl ?_ ?_)
              rotate_left
              · (go_simp; (try with_reducible rfl))
              (try simp only [Act.put, Z1, Z2, Z3, Z4, Z5, Z6])
            refine no_implicit_lambda% (wpList_nil ?_)
            clear hpw hcx hcl hp
            have hrdl : (rds s0.nw r j).length ≤ 6 := by unfold rds; rw [List.length_map, List.length_map, List.length_take]; omega
            go_upto_region 12 with (fail)
            refine wp_region_K (k := 10) (S := (fun w' => Blk w' bx (pcA (⟨s0.ts, 0, true, rds s0.nw r j, []⟩, rv, .slice none 0 0)) 36 ∧ Blk w' nb (nwA s0.nw) 39)) (by kernel_rfl) ?_
            change wpAnyK _ _ _ _ _ _ _ _ _ (World.drew _)
            (try simp only [Act.put])
            have hG := hS.go (Below.refl _ _).drew
            clear hS
            generalize wr.drew = V at *
            have hS := And.intro hG.box hG.so.nbk
            refine anyK_pure 0 _ ?_ rfl (by kernel_rfl) (by kernel_rfl) (by kernel_rfl) (fun _ _ _ h => h) (by decide) rfl ?_ hS ?_
            rotate_left
            · (intro w'; go_simp; (try with_reducible rfl))
            (try simp only [Act.put, Z1, Z2, Z4, Z5, Z6])
            refine anyK_if 1 _ ?_ rfl (by kernel_rfl) (by kernel_rfl) (by kernel_rfl) (fun _ _ _ h => h) (by decide) (by kernel_rfl) (by kernel_rfl) rfl ?_ hS ?_
            rotate_left
            · (intro w' h; have c0 := (show w'.cell? ⟨bx, 3, none⟩ = some rv by rw [h.1.cell]; rfl); go_simp; (try with_reducible rfl))
            (try simp only [Act.put, Z1, Z2, Z3, Z4, Z5, Z6])
            refine anyK_pure 2 _ ?_ rfl (by kernel_rfl) (by kernel_rfl) (by kernel_rfl) (fun _ _ _ h => h) (by decide) rfl ?_ hS ?_
            rotate_left
            · (intro w'; go_simp; (try with_reducible rfl))
            (try simp only [Act.put, Z1, Z2, Z3, Z4, Z5, Z6])
            refine anyK_pure 3 _ ?_ rfl (by kernel_rfl) (by kernel_rfl) (by kernel_rfl) (fun _ _ _ h => h) (by decide) rfl ?_ hS ?_
            rotate_left
            · (intro w'; go_simp; (try with_reducible rfl))
            (try simp only [Act.put, Z1, Z2, Z3, Z4, Z5, Z6])
            refine anyK_pure 4 _ ?_ rfl (by kernel_rfl) (by kernel_rfl) (by kernel_rfl) (fun _ _ _ h => h) (by decide) rfl ?_ hS ?_
            rotate_left
            · (intro w'; go_simp; (try with_reducible rfl))
            (try simp only [Act.put, Z1, Z2, Z3, Z4, Z5, Z6])
            refine anyK_if 5 _ ?_ rfl (by kernel_rfl) (by kernel_rfl) (by kernel_rfl) (fun _ _ _ h => h) (by decide) (by kernel_rfl) (by kernel_rfl) rfl ?_ hS ?_
            rotate_left
            · (intro w' h; have c0 := nw_get h.2 hp4; go_simp; (try with_reducible rfl))
            (try simp only [Act.put, Z1, Z2, Z3, Z4, Z5, Z6])
            refine anyK_pure 6 _ (.agg #[.int .u16 p, .int .u32 (s0.nw p)]) rfl (by kernel_rfl) (by kernel_rfl) (by kernel_rfl) (fun _ _ _ h => h) (by decide) rfl (fun w' => run_buildE rfl (by go_simp; exact b43 p (s0.nw p))) hS ?_
            (try simp only [Act.put, Z1, Z2, Z3, Z4, Z5, Z6])
            refine anyK_one 7 _ (by kernel_rfl) rfl rfl (wp_buildSlice 33 43 1 _ rfl #[.int .u16 p, .int .u32 (s0.nw p)] iq _ Try.underlying33 hiq zq (by rw [sq]; decide) (by rw [sq]; decide) ?c1 ?_)
            case c1 => (simp only [sq, List.map_toArray, List.map_cons, List.map_nil]; exact fill43s p (s0.nw p))
            have hlit : Blk (V.alloc (.cells #[.int .u16 p, .int .u32 (s0.nw p)] 43)) V.heap.size (seC ((p : Int), s0.nw p)).toArray 43 := Blk.alloc_new _ _ _
            have hG1 := hG.go ((Below.refl _ _).alloc (Nat.le_refl _) (.cells #[.int .u16 p, .int .u32 (s0.nw p)] 43))
            clear hG hS
            have hS := And.intro hG1.box hG1.so.nbk
            refine ⟨hS, ?_⟩
            (try simp only [Act.put, Z1, Z2, Z3, Z4, Z5, Z6])
            generalize V.alloc (.cells #[.int .u16 p, .int .u32 (s0.nw p)] 43) = V1 at *
            generalize V.heap.size = lb at *
            have hb1 := hG1.box.lt
            refine anyK_one 8 _ (by kernel_rfl) rfl rfl (wp_append_src _ _ 33 rfl (bx + 1) 43 iq _ 2 8 Try.underlying33 hiq zq sq yq rfl (by decide) rv (rds s0.nw r j).length _ rfl hG1.rd _ 1 (seC ((p : Int), s0.nw p)) rfl (src_blk hlit) rfl (fun u hu => by simp [seC] at hu; rcases hu with rfl | rfl <;> rfl) ?_ ?_ ?_ ?_)
            · unfold maxLen; omega
            · omega
            · omega
            intro v3 W3 own3 gr3 _ hl3
            have hG3 := hG1.putR own3 gr3 hl3
            have hs3 : ∀ b, rv.ownBlock = some b → bx < b := fun b hb => by have := (hG1.rd.lt b hb).1; omega
            clear hS
            have hS : Blk W3 bx (pcA (⟨s0.ts, 0, true, rds s0.nw r j, []⟩, rv, .slice none 0 0)) 36 ∧ Blk W3 nb (nwA s0.nw) 39 := ⟨hG1.box.fr (Fr.of_grown gr3) fun e => by have := hs3 bx e; omega, (hG1.so.gen (Fr.of_grown gr3) fun i e => by have := hs3 i e; omega).nbk⟩
            refine ⟨hS, ?_⟩
            (try simp only [Act.put, Z1, Z2, Z3, Z4, Z5, Z6])
            refine anyK_pure 9 _ ?_ rfl (by kernel_rfl) (by kernel_rfl) (by kernel_rfl) (fun _ _ _ h => h) (by decide) rfl ?_ hS ?_
            rotate_left
            · (intro w'; go_simp; (try with_reducible rfl))
            (try simp only [Act.put, Z1, Z2, Z3, Z4, Z5, Z6])
            refine anyK_last _ (by kernel_rfl) rfl (by decide) rfl (wp_store_one 33 _ _ rfl ⟨bx, 3, none⟩ rv v3 rfl rfl size33 (own_one own3) (by rw [hS.1.cell]; rfl) (hS.1.free 3) ?_)
            refine anyK_done (by kernel_rfl) ?_ _
            dsimp only at hG3
            rw [← hrs.out] at hG3
            clear hS hs3 own3 gr3 hl3 hG1 hlit hb1 hrs
            go_wp2_with fail
            go_roundw
            case rel => exact ⟨j + 1, v3, by go_num, by omega, by omega, hG3⟩
            case measure => simp [intOf]; omega
          · have d2 : decide ((j : Int) < 6) = false := by simp; omega
            have d1' : decide ((j : Int) < (r.length : Int)) = true := by simp; omega
            have hR : Hid (rds s0.nw r j = (P.md4 r).map fun p => (p, s0.nw p)) := by
              have e : j = 6 := by omega
              rw [e]; exact rfl
            go_upto_region 9 with (fail)
            refine no_implicit_lambda% (wp_region_lit ?_)
            iterate 4
              refine no_implicit_lambda% (wpl_val ?_ rfl ?_ ?_)
              rotate_left
              · (go_simp; (try with_reducible rfl))
              (try simp only [Act.put, Z1, Z2, Z3, Z4, Z5, Z6])
            refine no_implicit_lambda% (wpl_val ?_ rfl ?_ ?_)
            rotate_left
            · (have c0 := hcl; go_simp; (try with_reducible rfl))
            (try simp only [Act.put, Z1, Z2, Z3, Z4, Z5, Z6])
            refine no_implicit_lambda% (wpl_val ?_ rfl ?_ ?_)
            rotate_left
            · (go_simp; (try with_reducible rfl))
            (try simp only [Act.put, Z1, Z2, Z3, Z4, Z5, Z6])
            iterate 5
              refine no_implicit_lambda% (wpl_val ?_ rfl ?_ ?_)
              rotate_left
              · (go_simp; (try with_reducible rfl))
              (try simp only [Act.put, Z1, Z2, Z3, Z4, Z5, Z6])
            refine no_implicit_lambda% (wpList_nil ?_)
            clear d1 d2 d1' hcl
            rw [hR.out] at hS
            have hRdl : ((P.md4 r).map fun p => (p, s0.nw p)).length ≤ 6 := by rw [List.length_map]; exact md4_len r
            have hRd := Lib.hid (rfl : ((P.md4 r).map fun p => (p, s0.nw p)) = (P.md4 r).map fun p => (p, s0.nw p))
            generalize hRde : ((P.md4 r).map fun p => (p, s0.nw p)) = Rd at hS hRdl
            replace hRde := Lib.hid hRde
            clear hRd hR
            replace hS := Lib.hid hS
            go_wp2_with fail
            go_loopw [12] (fun i wr => ∃ (j : Nat) (wv : Value), i = .int .i64 j ∧ j ≤ 6 ∧ j ≤ ww.length ∧ SS w wr nb s0.nw B0 u6 Rl bx ⟨s0.ts, 0, true, Rd, wts ww j⟩ rv wv) (fun i _ => 6 - (intOf i).toNat)
            case atStart => exact ⟨0, _, rfl, Nat.zero_le _, Nat.zero_le _, hS.out⟩
            case round =>
              clear hS
              obtain ⟨j, wv, rfl, hj6, hjw, hS⟩ := hrel
              have hcl := hcellw.out wr hS.so.below
              by_cases hjl : j < ww.length
              · have d1 : decide ((j : Int) < (ww.length : Int)) = true := by simp; omega
                by_cases hj : j < 6
                · have d2 : decide ((j : Int) < 6) = true := by simp; omega
                  have d1' : (j : Int) < (ww.length : Int) := by omega
                  go_upto_region 14 with (fail)
                  refine no_implicit_lambda% (wp_region_lit ?_)
                  iterate 4
                    refine no_implicit_lambda% (wpl_val ?_ rfl ?_ ?_)
                    rotate_left
                    · (go_simp; (try with_reducible rfl))
                    (try simp only [Act.put, Z1, Z2, Z3, Z4, Z5, Z6])
                  refine no_implicit_lambda% (wpl_val ?_ rfl ?_ ?_)
                  rotate_left
                  · (have c0 := hcl; go_simp; (try with_reducible rfl))
                  (try simp only [Act.put, Z1, Z2, Z3, Z4, Z5, Z6])
                  refine no_implicit_lambda% (wpl_val ?_ rfl ?_ ?_)
                  rotate_left
                  · (go_simp; (try with_reducible rfl))
                  (try simp only [Act.put, Z1, Z2, Z3, Z4, Z5, Z6])
                  iterate 5
                    refine no_implicit_lambda% (wpl_val ?_ rfl ?_ ?_)
                    rotate_left
                    · (go_simp; (try with_reducible rfl))
                    (try simp only [Act.put, Z1, Z2, Z3, Z4, Z5, Z6])
                  refine no_implicit_lambda% (wpList_nil ?_)
                  clear d1 d2 hcl
                  obtain ⟨x, hx⟩ : ∃ x, ww[j]? = some x := ⟨_, List.getElem?_eq_getElem hjl⟩
                  obtain ⟨b2, o2, rfl, _, _⟩ := hrw.out j x hx
                  have hcx : ∀ W, Below w.heap.size w W → W.cell? ⟨b2, o2 + j, none⟩ = some (.int .u8 x) := fun W hW => by
                    have := ((hrw.out.below hW).at' hx).2 0 _ rfl
                    simpa using this
                  replace hcx := Lib.hid hcx
                  obtain ⟨p, hp, hp4⟩ := md_lt (hwu.out x (List.mem_of_getElem? hx))
                  have hws : Hid (wts ww (j + 1) = wts ww j ++ [(p : Int)]) := by unfold Hid; rw [wts_succ hx, hp]
                  have hpw : IntKind.u16.wrap (p : Int) = (p : Int) := IntWalk.u16_in _ (by omega)
                  have hwtl : (wts ww j).length ≤ 6 := by unfold wts; rw [List.length_map, List.length_take]; omega
                  clear hx
                  go_upto_region 16 with (fail)
                  refine wp_region_K (k := 14) (S := (fun w' => Blk w' bx (pcA (⟨s0.ts, 0, true, Rd, wts ww j⟩, rv, wv)) 36 ∧ Below w.heap.size w w')) (by kernel_rfl) ?_
                  change wpAnyK _ _ _ _ _ _ _ _ _ (World.drew _)
                  (try simp only [Act.put])
                  have hG := hS.go (Below.refl _ _).drew
                  clear hS
                  generalize wr.drew = V at *
                  have hS := And.intro hG.box hG.so.below
                  refine anyK_pure 0 _ ?_ rfl (by kernel_rfl) (by kernel_rfl) (by kernel_rfl) (fun _ _ _ h => h) (by decide) rfl ?_ hS ?_
                  rotate_left
                  · (intro w'; go_simp; (try with_reducible rfl))
                  (try simp only [Act.put, Z1, Z2, Z4, Z5, Z6])
                  refine anyK_if 1 _ ?_ rfl (by kernel_rfl) (by kernel_rfl) (by kernel_rfl) (fun _ _ _ h => h) (by decide) (by kernel_rfl) (by kernel_rfl) rfl ?_ hS ?_
                  rotate_left
                  · (intro w' h; have c0 := (show w'.cell? ⟨bx, 4, none⟩ = some wv by rw [h.1.cell]; rfl); go_simp; (try with_reducible rfl))
                  (try simp only [Act.put, Z1, Z2, Z3, Z4, Z5, Z6])
                  refine anyK_pure 2 _ ?_ rfl (by kernel_rfl) (by kernel_rfl) (by kernel_rfl) (fun _ _ _ h => h) (by decide) rfl ?_ hS ?_
                  rotate_left
                  · (intro w'; go_simp; (try with_reducible rfl))
                  (try simp only [Act.put, Z1, Z2, Z3, Z4, Z5, Z6])
                  refine anyK_pure 3 _ ?_ rfl (by kernel_rfl) (by kernel_rfl) (by kernel_rfl) (fun _ _ _ h => h) (by decide) rfl ?_ hS ?_
                  rotate_left
                  · (intro w'; go_simp; (try with_reducible rfl))
                  (try simp only [Act.put, Z1, Z2, Z3, Z4, Z5, Z6])
                  refine anyK_pure 4 _ ?_ rfl (by kernel_rfl) (by kernel_rfl) (by kernel_rfl) (fun _ _ _ h => h) (by decide) rfl ?_ hS ?_
                  rotate_left
                  · (intro w'; go_simp; (try with_reducible rfl))
                  (try simp only [Act.put, Z1, Z2, Z3, Z4, Z5, Z6])
                  refine anyK_if 5 _ ?_ rfl (by kernel_rfl) (by kernel_rfl) (by kernel_rfl) (fun _ _ _ h => h) (by decide) (by kernel_rfl) (by kernel_rfl) rfl ?_ hS ?_
                  rotate_left
                  · (intro w' h; have c0 := hcellw.out w' h.2; go_simp; (try with_reducible rfl))
                  (try simp only [Act.put, Z1, Z2, Z3, Z4, Z5, Z6])
                  refine anyK_pure 6 _ ?_ rfl (by kernel_rfl) (by kernel_rfl) (by kernel_rfl) (fun _ _ _ h => h) (by decide) rfl ?_ hS ?_
                  rotate_left
                  · (intro w'; go_simp; (try with_reducible rfl))
                  (try simp only [Act.put, Z1, Z2, Z3, Z4, Z5, Z6])
                  refine anyK_pure 7 _ ?_ rfl (by kernel_rfl) (by kernel_rfl) (by kernel_rfl) (fun _ _ _ h => h) (by decide) rfl ?_ hS ?_
                  rotate_left
                  · (intro w'; go_simp; (try with_reducible rfl))
                  (try simp only [Act.put, Z1, Z2, Z3, Z4, Z5, Z6])
                  refine anyK_if 8 _ ?_ rfl (by kernel_rfl) (by kernel_rfl) (by kernel_rfl) (fun _ _ _ h => h) (by decide) (by kernel_rfl) (by kernel_rfl) rfl ?_ hS ?_
                  rotate_left
                  · (intro w' h; have c0 := hcx.out w' h.2; go_simp; (try with_reducible rfl))
                  (try simp only [Act.put, Z1, Z2, Z3, Z4, Z5, Z6])
                  refine anyK_pure 9 _ ?_ rfl (by kernel_rfl) (by kernel_rfl) (by kernel_rfl) (fun _ _ _ h => h) (by decide) rfl ?_ hS ?_
                  rotate_left
                  · (intro w'; go_simp; (try with_reducible rfl))
                  (try simp only [Act.put, Z1, Z2, Z3, Z4, Z5, Z6])
                  refine anyK_pure 10 _ ?_ rfl (by kernel_rfl) (by kernel_rfl) (by kernel_rfl) (fun _ _ _ h => h) (by decide) rfl ?_ hS ?_
                  rotate_left
                  · (intro w'; go_simp; (try with_reducible rfl))
                  (try simp only [Act.put, Z1, Z2, Z3, Z4, Z5, Z6])
                  refine anyK_one 11 _ (by kernel_rfl) rfl rfl (wp_buildSlice 34 41 1 _ rfl #[.int .u16 p] ip _ Try.underlying34 hip zp (by rw [sp]; decide) (by rw [sp]; decide) ?c1 ?_)
                  case c1 => (simp only [sp, List.map_toArray, List.map_cons, List.map_nil]; exact fill41 p)
                  have hlit : Blk (V.alloc (.cells #[.int .u16 p] 41)) V.heap.size (pgC (p : Int)).toArray 41 := Blk.alloc_new _ _ _
                  have hG1 := hG.go ((Below.refl _ _).alloc (Nat.le_refl _) (.cells #[.int .u16 p] 41))
                  clear hG hS hpw hp
                  have hS := And.intro hG1.box hG1.so.below
                  refine ⟨hS, ?_⟩
                  (try simp only [Act.put, Z1, Z2, Z3, Z4, Z5, Z6])
                  generalize V.alloc (.cells #[.int .u16 p] 41) = V1 at *
                  generalize V.heap.size = lb at *
                  have hb1 := hG1.box.lt
                  refine anyK_one 12 _ (by kernel_rfl) rfl rfl (wp_append_src _ _ 34 rfl (bx + 1) 41 ip _ 1 2 Try.underlying34 hip zp sp yp rfl (by decide) wv (wts ww j).length _ rfl hG1.wt _ 1 (pgC (p : Int)) rfl (src_blk hlit) rfl (fun u hu => by simp [pgC] at hu; subst hu; rfl) ?_ ?_ ?_ ?_)
                  · unfold maxLen; omega
                  · omega
                  · omega
                  intro v3 W3 own3 gr3 _ hl3
                  have hG3 := hG1.putW own3 gr3 hl3
                  have hs3 : ∀ b, wv.ownBlock = some b → bx < b := fun b hb => by have := (hG1.wt.lt b hb).1; omega
                  clear hS
                  have hS : Blk W3 bx (pcA (⟨s0.ts, 0, true, Rd, wts ww j⟩, rv, wv)) 36 ∧ Below w.heap.size w W3 := ⟨hG1.box.fr (Fr.of_grown gr3) fun e => by have := hs3 bx e; omega, (hG1.so.gen (Fr.of_grown gr3) fun i e => by have := hs3 i e; omega).below⟩
                  refine ⟨hS, ?_⟩
                  (try simp only [Act.put, Z1, Z2, Z3, Z4, Z5, Z6])
                  refine anyK_pure 13 _ ?_ rfl (by kernel_rfl) (by kernel_rfl) (by kernel_rfl) (fun _ _ _ h => h) (by decide) rfl ?_ hS ?_
                  rotate_left
                  · (intro w'; go_simp; (try with_reducible rfl))
                  (try simp only [Act.put, Z1, Z2, Z3, Z4, Z5, Z6])
                  refine anyK_last _ (by kernel_rfl) rfl (by decide) rfl (wp_store_one 34 _ _ rfl ⟨bx, 4, none⟩ wv v3 rfl rfl size34 (own_one own3) (by rw [hS.1.cell]; rfl) (hS.1.free 4) ?_)
                  refine anyK_done (by kernel_rfl) ?_ _
                  dsimp only at hG3
                  rw [← hws.out] at hG3
                  clear hS hs3 own3 gr3 hl3 hG1 hlit hb1 hws hcx
                  go_wp2_with fail
                  go_roundw
                  case rel => exact ⟨j + 1, v3, by go_num, by omega, by omega, hG3⟩
                  case measure => simp [intOf]; omega
                · have d2 : decide ((j : Int) < 6) = false := by simp; omega
                  have d1' : decide ((j : Int) < (ww.length : Int)) = true := by simp; omega
                  have hWd : Hid (wts ww j = P.md4 ww) := by
                    have e : j = 6 := by omega
                    rw [e]; exact rfl
                  go_upto_region 14 with (fail)
                  refine no_implicit_lambda% (wp_region_lit ?_)
                  iterate 4
                    refine no_implicit_lambda% (wpl_val ?_ rfl ?_ ?_)
                    rotate_left
                    · (go_simp; (try with_reducible rfl))
                    (try simp only [Act.put, Z1, Z2, Z3, Z4, Z5, Z6])
                  refine no_implicit_lambda% (wpl_val ?_ rfl ?_ ?_)
                  rotate_left
                  · (have c0 := hcl; go_simp; (try with_reducible rfl))
                  (try simp only [Act.put, Z1, Z2, Z3, Z4, Z5, Z6])
                  refine no_implicit_lambda% (wpl_val ?_ rfl ?_ ?_)
                  rotate_left
                  · (go_simp; (try with_reducible rfl))
                  (try simp only [Act.put, Z1, Z2, Z3, Z4, Z5, Z6])
                  iterate 5
                    refine no_implicit_lambda% (wpl_val ?_ rfl ?_ ?_)
                    rotate_left
                    · (go_simp; (try with_reducible rfl))
                    (try simp only [Act.put, Z1, Z2, Z3, Z4, Z5, Z6])
                  refine no_implicit_lambda% (wpList_nil ?_)
                  clear d1 d2 d1' hcl
                  rw [hWd.out] at hS
                  have hWdl := md4_len ww
                  have hL : Hid ((P.serStep s0 r ww).L = s0.L ++ [P.serA s0 r ww]) := rfl
                  have hPok := Lib.hid (serA_ok (hs0.out ▸ P.sinv (lft Lr) (lft Lw) k) (by omega) hru.out hwu.out)
                  have hAe : Hid (P.serA s0 r ww = ⟨s0.ts, if P.md4 ww = [] then 0 else s0.ts + 1, true, Rd, P.md4 ww⟩) := by unfold Hid P.serA; rw [hRde.out]
                  obtain ⟨aov, capv, ev, hcv, hrv⟩ := own_rowIn (f := pgC) (fun _ => rfl) hS.wt
                  dsimp only at ev
                  subst ev
                  clear hrv
                  by_cases hemp : P.md4 ww = []
                  · have d3 : decide ((0 : Int) < ((P.md4 ww).length : Int)) = false := by rw [hemp]; rfl
                    have hS' : SS w wr nb s0.nw B0 u6 Rl bx (P.serA s0 r ww) rv (.slice aov (P.md4 ww).length capv) := by rw [hAe.out, if_pos hemp]; exact hS
                    have hE : Hid ((P.serStep s0 r ww).ts = s0.ts ∧ nwA (P.serStep s0 r ww).nw = nwA s0.nw) := by
                      refine ⟨if_pos hemp, nw_congr fun p _ _ => ?_⟩
                      show (if p ∈ P.md4 ww then _ else _) = _
                      rw [hemp]; simp
                    clear hAe
                    replace hemp := Lib.hid hemp
                    go_upto_region 17 with (fail)
                    refine no_implicit_lambda% (wp_region_lit ?_)
                    refine no_implicit_lambda% (wpl_val ?_ rfl ?_ ?_)
                    rotate_left
                    · (go_simp; (try with_reducible rfl))
                    (try simp only [Act.put, Z1, Z2, Z4, Z5, Z6])
                    refine no_implicit_lambda% (wpl_val ?_ rfl ?_ ?_)
                    rotate_left
                    · (have c0 := (show wr.cell? ⟨bx, 4, none⟩ = some (.slice aov (P.md4 ww).length capv) by rw [hS.box.cell]; rfl); go_simp; (try with_reducible rfl))
                    (try simp only [Act.put, Z1, Z2, Z3, Z4, Z5, Z6])
                    refine no_implicit_lambda% (wpl_val ?_ rfl ?_ ?_)
                    rotate_left
                    · (go_simp; (try with_reducible rfl))
                    (try simp only [Act.put, Z1, Z2, Z3, Z4, Z5, Z6])
                    refine wpl_val (.bool false) rfl (by go_simp; simp [hemp.out]) ?_
                    (try simp only [Act.put, Z1, Z2, Z3, Z4, Z5, Z6])
                    refine no_implicit_lambda% (wpList_nil ?_)
                    clear d3 hS hemp
                    have hS := hS'
                    clear hS'
                    generalize P.serA s0 r ww = A at *
                    have hsub : SubAt wr (A, rv, .slice aov (P.md4 ww).length capv) := ⟨own_rowIn (f := seC) (fun _ => rfl) hS.rd, own_rowIn (f := pgC) (fun _ => rfl) hS.wt, hPok.out⟩
                    have hblk : ∀ b, vblk ((A, rv, .slice aov (P.md4 ww).length capv) : Rec).2.1 = some b ∨ vblk ((A, rv, .slice aov (P.md4 ww).length capv) : Rec).2.2 = some b → bx < b := fun b hb => by
                      rcases hb with hb | hb
                      · have := (hS.rd.lt b (own_vblk hS.rd hb)).1; omega
                      · have := (hS.wt.lt b (own_vblk hS.wt hb)).1; omega
                    have hap : ∀ b, vblk ((A, rv, .slice aov (P.md4 ww).length capv) : Rec).2.1 = some b ∨ vblk ((A, rv, .slice aov (P.md4 ww).length capv) : Rec).2.2 = some b → u6.ownBlock ≠ some b := fun b hb e => by
                      have h1 := hblk b hb
                      have h2 := (hS.so.lt.1 b e).2
                      omega
                    have hRB2 : Hid (∀ x ∈ Rl ++ [((A, rv, .slice aov (P.md4 ww).length capv) : Rec)], ∀ b, vblk x.2.1 = some b ∨ vblk x.2.2 = some b → B0 ≤ b) := fun x hx b hb => by
                      have hlo := hS.so.lo
                      rcases List.mem_append.1 hx with hx | hx
                      · exact hRB.out x hx b hb
                      · obtain rfl := List.mem_singleton.1 hx
                        have := hblk b hb
                        omega
                    have hT2 : Hid (his (Rl ++ [((A, rv, .slice aov (P.md4 ww).length capv) : Rec)]) = (P.serStep s0 r ww).L) := by
                      unfold Hid
                      rw [hL.out, his, List.map_append, ← his, hT.out]; rfl
                    have hbox := hS.box
                    have hso := hS.so
                    have hone := Lib.hid hsub.one
                    clear hblk hS
                    generalize hx0 : ((A, rv, .slice aov (P.md4 ww).length capv) : Rec) = x0 at *
                    replace hx0 := Lib.hid hx0
                    replace hap := Lib.hid hap
                    have hbxl := hbox.lt
                    go_upto_region 25 with (fail)
                    refine no_implicit_lambda% (wp_region_lit ?_)
                    refine no_implicit_lambda% (wpl_val ?_ rfl ?_ ?_)
                    rotate_left
                    · (go_simp; (try with_reducible rfl))
                    (try simp only [Act.put, Z1, Z2, Z4, Z5, Z6])
                    refine wpl_val (.agg (pcA x0)) rfl (run_load_cs rfl rfl hbox Try.underlying36 rfl (size36 x0)) ?_
                    (try simp only [Act.put, Z1, Z2, Z3, Z4, Z5, Z6])
                    refine wpl_law rfl (wp_buildSlice 22 36 1 _ rfl (pcA x0) ie _ Try.underlying22 hie ze (by rw [se]; decide) (by rw [se]; decide) ?c1 ?_)
                    case c1 => (simp only [se, List.map_toArray, List.map_cons, List.map_nil]; exact fill36 _)
                    have hlit : Blk (wr.alloc (.cells (pcA x0) 36)) wr.heap.size (pcL x0).toArray 36 := Blk.alloc_new _ _ _
                    have al := (Below.refl wr.heap.size wr).alloc (Nat.le_refl _) (.cells (pcA x0) 36)
                    have hsub4 := hsub.below al
                    have hso4 := hso.go al
                    have hs4 := al.size
                    clear al hsub hso hbox
                    (try simp only [Act.put, Z1, Z2, Z3, Z4, Z5, Z6])
                    generalize wr.alloc (.cells (pcA x0) 36) = U at *
                    generalize wr.heap.size = lb at *
                    have hlo4 := hso4.lo
                    refine wpl_law rfl (wp_append_src _ _ 22 rfl B0 36 ie _ 5 64 Try.underlying22 hie ze se ye rfl (by decide) u6 Rl.length _ rfl hso4.own.own _ 1 (pcL x0) rfl (src_blk hlit) (pcL_length _) (fun u hu => by have := hone.out; rw [Array.all_eq_true_iff_forall_mem] at this; exact this u (by simpa [pcA, pcL] using hu)) ?_ ?_ ?_ ?_)
                    · unfold maxLen; omega
                    · omega
                    · omega
                    intro v7 W7 own7 gr7 _ hloc7
                    have hO7 := hso4.own.push hsub4 hap.out own7 gr7 hloc7
                    have hF7 := Fr.of_grown gr7
                    have hS7 : Below w.heap.size w W7 := Fr.below hso4.below hF7 (Nat.le_refl _) fun i e => by have := hso4.lt.1 i e; omega
                    have hN7 := hso4.nbk.fr hF7 fun e => by have := hso4.lt.1 _ e; omega
                    have hB7 : B0 ≤ W7.heap.size := by have := hF7.size; omega
                    clear hso4 hsub4 hap own7 gr7 hloc7 hlit hone hF7 hs4 hlo4
                    (try simp only [Act.put, Z1, Z2, Z3, Z4, Z5, Z6])
                    refine no_implicit_lambda% (wpl_val ?_ rfl ?_ ?_)
                    rotate_left
                    · (go_simp; (try with_reducible rfl))
                    (try simp only [Act.put, Z1, Z2, Z3, Z4, Z5, Z6])
                    refine no_implicit_lambda% (wpList_nil ?_)
                    have hts' : Hid ((P.serAt (lft Lr) (lft Lw) (k + 1)).ts = s0.ts) := by unfold Hid; rw [hstep.out]; exact hE.out.1
                    have hnw' : Hid (nwA (P.serAt (lft Lr) (lft Lw) (k + 1)).nw = nwA s0.nw) := by unfold Hid; rw [hstep.out]; exact hE.out.2
                    have hT' : Hid (his (Rl ++ [x0]) = (P.serAt (lft Lr) (lft Lw) (k + 1)).L) := by unfold Hid; rw [hstep.out]; exact hT2.out
                    rw [← hnw'.out] at hN7
                    clear hnw' hT2 hT hRB hPok hL hE
                    go_wp2_with fail
                    go_roundw
                    case rel => exact ⟨k + 1, Rl ++ [x0], by go_num, by omega, by omega, by omega, by rw [hts'.out], hO7, hN7, hS7, hT', hB7, hRB2⟩
                    case measure => simp [intOf]; omega
                  · have hpos : 0 < (P.md4 ww).length := List.length_pos_iff.2 hemp
                    have d3 : decide ((0 : Int) < ((P.md4 ww).length : Int)) = true := by simp; omega
                    have hts1 : IntKind.u32.wrap (s0.ts + 1) = s0.ts + 1 := IntWalk.u32_in _ (by omega)
                    have hS2 : SS w (wr.setCell ⟨bx, 1, none⟩ (.int .u32 (s0.ts + 1))) nb s0.nw B0 u6 Rl bx (P.serA s0 r ww) rv (.slice aov (P.md4 ww).length capv) := by
                      have := hS.putC (s0.ts + 1)
                      rw [hAe.out, if_neg hemp]; exact this
                    have hE : Hid ((P.serStep s0 r ww).ts = s0.ts + 1) := if_neg hemp
                    have hWr : Hid ((P.serA s0 r ww).writes = P.md4 ww) := rfl
                    clear hemp hAe
                    go_upto_region 17 with (fail)
                    refine no_implicit_lambda% (wp_region_lit ?_)
                    refine no_implicit_lambda% (wpl_val ?_ rfl ?_ ?_)
                    rotate_left
                    · (go_simp; (try with_reducible rfl))
                    (try simp only [Act.put, Z1, Z2, Z4, Z5, Z6])
                    refine no_implicit_lambda% (wpl_val ?_ rfl ?_ ?_)
                    rotate_left
                    · (have c0 := (show wr.cell? ⟨bx, 4, none⟩ = some (.slice aov (P.md4 ww).length capv) by rw [hS.box.cell]; rfl); go_simp; (try with_reducible rfl))
                    (try simp only [Act.put, Z1, Z2, Z3, Z4, Z5, Z6])
                    refine no_implicit_lambda% (wpl_val ?_ rfl ?_ ?_)
                    rotate_left
                    · (go_simp; (try with_reducible rfl))
                    (try simp only [Act.put, Z1, Z2, Z3, Z4, Z5, Z6])
                    refine no_implicit_lambda% (wpl_val ?_ rfl ?_ ?_)
                    rotate_left
                    · (go_simp; (try with_reducible rfl))
                    (try simp only [Act.put, Z1, Z2, Z3, Z4, Z5, Z6])
                    refine no_implicit_lambda% (wpList_nil ?_)
                    clear d3
                    go_upto_region 18 with (fail)
                    refine no_implicit_lambda% (wp_region_lit ?_)
                    iterate 3
                      refine no_implicit_lambda% (wpl_val ?_ rfl ?_ ?_)
                      rotate_left
                      · (go_simp; (try with_reducible rfl))
                      (try simp only [Act.put, Z1, Z2, Z3, Z4, Z5, Z6])
                    refine no_implicit_lambda% (wpList_nil ?_)
                    clear hts1
                    have size32 : (Try.prog.info? 32).map (·.size) = some 1 := by kernel_rfl
                    go_upto_region 19 with (fail)
                    refine no_implicit_lambda% (wp_region_lit ?_)
                    iterate 2
                      refine no_implicit_lambda% (wpl_val ?_ rfl ?_ ?_)
                      rotate_left
                      · (go_simp; (try with_reducible rfl))
                      (try simp only [Act.put, Z1, Z2, Z3, Z4, Z5, Z6])
                    refine wpl_law rfl (wp_store_one 32 _ _ rfl ⟨bx, 1, none⟩ (.int .u32 0) (.int .u32 (s0.ts + 1)) rfl rfl size32 rfl (by rw [hS.box.cell]; rfl) (hS.box.free 1) ?_)
                    (try simp only [Act.put, Z1, Z2, Z3, Z4, Z5, Z6])
                    refine no_implicit_lambda% (wpList_nil ?_)
                    clear hS
                    have hS := hS2
                    clear hS2
                    generalize wr.setCell ⟨bx, 1, none⟩ (.int .u32 (s0.ts + 1)) = V at *
                    have cw : V.cell? ⟨bx, 4, none⟩ = some (.slice aov (P.md4 ww).length capv) := by rw [hS.box.cell]; rfl
                    go_upto_region 20 with (fail)
                    refine no_implicit_lambda% (wp_region_lit ?_)
                    refine no_implicit_lambda% (wpl_val ?_ rfl ?_ ?_)
                    rotate_left
                    · (go_simp; (try with_reducible rfl))
                    (try simp only [Act.put, Z1, Z2, Z4, Z5, Z6])
                    refine no_implicit_lambda% (wpl_val ?_ rfl ?_ ?_)
                    rotate_left
                    · (have c0 := cw; go_simp; (try with_reducible rfl))
                    (try simp only [Act.put, Z1, Z2, Z3, Z4, Z5, Z6])
                    refine no_implicit_lambda% (wpl_val ?_ rfl ?_ ?_)
                    rotate_left
                    · (go_simp; (try with_reducible rfl))
                    (try simp only [Act.put, Z1, Z2, Z3, Z4, Z5, Z6])
                    refine no_implicit_lambda% (wpl_val ?_ rfl ?_ ?_)
                    rotate_left
                    · (go_simp; (try with_reducible rfl))
                    (try simp only [Act.put, Z1, Z2, Z3, Z4, Z5, Z6])
                    refine no_implicit_lambda% (wpList_nil ?_)
                    clear cw
                    generalize P.serA s0 r ww = A at *
                    replace hS := Lib.hid hS
                    go_wp2_with fail
                    go_loopw [105] (fun i wr => ∃ (j : Nat), i = .int .i64 j ∧ j ≤ (P.md4 ww).length ∧ SS w wr nb (fun q => if q ∈ (P.md4 ww).take j then s0.ts + 1 else s0.nw q) B0 u6 Rl bx A rv (.slice aov (P.md4 ww).length capv)) (fun i _ => (P.md4 ww).length - (intOf i).toNat)
                    case atStart => exact ⟨0, rfl, Nat.zero_le _, by simpa using hS.out⟩
                    case round =>
                      clear hS
                      obtain ⟨i, rfl, hi, hS⟩ := hrel
                      by_cases hil : i < (P.md4 ww).length
                      · have hil' : (i : Int) < ((P.md4 ww).length : Int) := by omega
                        obtain ⟨p0, hp0⟩ : ∃ p, (P.md4 ww)[i]? = some p := ⟨_, List.getElem?_eq_getElem hil⟩
                        obtain ⟨p, rfl, hp4⟩ := md4_mem hwu.out (List.mem_of_getElem? hp0)
                        have hwt := hS.wt
                        rw [hWr.out] at hwt
                        obtain ⟨av2, cv2, ev2, _, hrv2⟩ := own_rowIn (f := pgC) (fun _ => rfl) hwt
                        injection ev2 with e1 _ e3
                        subst e1
                        clear e3 hwt
                        obtain ⟨b3, o3, rfl, hbl3, hr3⟩ := hrv2 i p hp0
                        have hcp : wr.cell? ⟨b3, o3 + i, none⟩ = some (.int .u16 p) := by have := hr3 0 _ rfl; simpa using this
                        have hp4i : (p : Int) < 4 := by omega
                        have hS2 := hS.putN hp4 (s0.ts + 1)
                        have hfe : (fun q => if q = (p : Int) then s0.ts + 1 else (fun q => if q ∈ (P.md4 ww).take i then s0.ts + 1 else s0.nw q) q) = (fun q => if q ∈ (P.md4 ww).take (i + 1) then s0.ts + 1 else s0.nw q) := by
                          funext q
                          rw [List.take_add_one, hp0]
                          by_cases h1 : q = (p : Int)
                          · subst h1; simp
                          · simp [h1]
                        rw [hfe] at hS2
                        clear hr3 hbl3 hrv2 hp0 hfe
                        go_upto_region 22 with (fail)
                        refine no_implicit_lambda% (wp_region_lit ?_)
                        refine no_implicit_lambda% (wpl_val ?_ rfl ?_ ?_)
                        rotate_left
                        · (go_simp; (try with_reducible rfl))
                        (try simp only [Act.put, Z1, Z2, Z4, Z5, Z6])
                        refine no_implicit_lambda% (wpl_val ?_ rfl ?_ ?_)
                        rotate_left
                        · (have c0 := hcp; go_simp; (try with_reducible rfl))
                        (try simp only [Act.put, Z1, Z2, Z3, Z4, Z5, Z6])
                        refine no_implicit_lambda% (wpl_val ?_ rfl ?_ ?_)
                        rotate_left
                        · (go_simp; (try with_reducible rfl))
                        (try simp only [Act.put, Z1, Z2, Z3, Z4, Z5, Z6])
                        refine no_implicit_lambda% (wpList_nil ?_)
                        clear hcp
                        go_upto_region 23 with (fail)
                        refine no_implicit_lambda% (wp_region_lit ?_)
                        iterate 3
                          refine no_implicit_lambda% (wpl_val ?_ rfl ?_ ?_)
                          rotate_left
                          · (go_simp; (try with_reducible rfl))
                          (try simp only [Act.put, Z1, Z2, Z3, Z4, Z5, Z6])
                        refine wpl_law rfl (wp_store_one 32 _ _ rfl ⟨nb, p, none⟩ _ (.int .u32 (s0.ts + 1)) rfl rfl size32 rfl (nw_get hS.so.nbk hp4) (hS.so.nbk.free p) ?_)
                        (try simp only [Act.put, Z1, Z2, Z3, Z4, Z5, Z6])
                        refine no_implicit_lambda% (wpList_nil ?_)
                        clear hS hp4i
                        go_wp2_with fail
                        go_roundw
                        case rel => exact ⟨i + 1, by go_num, by omega, hS2⟩
                        case measure => simp [intOf]; omega
                      · obtain rfl : i = (P.md4 ww).length := by omega
                        rw [List.take_length] at hS
                        have hE2 : Hid (nwA (P.serStep s0 r ww).nw = nwA (fun q => if q ∈ P.md4 ww then s0.ts + 1 else s0.nw q)) := rfl
                        replace hE : Hid ((P.serStep s0 r ww).ts = s0.ts + 1 ∧ nwA (P.serStep s0 r ww).nw = nwA (fun q => if q ∈ P.md4 ww then s0.ts + 1 else s0.nw q)) := ⟨hE.out, hE2.out⟩
                        clear hE2 hil
                        generalize (fun q => if q ∈ P.md4 ww then s0.ts + 1 else s0.nw q) = NW at *
                        have hsub : SubAt wr (A, rv, .slice aov (P.md4 ww).length capv) := ⟨own_rowIn (f := seC) (fun _ => rfl) hS.rd, own_rowIn (f := pgC) (fun _ => rfl) hS.wt, hPok.out⟩
                        have hblk : ∀ b, vblk ((A, rv, .slice aov (P.md4 ww).length capv) : Rec).2.1 = some b ∨ vblk ((A, rv, .slice aov (P.md4 ww).length capv) : Rec).2.2 = some b → bx < b := fun b hb => by
                          rcases hb with hb | hb
                          · have := (hS.rd.lt b (own_vblk hS.rd hb)).1; omega
                          · have := (hS.wt.lt b (own_vblk hS.wt hb)).1; omega
                        have hap : ∀ b, vblk ((A, rv, .slice aov (P.md4 ww).length capv) : Rec).2.1 = some b ∨ vblk ((A, rv, .slice aov (P.md4 ww).length capv) : Rec).2.2 = some b → u6.ownBlock ≠ some b := fun b hb e => by
                          have h1 := hblk b hb
                          have h2 := (hS.so.lt.1 b e).2
                          omega
                        have hRB2 : Hid (∀ x ∈ Rl ++ [((A, rv, .slice aov (P.md4 ww).length capv) : Rec)], ∀ b, vblk x.2.1 = some b ∨ vblk x.2.2 = some b → B0 ≤ b) := fun x hx b hb => by
                          have hlo := hS.so.lo
                          rcases List.mem_append.1 hx with hx | hx
                          · exact hRB.out x hx b hb
                          · obtain rfl := List.mem_singleton.1 hx
                            have := hblk b hb
                            omega
                        have hT2 : Hid (his (Rl ++ [((A, rv, .slice aov (P.md4 ww).length capv) : Rec)]) = (P.serStep s0 r ww).L) := by
                          unfold Hid
                          rw [hL.out, his, List.map_append, ← his, hT.out]; rfl
                        have hbox := hS.box
                        have hso := hS.so
                        have hone := Lib.hid hsub.one
                        clear hblk hS
                        generalize hx0 : ((A, rv, .slice aov (P.md4 ww).length capv) : Rec) = x0 at *
                        replace hx0 := Lib.hid hx0
                        replace hap := Lib.hid hap
                        have hbxl := hbox.lt
                        go_upto_region 25 with (fail)
                        refine no_implicit_lambda% (wp_region_lit ?_)
                        refine no_implicit_lambda% (wpl_val ?_ rfl ?_ ?_)
                        rotate_left
                        · (go_simp; (try with_reducible rfl))
                        (try simp only [Act.put, Z1, Z2, Z4, Z5, Z6])
                        refine wpl_val (.agg (pcA x0)) rfl (run_load_cs rfl rfl hbox Try.underlying36 rfl (size36 x0)) ?_
                        (try simp only [Act.put, Z1, Z2, Z3, Z4, Z5, Z6])
                        refine wpl_law rfl (wp_buildSlice 22 36 1 _ rfl (pcA x0) ie _ Try.underlying22 hie ze (by rw [se]; decide) (by rw [se]; decide) ?c1 ?_)
                        case c1 => (simp only [se, List.map_toArray, List.map_cons, List.map_nil]; exact fill36 _)
                        have hlit : Blk (wr.alloc (.cells (pcA x0) 36)) wr.heap.size (pcL x0).toArray 36 := Blk.alloc_new _ _ _
                        have al := (Below.refl wr.heap.size wr).alloc (Nat.le_refl _) (.cells (pcA x0) 36)
                        have hsub4 := hsub.below al
                        have hso4 := hso.go al
                        have hs4 := al.size
                        clear al hsub hso hbox
                        (try simp only [Act.put, Z1, Z2, Z3, Z4, Z5, Z6])
                        generalize wr.alloc (.cells (pcA x0) 36) = U at *
                        generalize wr.heap.size = lb at *
                        have hlo4 := hso4.lo
                        refine wpl_law rfl (wp_append_src _ _ 22 rfl B0 36 ie _ 5 64 Try.underlying22 hie ze se ye rfl (by decide) u6 Rl.length _ rfl hso4.own.own _ 1 (pcL x0) rfl (src_blk hlit) (pcL_length _) (fun u hu => by have := hone.out; rw [Array.all_eq_true_iff_forall_mem] at this; exact this u (by simpa [pcA, pcL] using hu)) ?_ ?_ ?_ ?_)
                        · unfold maxLen; omega
                        · omega
                        · omega
                        intro v7 W7 own7 gr7 _ hloc7
                        have hO7 := hso4.own.push hsub4 hap.out own7 gr7 hloc7
                        have hF7 := Fr.of_grown gr7
                        have hS7 : Below w.heap.size w W7 := Fr.below hso4.below hF7 (Nat.le_refl _) fun i e => by have := hso4.lt.1 i e; omega
                        have hN7 := hso4.nbk.fr hF7 fun e => by have := hso4.lt.1 _ e; omega
                        have hB7 : B0 ≤ W7.heap.size := by have := hF7.size; omega
                        clear hso4 hsub4 hap own7 gr7 hloc7 hlit hone hF7 hs4 hlo4
                        (try simp only [Act.put, Z1, Z2, Z3, Z4, Z5, Z6])
                        refine no_implicit_lambda% (wpl_val ?_ rfl ?_ ?_)
                        rotate_left
                        · (go_simp; (try with_reducible rfl))
                        (try simp only [Act.put, Z1, Z2, Z3, Z4, Z5, Z6])
                        refine no_implicit_lambda% (wpList_nil ?_)
                        have hts' : Hid ((P.serAt (lft Lr) (lft Lw) (k + 1)).ts = s0.ts + 1) := by unfold Hid; rw [hstep.out]; exact hE.out.1
                        have hnw' : Hid (nwA (P.serAt (lft Lr) (lft Lw) (k + 1)).nw = nwA NW) := by unfold Hid; rw [hstep.out]; exact hE.out.2
                        have hT' : Hid (his (Rl ++ [x0]) = (P.serAt (lft Lr) (lft Lw) (k + 1)).L) := by unfold Hid; rw [hstep.out]; exact hT2.out
                        rw [← hnw'.out] at hN7
                        clear hnw' hT2 hT hRB hPok hL hE
                        go_wp2_with fail
                        go_roundw
                        case rel => exact ⟨k + 1, Rl ++ [x0], by go_num, by omega, by omega, by omega, by rw [hts'.out], hO7, hN7, hS7, hT', hB7, hRB2⟩
                        case measure => simp [intOf]; omega
              · have d1 : decide ((j : Int) < (ww.length : Int)) = false := by simp; omega
                have hWd : Hid (wts ww j = P.md4 ww) := by
                  unfold Hid wts P.md4
                  rw [List.take_of_length_le (by omega : ww.length ≤ j), List.take_of_length_le (by omega : ww.length ≤ 6)]
                go_upto_region 14 with (fail)
                refine no_implicit_lambda% (wp_region_lit ?_)
                iterate 4
                  refine no_implicit_lambda% (wpl_val ?_ rfl ?_ ?_)
                  rotate_left
                  · (go_simp; (try with_reducible rfl))
                  (try simp only [Act.put, Z1, Z2, Z3, Z4, Z5, Z6])
                refine no_implicit_lambda% (wpl_val ?_ rfl ?_ ?_)
                rotate_left
                · (have c0 := hcl; go_simp; (try with_reducible rfl))
                (try simp only [Act.put, Z1, Z2, Z3, Z4, Z5, Z6])
                refine no_implicit_lambda% (wpl_val ?_ rfl ?_ ?_)
                rotate_left
                · (go_simp; (try with_reducible rfl))
                (try simp only [Act.put, Z1, Z2, Z3, Z4, Z5, Z6])
                iterate 2
                  refine no_implicit_lambda% (wpl_val ?_ rfl ?_ ?_)
                  rotate_left
                  · (go_simp; (try with_reducible rfl))
                  (try simp only [Act.put, Z1, Z2, Z3, Z4, Z5, Z6])
                iterate 2
                  refine no_implicit_lambda% (wpl_skip rfl ?_)
                  (try simp only [Act.put, Z1, Z2, Z3, Z4, Z5, Z6])
                refine no_implicit_lambda% (wpl_val ?_ rfl ?_ ?_)
                rotate_left
                · (go_simp; (try with_reducible rfl))
                (try simp only [Act.put, Z1, Z2, Z3, Z4, Z5, Z6])
                refine no_implicit_lambda% (wpList_nil ?_)
                clear d1 hcl
                rw [hWd.out] at hS
                have hWdl := md4_len ww
                have hL : Hid ((P.serStep s0 r ww).L = s0.L ++ [P.serA s0 r ww]) := rfl
                have hPok := Lib.hid (serA_ok (hs0.out ▸ P.sinv (lft Lr) (lft Lw) k) (by omega) hru.out hwu.out)
                have hAe : Hid (P.serA s0 r ww = ⟨s0.ts, if P.md4 ww = [] then 0 else s0.ts + 1, true, Rd, P.md4 ww⟩) := by unfold Hid P.serA; rw [hRde.out]
                obtain ⟨aov, capv, ev, hcv, hrv⟩ := own_rowIn (f := pgC) (fun _ => rfl) hS.wt
                dsimp only at ev
                subst ev
                clear hrv
                by_cases hemp : P.md4 ww = []
                · have d3 : decide ((0 : Int) < ((P.md4 ww).length : Int)) = false := by rw [hemp]; rfl
                  have hS' : SS w wr nb s0.nw B0 u6 Rl bx (P.serA s0 r ww) rv (.slice aov (P.md4 ww).length capv) := by rw [hAe.out, if_pos hemp]; exact hS
                  have hE : Hid ((P.serStep s0 r ww).ts = s0.ts ∧ nwA (P.serStep s0 r ww).nw = nwA s0.nw) := by
                    refine ⟨if_pos hemp, nw_congr fun p _ _ => ?_⟩
                    show (if p ∈ P.md4 ww then _ else _) = _
                    rw [hemp]; simp
                  clear hAe
                  replace hemp := Lib.hid hemp
                  go_upto_region 17 with (fail)
                  refine no_implicit_lambda% (wp_region_lit ?_)
                  refine no_implicit_lambda% (wpl_val ?_ rfl ?_ ?_)
                  rotate_left
                  · (go_simp; (try with_reducible rfl))
                  (try simp only [Act.put, Z1, Z2, Z4, Z5, Z6])
                  refine no_implicit_lambda% (wpl_val ?_ rfl ?_ ?_)
                  rotate_left
                  · (have c0 := (show wr.cell? ⟨bx, 4, none⟩ = some (.slice aov (P.md4 ww).length capv) by rw [hS.box.cell]; rfl); go_simp; (try with_reducible rfl))
                  (try simp only [Act.put, Z1, Z2, Z3, Z4, Z5, Z6])
                  refine no_implicit_lambda% (wpl_val ?_ rfl ?_ ?_)
                  rotate_left
                  · (go_simp; (try with_reducible rfl))
                  (try simp only [Act.put, Z1, Z2, Z3, Z4, Z5, Z6])
                  refine wpl_val (.bool false) rfl (by go_simp; simp [hemp.out]) ?_
                  (try simp only [Act.put, Z1, Z2, Z3, Z4, Z5, Z6])
                  refine no_implicit_lambda% (wpList_nil ?_)
                  clear d3 hS hemp
                  have hS := hS'
                  clear hS'
                  generalize P.serA s0 r ww = A at *
                  have hsub : SubAt wr (A, rv, .slice aov (P.md4 ww).length capv) := ⟨own_rowIn (f := seC) (fun _ => rfl) hS.rd, own_rowIn (f := pgC) (fun _ => rfl) hS.wt, hPok.out⟩
                  have hblk : ∀ b, vblk ((A, rv, .slice aov (P.md4 ww).length capv) : Rec).2.1 = some b ∨ vblk ((A, rv, .slice aov (P.md4 ww).length capv) : Rec).2.2 = some b → bx < b := fun b hb => by
                    rcases hb with hb | hb
                    · have := (hS.rd.lt b (own_vblk hS.rd hb)).1; omega
                    · have := (hS.wt.lt b (own_vblk hS.wt hb)).1; omega
                  have hap : ∀ b, vblk ((A, rv, .slice aov (P.md4 ww).length capv) : Rec).2.1 = some b ∨ vblk ((A, rv, .slice aov (P.md4 ww).length capv) : Rec).2.2 = some b → u6.ownBlock ≠ some b := fun b hb e => by
                    have h1 := hblk b hb
                    have h2 := (hS.so.lt.1 b e).2
                    omega
                  have hRB2 : Hid (∀ x ∈ Rl ++ [((A, rv, .slice aov (P.md4 ww).length capv) : Rec)], ∀ b, vblk x.2.1 = some b ∨ vblk x.2.2 = some b → B0 ≤ b) := fun x hx b hb => by
                    have hlo := hS.so.lo
                    rcases List.mem_append.1 hx with hx | hx
                    · exact hRB.out x hx b hb
                    · obtain rfl := List.mem_singleton.1 hx
                      have := hblk b hb
                      omega
                  have hT2 : Hid (his (Rl ++ [((A, rv, .slice aov (P.md4 ww).length capv) : Rec)]) = (P.serStep s0 r ww).L) := by
                    unfold Hid
                    rw [hL.out, his, List.map_append, ← his, hT.out]; rfl
                  have hbox := hS.box
                  have hso := hS.so
                  have hone := Lib.hid hsub.one
                  clear hblk hS
                  generalize hx0 : ((A, rv, .slice aov (P.md4 ww).length capv) : Rec) = x0 at *
                  replace hx0 := Lib.hid hx0
                  replace hap := Lib.hid hap
                  have hbxl := hbox.lt
                  go_upto_region 25 with (fail)
                  refine no_implicit_lambda% (wp_region_lit ?_)
                  refine no_implicit_lambda% (wpl_val ?_ rfl ?_ ?_)
                  rotate_left
                  · (go_simp; (try with_reducible rfl))
                  (try simp only [Act.put, Z1, Z2, Z4, Z5, Z6])
                  refine wpl_val (.agg (pcA x0)) rfl (run_load_cs rfl rfl hbox Try.underlying36 rfl (size36 x0)) ?_
                  (try simp only [Act.put, Z1, Z2, Z3, Z4, Z5, Z6])
                  refine wpl_law rfl (wp_buildSlice 22 36 1 _ rfl (pcA x0) ie _ Try.underlying22 hie ze (by rw [se]; decide) (by rw [se]; decide) ?c1 ?_)
                  case c1 => (simp only [se, List.map_toArray, List.map_cons, List.map_nil]; exact fill36 _)
                  have hlit : Blk (wr.alloc (.cells (pcA x0) 36)) wr.heap.size (pcL x0).toArray 36 := Blk.alloc_new _ _ _
                  have al := (Below.refl wr.heap.size wr).alloc (Nat.le_refl _) (.cells (pcA x0) 36)
                  have hsub4 := hsub.below al
                  have hso4 := hso.go al
                  have hs4 := al.size
                  clear al hsub hso hbox
                  (try simp only [Act.put, Z1, Z2, Z3, Z4, Z5, Z6])
                  generalize wr.alloc (.cells (pcA x0) 36) = U at *
                  generalize wr.heap.size = lb at *
                  have hlo4 := hso4.lo
                  refine wpl_law rfl (wp_append_src _ _ 22 rfl B0 36 ie _ 5 64 Try.underlying22 hie ze se ye rfl (by decide) u6 Rl.length _ rfl hso4.own.own _ 1 (pcL x0) rfl (src_blk hlit) (pcL_length _) (fun u hu => by have := hone.out; rw [Array.all_eq_true_iff_forall_mem] at this; exact this u (by simpa [pcA, pcL] using hu)) ?_ ?_ ?_ ?_)
                  · unfold maxLen; omega
                  · omega
                  · omega
                  intro v7 W7 own7 gr7 _ hloc7
                  have hO7 := hso4.own.push hsub4 hap.out own7 gr7 hloc7
                  have hF7 := Fr.of_grown gr7
                  have hS7 : Below w.heap.size w W7 := Fr.below hso4.below hF7 (Nat.le_refl _) fun i e => by have := hso4.lt.1 i e; omega
                  have hN7 := hso4.nbk.fr hF7 fun e => by have := hso4.lt.1 _ e; omega
                  have hB7 : B0 ≤ W7.heap.size := by have := hF7.size; omega
                  clear hso4 hsub4 hap own7 gr7 hloc7 hlit hone hF7 hs4 hlo4
                  (try simp only [Act.put, Z1, Z2, Z3, Z4, Z5, Z6])
                  refine no_implicit_lambda% (wpl_val ?_ rfl ?_ ?_)
                  rotate_left
                  · (go_simp; (try with_reducible rfl))
                  (try simp only [Act.put, Z1, Z2, Z3, Z4, Z5, Z6])
                  refine no_implicit_lambda% (wpList_nil ?_)
                  have hts' : Hid ((P.serAt (lft Lr) (lft Lw) (k + 1)).ts = s0.ts) := by unfold Hid; rw [hstep.out]; exact hE.out.1
                  have hnw' : Hid (nwA (P.serAt (lft Lr) (lft Lw) (k + 1)).nw = nwA s0.nw) := by unfold Hid; rw [hstep.out]; exact hE.out.2
                  have hT' : Hid (his (Rl ++ [x0]) = (P.serAt (lft Lr) (lft Lw) (k + 1)).L) := by unfold Hid; rw [hstep.out]; exact hT2.out
                  rw [← hnw'.out] at hN7
                  clear hnw' hT2 hT hRB hPok hL hE
                  go_wp2_with fail
                  go_roundw
                  case rel => exact ⟨k + 1, Rl ++ [x0], by go_num, by omega, by omega, by omega, by rw [hts'.out], hO7, hN7, hS7, hT', hB7, hRB2⟩
                  case measure => simp [intOf]; omega
                · have hpos : 0 < (P.md4 ww).length := List.length_pos_iff.2 hemp
                  have d3 : decide ((0 : Int) < ((P.md4 ww).length : Int)) = true := by simp; omega
                  have hts1 : IntKind.u32.wrap (s0.ts + 1) = s0.ts + 1 := IntWalk.u32_in _ (by omega)
                  have hS2 : SS w (wr.setCell ⟨bx, 1, none⟩ (.int .u32 (s0.ts + 1))) nb s0.nw B0 u6 Rl bx (P.serA s0 r ww) rv (.slice aov (P.md4 ww).length capv) := by
                    have := hS.putC (s0.ts + 1)
                    rw [hAe.out, if_neg hemp]; exact this
                  have hE : Hid ((P.serStep s0 r ww).ts = s0.ts + 1) := if_neg hemp
                  have hWr : Hid ((P.serA s0 r ww).writes = P.md4 ww) := rfl
                  clear hemp hAe
                  go_upto_region 17 with (fail)
                  refine no_implicit_lambda% (wp_region_lit ?_)
                  refine no_implicit_lambda% (wpl_val ?_ rfl ?_ ?_)
                  rotate_left
                  · (go_simp; (try with_reducible rfl))
                  (try simp only [Act.put, Z1, Z2, Z4, Z5, Z6])
                  refine no_implicit_lambda% (wpl_val ?_ rfl ?_ ?_)
                  rotate_left
                  · (have c0 := (show wr.cell? ⟨bx, 4, none⟩ = some (.slice aov (P.md4 ww).length capv) by rw [hS.box.cell]; rfl); go_simp; (try with_reducible rfl))
                  (try simp only [Act.put, Z1, Z2, Z3, Z4, Z5, Z6])
                  refine no_implicit_lambda% (wpl_val ?_ rfl ?_ ?_)
                  rotate_left
                  · (go_simp; (try with_reducible rfl))
                  (try simp only [Act.put, Z1, Z2, Z3, Z4, Z5, Z6])
                  refine no_implicit_lambda% (wpl_val ?_ rfl ?_ ?_)
                  rotate_left
                  · (go_simp; (try with_reducible rfl))
                  (try simp only [Act.put, Z1, Z2, Z3, Z4, Z5, Z6])
                  refine no_implicit_lambda% (wpList_nil ?_)
                  clear d3
                  go_upto_region 18 with (fail)
                  refine no_implicit_lambda% (wp_region_lit ?_)
                  iterate 3
                    refine no_implicit_lambda% (wpl_val ?_ rfl ?_ ?_)
                    rotate_left
                    · (go_simp; (try with_reducible rfl))
                    (try simp only [Act.put, Z1, Z2, Z3, Z4, Z5, Z6])
                  refine no_implicit_lambda% (wpList_nil ?_)
                  clear hts1
                  have size32 : (Try.prog.info? 32).map (·.size) = some 1 := by kernel_rfl
                  go_upto_region 19 with (fail)
                  refine no_implicit_lambda% (wp_region_lit ?_)
                  iterate 2
                    refine no_implicit_lambda% (wpl_val ?_ rfl ?_ ?_)
                    rotate_left
                    · (go_simp; (try with_reducible rfl))
                    (try simp only [Act.put, Z1, Z2, Z3, Z4, Z5, Z6])
                  refine wpl_law rfl (wp_store_one 32 _ _ rfl ⟨bx, 1, none⟩ (.int .u32 0) (.int .u32 (s0.ts + 1)) rfl rfl size32 rfl (by rw [hS.box.cell]; rfl) (hS.box.free 1) ?_)
                  (try simp only [Act.put, Z1, Z2, Z3, Z4, Z5, Z6])
                  refine no_implicit_lambda% (wpList_nil ?_)
                  clear hS
                  have hS := hS2
                  clear hS2
                  generalize wr.setCell ⟨bx, 1, none⟩ (.int .u32 (s0.ts + 1)) = V at *
                  have cw : V.cell? ⟨bx, 4, none⟩ = some (.slice aov (P.md4 ww).length capv) := by rw [hS.box.cell]; rfl
                  go_upto_region 20 with (fail)
                  refine no_implicit_lambda% (wp_region_lit ?_)
                  refine no_implicit_lambda% (wpl_val ?_ rfl ?_ ?_)
                  rotate_left
                  · (go_simp; (try with_reducible rfl))
                  (try simp only [Act.put, Z1, Z2, Z4, Z5, Z6])
                  refine no_implicit_lambda% (wpl_val ?_ rfl ?_ ?_)
                  rotate_left
                  · (have c0 := cw; go_simp; (try with_reducible rfl))
                  (try simp only [Act.put, Z1, Z2, Z3, Z4, Z5, Z6])
                  refine no_implicit_lambda% (wpl_val ?_ rfl ?_ ?_)
                  rotate_left
                  · (go_simp; (try with_reducible rfl))
                  (try simp only [Act.put, Z1, Z2, Z3, Z4, Z5, Z6])
                  refine no_implicit_lambda% (wpl_val ?_ rfl ?_ ?_)
                  rotate_left
                  · (go_simp; (try with_reducible rfl))
                  (try simp only [Act.put, Z1, Z2, Z3, Z4, Z5, Z6])
                  refine no_implicit_lambda% (wpList_nil ?_)
                  clear cw
                  generalize P.serA s0 r ww = A at *
                  replace hS := Lib.hid hS
                  go_wp2_with fail
                  go_loopw [105] (fun i wr => ∃ (j : Nat), i = .int .i64 j ∧ j ≤ (P.md4 ww).length ∧ SS w wr nb (fun q => if q ∈ (P.md4 ww).take j then s0.ts + 1 else s0.nw q) B0 u6 Rl bx A rv (.slice aov (P.md4 ww).length capv)) (fun i _ => (P.md4 ww).length - (intOf i).toNat)
                  case atStart => exact ⟨0, rfl, Nat.zero_le _, by simpa using hS.out⟩
                  case round =>
                    clear hS
                    obtain ⟨i, rfl, hi, hS⟩ := hrel
                    by_cases hil : i < (P.md4 ww).length
                    · have hil' : (i : Int) < ((P.md4 ww).length : Int) := by omega
                      obtain ⟨p0, hp0⟩ : ∃ p, (P.md4 ww)[i]? = some p := ⟨_, List.getElem?_eq_getElem hil⟩
                      obtain ⟨p, rfl, hp4⟩ := md4_mem hwu.out (List.mem_of_getElem? hp0)
                      have hwt := hS.wt
                      rw [hWr.out] at hwt
                      obtain ⟨av2, cv2, ev2, _, hrv2⟩ := own_rowIn (f := pgC) (fun _ => rfl) hwt
                      injection ev2 with e1 _ e3
                      subst e1
                      clear e3 hwt
                      obtain ⟨b3, o3, rfl, hbl3, hr3⟩ := hrv2 i p hp0
                      have hcp : wr.cell? ⟨b3, o3 + i, none⟩ = some (.int .u16 p) := by have := hr3 0 _ rfl; simpa using this
                      have hp4i : (p : Int) < 4 := by omega
                      have hS2 := hS.putN hp4 (s0.ts + 1)
                      have hfe : (fun q => if q = (p : Int) then s0.ts + 1 else (fun q => if q ∈ (P.md4 ww).take i then s0.ts + 1 else s0.nw q) q) = (fun q => if q ∈ (P.md4 ww).take (i + 1) then s0.ts + 1 else s0.nw q) := by
                        funext q
                        rw [List.take_add_one, hp0]
                        by_cases h1 : q = (p : Int)
                        · subst h1; simp
                        · simp [h1]
                      rw [hfe] at hS2
                      clear hr3 hbl3 hrv2 hp0 hfe
                      go_upto_region 22 with (fail)
                      refine no_implicit_lambda% (wp_region_lit ?_)
                      refine no_implicit_lambda% (wpl_val ?_ rfl ?_ ?_)
                      rotate_left
                      · (go_simp; (try with_reducible rfl))
                      (try simp only [Act.put, Z1, Z2, Z4, Z5, Z6])
                      refine no_implicit_lambda% (wpl_val ?_ rfl ?_ ?_)
                      rotate_left
                      · (have c0 := hcp; go_simp; (try with_reducible rfl))
                      (try simp only [Act.put, Z1, Z2, Z3, Z4, Z5, Z6])
                      refine no_implicit_lambda% (wpl_val ?_ rfl ?_ ?_)
                      rotate_left
                      · (go_simp; (try with_reducible rfl))
                      (try simp only [Act.put, Z1, Z2, Z3, Z4, Z5, Z6])
                      refine no_implicit_lambda% (wpList_nil ?_)
                      clear hcp
                      go_upto_region 23 with (fail)
                      refine no_implicit_lambda% (wp_region_lit ?_)
                      iterate 3
                        refine no_implicit_lambda% (wpl_val ?_ rfl ?_ ?_)
                        rotate_left
                        · (go_simp; (try with_reducible rfl))
                        (try simp only [Act.put, Z1, Z2, Z3, Z4, Z5, Z6])
                      refine wpl_law rfl (wp_store_one 32 _ _ rfl ⟨nb, p, none⟩ _ (.int .u32 (s0.ts + 1)) rfl rfl size32 rfl (nw_get hS.so.nbk hp4) (hS.so.nbk.free p) ?_)
                      (try simp only [Act.put, Z1, Z2, Z3, Z4, Z5, Z6])
                      refine no_implicit_lambda% (wpList_nil ?_)
                      clear hS hp4i
                      go_wp2_with fail
                      go_roundw
                      case rel => exact ⟨i + 1, by go_num, by omega, hS2⟩
                      case measure => simp [intOf]; omega
                    · obtain rfl : i = (P.md4 ww).length := by omega
                      rw [List.take_length] at hS
                      have hE2 : Hid (nwA (P.serStep s0 r ww).nw = nwA (fun q => if q ∈ P.md4 ww then s0.ts + 1 else s0.nw q)) := rfl
                      replace hE : Hid ((P.serStep s0 r ww).ts = s0.ts + 1 ∧ nwA (P.serStep s0 r ww).nw = nwA (fun q => if q ∈ P.md4 ww then s0.ts + 1 else s0.nw q)) := ⟨hE.out, hE2.out⟩
                      clear hE2 hil
                      generalize (fun q => if q ∈ P.md4 ww then s0.ts + 1 else s0.nw q) = NW at *
                      have hsub : SubAt wr (A, rv, .slice aov (P.md4 ww).length capv) := ⟨own_rowIn (f := seC) (fun _ => rfl) hS.rd, own_rowIn (f := pgC) (fun _ => rfl) hS.wt, hPok.out⟩
                      have hblk : ∀ b, vblk ((A, rv, .slice aov (P.md4 ww).length capv) : Rec).2.1 = some b ∨ vblk ((A, rv, .slice aov (P.md4 ww).length capv) : Rec).2.2 = some b → bx < b := fun b hb => by
                        rcases hb with hb | hb
                        · have := (hS.rd.lt b (own_vblk hS.rd hb)).1; omega
                        · have := (hS.wt.lt b (own_vblk hS.wt hb)).1; omega
                      have hap : ∀ b, vblk ((A, rv, .slice aov (P.md4 ww).length capv) : Rec).2.1 = some b ∨ vblk ((A, rv, .slice aov (P.md4 ww).length capv) : Rec).2.2 = some b → u6.ownBlock ≠ some b := fun b hb e => by
                        have h1 := hblk b hb
                        have h2 := (hS.so.lt.1 b e).2
                        omega
                      have hRB2 : Hid (∀ x ∈ Rl ++ [((A, rv, .slice aov (P.md4 ww).length capv) : Rec)], ∀ b, vblk x.2.1 = some b ∨ vblk x.2.2 = some b → B0 ≤ b) := fun x hx b hb => by
                        have hlo := hS.so.lo
                        rcases List.mem_append.1 hx with hx | hx
                        · exact hRB.out x hx b hb
                        · obtain rfl := List.mem_singleton.1 hx
                          have := hblk b hb
                          omega
                      have hT2 : Hid (his (Rl ++ [((A, rv, .slice aov (P.md4 ww).length capv) : Rec)]) = (P.serStep s0 r ww).L) := by
                        unfold Hid
                        rw [hL.out, his, List.map_append, ← his, hT.out]; rfl
                      have hbox := hS.box
                      have hso := hS.so
                      have hone := Lib.hid hsub.one
                      clear hblk hS
                      generalize hx0 : ((A, rv, .slice aov (P.md4 ww).length capv) : Rec) = x0 at *
                      replace hx0 := Lib.hid hx0
                      replace hap := Lib.hid hap
                      have hbxl := hbox.lt
                      go_upto_region 25 with (fail)
                      refine no_implicit_lambda% (wp_region_lit ?_)
                      refine no_implicit_lambda% (wpl_val ?_ rfl ?_ ?_)
                      rotate_left
                      · (go_simp; (try with_reducible rfl))
                      (try simp only [Act.put, Z1, Z2, Z4, Z5, Z6])
                      refine wpl_val (.agg (pcA x0)) rfl (run_load_cs rfl rfl hbox Try.underlying36 rfl (size36 x0)) ?_
                      (try simp only [Act.put, Z1, Z2, Z3, Z4, Z5, Z6])
                      refine wpl_law rfl (wp_buildSlice 22 36 1 _ rfl (pcA x0) ie _ Try.underlying22 hie ze (by rw [se]; decide) (by rw [se]; decide) ?c1 ?_)
                      case c1 => (simp only [se, List.map_toArray, List.map_cons, List.map_nil]; exact fill36 _)
                      have hlit : Blk (wr.alloc (.cells (pcA x0) 36)) wr.heap.size (pcL x0).toArray 36 := Blk.alloc_new _ _ _
                      have al := (Below.refl wr.heap.size wr).alloc (Nat.le_refl _) (.cells (pcA x0) 36)
                      have hsub4 := hsub.below al
                      have hso4 := hso.go al
                      have hs4 := al.size
                      clear al hsub hso hbox
                      (try simp only [Act.put, Z1, Z2, Z3, Z4, Z5, Z6])
                      generalize wr.alloc (.cells (pcA x0) 36) = U at *
                      generalize wr.heap.size = lb at *
                      have hlo4 := hso4.lo
                      refine wpl_law rfl (wp_append_src _ _ 22 rfl B0 36 ie _ 5 64 Try.underlying22 hie ze se ye rfl (by decide) u6 Rl.length _ rfl hso4.own.own _ 1 (pcL x0) rfl (src_blk hlit) (pcL_length _) (fun u hu => by have := hone.out; rw [Array.all_eq_true_iff_forall_mem] at this; exact this u (by simpa [pcA, pcL] using hu)) ?_ ?_ ?_ ?_)
                      · unfold maxLen; omega
                      · omega
                      · omega
                      intro v7 W7 own7 gr7 _ hloc7
                      have hO7 := hso4.own.push hsub4 hap.out own7 gr7 hloc7
                      have hF7 := Fr.of_grown gr7
                      have hS7 : Below w.heap.size w W7 := Fr.below hso4.below hF7 (Nat.le_refl _) fun i e => by have := hso4.lt.1 i e; omega
                      have hN7 := hso4.nbk.fr hF7 fun e => by have := hso4.lt.1 _ e; omega
                      have hB7 : B0 ≤ W7.heap.size := by have := hF7.size; omega
                      clear hso4 hsub4 hap own7 gr7 hloc7 hlit hone hF7 hs4 hlo4
                      (try simp only [Act.put, Z1, Z2, Z3, Z4, Z5, Z6])
                      refine no_implicit_lambda% (wpl_val ?_ rfl ?_ ?_)
                      rotate_left
                      · (go_simp; (try with_reducible rfl))
                      (try simp only [Act.put, Z1, Z2, Z3, Z4, Z5, Z6])
                      refine no_implicit_lambda% (wpList_nil ?_)
                      have hts' : Hid ((P.serAt (lft Lr) (lft Lw) (k + 1)).ts = s0.ts + 1) := by unfold Hid; rw [hstep.out]; exact hE.out.1
                      have hnw' : Hid (nwA (P.serAt (lft Lr) (lft Lw) (k + 1)).nw = nwA NW) := by unfold Hid; rw [hstep.out]; exact hE.out.2
                      have hT' : Hid (his (Rl ++ [x0]) = (P.serAt (lft Lr) (lft Lw) (k + 1)).L) := by unfold Hid; rw [hstep.out]; exact hT2.out
                      rw [← hnw'.out] at hN7
                      clear hnw' hT2 hT hRB hPok hL hE
                      go_wp2_with fail
                      go_roundw
                      case rel => exact ⟨k + 1, Rl ++ [x0], by go_num, by omega, by omega, by omega, by rw [hts'.out], hO7, hN7, hS7, hT', hB7, hRB2⟩
                      case measure => simp [intOf]; omega
        · have d1 : decide ((j : Int) < (r.length : Int)) = false := by simp; omega
          have hR : Hid (rds s0.nw r j = (P.md4 r).map fun p => (p, s0.nw p)) := by
            unfold Hid rds P.md4
            rw [List.take_of_length_le (by omega : r.length ≤ j), List.take_of_length_le (by omega : r.length ≤ 6)]
          go_upto_region 9 with (fail)
          refine no_implicit_lambda% (wp_region_lit ?_)
          iterate 4
            refine no_implicit_lambda% (wpl_val ?_ rfl ?_ ?_)
            rotate_left
            · (go_simp; (try with_reducible rfl))
            (try simp only [Act.put, Z1, Z2, Z3, Z4, Z5, Z6])
          refine no_implicit_lambda% (wpl_val ?_ rfl ?_ ?_)
          rotate_left
          · (have c0 := hcl; go_simp; (try with_reducible rfl))
          (try simp only [Act.put, Z1, Z2, Z3, Z4, Z5, Z6])
          refine no_implicit_lambda% (wpl_val ?_ rfl ?_ ?_)
          rotate_left
          · (go_simp; (try with_reducible rfl))
          (try simp only [Act.put, Z1, Z2, Z3, Z4, Z5, Z6])
          iterate 2
            refine no_implicit_lambda% (wpl_val ?_ rfl ?_ ?_)
            rotate_left
            · (go_simp; (try with_reducible rfl))
            (try simp only [Act.put, Z1, Z2, Z3, Z4, Z5, Z6])
          iterate 2
            refine no_implicit_lambda% (wpl_skip rfl ?_)
            (try simp only [Act.put, Z1, Z2, Z3, Z4, Z5, Z6])
          refine no_implicit_lambda% (wpl_val ?_ rfl ?_ ?_)
          rotate_left
          · (go_simp; (try with_reducible rfl))
          (try simp only [Act.put, Z1, Z2, Z3, Z4, Z5, Z6])
          refine no_implicit_lambda% (wpList_nil ?_)
          clear d1 hcl
          rw [hR.out] at hS
          have hRdl : ((P.md4 r).map fun p => (p, s0.nw p)).length ≤ 6 := by rw [List.length_map]; exact md4_len r
          have hRd := Lib.hid (rfl : ((P.md4 r).map fun p => (p, s0.nw p)) = (P.md4 r).map fun p => (p, s0.nw p))
          generalize hRde : ((P.md4 r).map fun p => (p, s0.nw p)) = Rd at hS hRdl
          replace hRde := Lib.hid hRde
          clear hRd hR
          replace hS := Lib.hid hS
          go_wp2_with fail
          go_loopw [12] (fun i wr => ∃ (j : Nat) (wv : Value), i = .int .i64 j ∧ j ≤ 6 ∧ j ≤ ww.length ∧ SS w wr nb s0.nw B0 u6 Rl bx ⟨s0.ts, 0, true, Rd, wts ww j⟩ rv wv) (fun i _ => 6 - (intOf i).toNat)
          case atStart => exact ⟨0, _, rfl, Nat.zero_le _, Nat.zero_le _, hS.out⟩
          case round =>
            clear hS
            obtain ⟨j, wv, rfl, hj6, hjw, hS⟩ := hrel
            have hcl := hcellw.out wr hS.so.below
            by_cases hjl : j < ww.length
            · have d1 : decide ((j : Int) < (ww.length : Int)) = true := by simp; omega
              by_cases hj : j < 6
              · have d2 : decide ((j : Int) < 6) = true := by simp; omega
                have d1' : (j : Int) < (ww.length : Int) := by omega
                go_upto_region 14 with (fail)
                refine no_implicit_lambda% (wp_region_lit ?_)
                iterate 4
                  refine no_implicit_lambda% (wpl_val ?_ rfl ?_ ?_)
                  rotate_left
                  · (go_simp; (try with_reducible rfl))
                  (try simp only [Act.put, Z1, Z2, Z3, Z4, Z5, Z6])
                refine no_implicit_lambda% (wpl_val ?_ rfl ?_ ?_)
                rotate_left
                · (have c0 := hcl; go_simp; (try with_reducible rfl))
                (try simp only [Act.put, Z1, Z2, Z3, Z4, Z5, Z6])
                refine no_implicit_lambda% (wpl_val ?_ rfl ?_ ?_)
                rotate_left
                · (go_simp; (try with_reducible rfl))
                (try simp only [Act.put, Z1, Z2, Z3, Z4, Z5, Z6])
                iterate 5
                  refine no_implicit_lambda% (wpl_val ?_ rfl ?_ ?_)
                  rotate_left
                  · (go_simp; (try with_reducible rfl))
                  (try simp only [Act.put, Z1, Z2, Z3, Z4, Z5, Z6])
                refine no_implicit_lambda% (wpList_nil ?_)
                clear d1 d2 hcl
                obtain ⟨x, hx⟩ : ∃ x, ww[j]? = some x := ⟨_, List.getElem?_eq_getElem hjl⟩
                obtain ⟨b2, o2, rfl, _, _⟩ := hrw.out j x hx
                have hcx : ∀ W, Below w.heap.size w W → W.cell? ⟨b2, o2 + j, none⟩ = some (.int .u8 x) := fun W hW => by
                  have := ((hrw.out.below hW).at' hx).2 0 _ rfl
                  simpa using this
                replace hcx := Lib.hid hcx
                obtain ⟨p, hp, hp4⟩ := md_lt (hwu.out x (List.mem_of_getElem? hx))
                have hws : Hid (wts ww (j + 1) = wts ww j ++ [(p : Int)]) := by unfold Hid; rw [wts_succ hx, hp]
                have hpw : IntKind.u16.wrap (p : Int) = (p : Int) := IntWalk.u16_in _ (by omega)
                have hwtl : (wts ww j).length ≤ 6 := by unfold wts; rw [List.length_map, List.length_take]; omega
                clear hx
                go_upto_region 16 with (fail)
                refine wp_region_K (k := 14) (S := (fun w' => Blk w' bx (pcA (⟨s0.ts, 0, true, Rd, wts ww j⟩, rv, wv)) 36 ∧ Below w.heap.size w w')) (by kernel_rfl) ?_
                change wpAnyK _ _ _ _ _ _ _ _ _ (World.drew _)
                (try simp only [Act.put])
                have hG := hS.go (Below.refl _ _).drew
                clear hS
                generalize wr.drew = V at *
                have hS := And.intro hG.box hG.so.below
                refine anyK_pure 0 _ ?_ rfl (by kernel_rfl) (by kernel_rfl) (by kernel_rfl) (fun _ _ _ h => h) (by decide) rfl ?_ hS ?_
                rotate_left
                · (intro w'; go_simp; (try with_reducible rfl))
                (try simp only [Act.put, Z1, Z2, Z4, Z5, Z6])
                refine anyK_if 1 _ ?_ rfl (by kernel_rfl) (by kernel_rfl) (by kernel_rfl) (fun _ _ _ h => h) (by decide) (by kernel_rfl) (by kernel_rfl) rfl ?_ hS ?_
                rotate_left
                · (intro w' h; have c0 := (show w'.cell? ⟨bx, 4, none⟩ = some wv by rw [h.1.cell]; rfl); go_simp; (try with_reducible rfl))
                (try simp only [Act.put, Z1, Z2, Z3, Z4, Z5, Z6])
                refine anyK_pure 2 _ ?_ rfl (by kernel_rfl) (by kernel_rfl) (by kernel_rfl) (fun _ _ _ h => h) (by decide) rfl ?_ hS ?_
                rotate_left
                · (intro w'; go_simp; (try with_reducible rfl))
                (try simp only [Act.put, Z1, Z2, Z3, Z4, Z5, Z6])
                refine anyK_pure 3 _ ?_ rfl (by kernel_rfl) (by kernel_rfl) (by kernel_rfl) (fun _ _ _ h => h) (by decide) rfl ?_ hS ?_
                rotate_left
                · (intro w'; go_simp; (try with_reducible rfl))
                (try simp only [Act.put, Z1, Z2, Z3, Z4, Z5, Z6])
                refine anyK_pure 4 _ ?_ rfl (by kernel_rfl) (by kernel_rfl) (by kernel_rfl) (fun _ _ _ h => h) (by decide) rfl ?_ hS ?_
                rotate_left
                · (intro w'; go_simp; (try with_reducible rfl))
                (try simp only [Act.put, Z1, Z2, Z3, Z4, Z5, Z6])
                refine anyK_if 5 _ ?_ rfl (by kernel_rfl) (by kernel_rfl) (by kernel_rfl) (fun _ _ _ h => h) (by decide) (by kernel_rfl) (by kernel_rfl) rfl ?_ hS ?_
                rotate_left
                · (intro w' h; have c0 := hcellw.out w' h.2; go_simp; (try with_reducible rfl))
                (try simp only [Act.put, Z1, Z2, Z3, Z4, Z5, Z6])
                refine anyK_pure 6 _ ?_ rfl (by kernel_rfl) (by kernel_rfl) (by kernel_rfl) (fun _ _ _ h => h) (by decide) rfl ?_ hS ?_
                rotate_left
                · (intro w'; go_simp; (try with_reducible rfl))
                (try simp only [Act.put, Z1, Z2, Z3, Z4, Z5, Z6])
                refine anyK_pure 7 _ ?_ rfl (by kernel_rfl) (by kernel_rfl) (by kernel_rfl) (fun _ _ _ h => h) (by decide) rfl ?_ hS ?_
                rotate_left
                · (intro w'; go_simp; (try with_reducible rfl))
                (try simp only [Act.put, Z1, Z2, Z3, Z4, Z5, Z6])
                refine anyK_if 8 _ ?_ rfl (by kernel_rfl) (by kernel_rfl) (by kernel_rfl) (fun _ _ _ h => h) (by decide) (by kernel_rfl) (by kernel_rfl) rfl ?_ hS ?_
                rotate_left
                · (intro w' h; have c0 := hcx.out w' h.2; go_simp; (try with_reducible rfl))
                (try simp only [Act.put, Z1, Z2, Z3, Z4, Z5, Z6])
                refine anyK_pure 9 _ ?_ rfl (by kernel_rfl) (by kernel_rfl) (by kernel_rfl) (fun _ _ _ h => h) (by decide) rfl ?_ hS ?_
                rotate_left
                · (intro w'; go_simp; (try with_reducible rfl))
                (try simp only [Act.put, Z1, Z2, Z3, Z4, Z5, Z6])
                refine anyK_pure 10 _ ?_ rfl (by kernel_rfl) (by kernel_rfl) (by kernel_rfl) (fun _ _ _ h => h) (by decide) rfl ?_ hS ?_
                rotate_left
                · (intro w'; go_simp; (try with_reducible rfl))
                (try simp only [Act.put, Z1, Z2, Z3, Z4, Z5, Z6])
                refine anyK_one 11 _ (by kernel_rfl) rfl rfl (wp_buildSlice 34 41 1 _ rfl #[.int .u16 p] ip _ Try.underlying34 hip zp (by rw [sp]; decide) (by rw [sp]; decide) ?c1 ?_)
                case c1 => (simp only [sp, List.map_toArray, List.map_cons, List.map_nil]; exact fill41 p)
                have hlit : Blk (V.alloc (.cells #[.int .u16 p] 41)) V.heap.size (pgC (p : Int)).toArray 41 := Blk.alloc_new _ _ _
                have hG1 := hG.go ((Below.refl _ _).alloc (Nat.le_refl _) (.cells #[.int .u16 p] 41))
                clear hG hS hpw hp
                have hS := And.intro hG1.box hG1.so.below
                refine ⟨hS, ?_⟩
                (try simp only [Act.put, Z1, Z2, Z3, Z4, Z5, Z6])
                generalize V.alloc (.cells #[.int .u16 p] 41) = V1 at *
                generalize V.heap.size = lb at *
                have hb1 := hG1.box.lt
                refine anyK_one 12 _ (by kernel_rfl) rfl rfl (wp_append_src _ _ 34 rfl (bx + 1) 41 ip _ 1 2 Try.underlying34 hip zp sp yp rfl (by decide) wv (wts ww j).length _ rfl hG1.wt _ 1 (pgC (p : Int)) rfl (src_blk hlit) rfl (fun u hu => by simp [pgC] at hu; subst hu; rfl) ?_ ?_ ?_ ?_)
                · unfold maxLen; omega
                · omega
                · omega
                intro v3 W3 own3 gr3 _ hl3
                have hG3 := hG1.putW own3 gr3 hl3
                have hs3 : ∀ b, wv.ownBlock = some b → bx < b := fun b hb => by have := (hG1.wt.lt b hb).1; omega
                clear hS
                have hS : Blk W3 bx (pcA (⟨s0.ts, 0, true, Rd, wts ww j⟩, rv, wv)) 36 ∧ Below w.heap.size w W3 := ⟨hG1.box.fr (Fr.of_grown gr3) fun e => by have := hs3 bx e; omega, (hG1.so.gen (Fr.of_grown gr3) fun i e => by have := hs3 i e; omega).below⟩
                refine ⟨hS, ?_⟩
                (try simp only [Act.put, Z1, Z2, Z3, Z4, Z5, Z6])
                refine anyK_pure 13 _ ?_ rfl (by kernel_rfl) (by kernel_rfl) (by kernel_rfl) (fun _ _ _ h => h) (by decide) rfl ?_ hS ?_
                rotate_left
                · (intro w'; go_simp; (try with_reducible rfl))
                (try simp only [Act.put, Z1, Z2, Z3, Z4, Z5, Z6])
                refine anyK_last _ (by kernel_rfl) rfl (by decide) rfl (wp_store_one 34 _ _ rfl ⟨bx, 4, none⟩ wv v3 rfl rfl size34 (own_one own3) (by rw [hS.1.cell]; rfl) (hS.1.free 4) ?_)
                refine anyK_done (by kernel_rfl) ?_ _
                dsimp only at hG3
                rw [← hws.out] at hG3
                clear hS hs3 own3 gr3 hl3 hG1 hlit hb1 hws hcx
                go_wp2_with fail
                go_roundw
                case rel => exact ⟨j + 1, v3, by go_num, by omega, by omega, hG3⟩
                case measure => simp [intOf]; omega
              · have d2 : decide ((j : Int) < 6) = false := by simp; omega
                have d1' : decide ((j : Int) < (ww.length : Int)) = true := by simp; omega
                have hWd : Hid (wts ww j = P.md4 ww) := by
                  have e : j = 6 := by omega
                  rw [e]; exact rfl
                go_upto_region 14 with (fail)
                refine no_implicit_lambda% (wp_region_lit ?_)
                iterate 4
                  refine no_implicit_lambda% (wpl_val ?_ rfl ?_ ?_)
                  rotate_left
                  · (go_simp; (try with_reducible rfl))
                  (try simp only [Act.put, Z1, Z2, Z3, Z4, Z5, Z6])
                refine no_implicit_lambda% (wpl_val ?_ rfl ?_ ?_)
                rotate_left
                · (have c0 := hcl; go_simp; (try with_reducible rfl))
                (try simp only [Act.put, Z1, Z2, Z3, Z4, Z5, Z6])
                refine no_implicit_lambda% (wpl_val ?_ rfl ?_ ?_)
                rotate_left
                · (go_simp; (try with_reducible rfl))
                (try simp only [Act.put, Z1, Z2, Z3, Z4, Z5, Z6])
                iterate 5
                  refine no_implicit_lambda% (wpl_val ?_ rfl ?_ ?_)
                  rotate_left
                  · (go_simp; (try with_reducible rfl))
                  (try simp only [Act.put, Z1, Z2, Z3, Z4, Z5, Z6])
                refine no_implicit_lambda% (wpList_nil ?_)
                clear d1 d2 d1' hcl
                rw [hWd.out] at hS
                have hWdl := md4_len ww
                have hL : Hid ((P.serStep s0 r ww).L = s0.L ++ [P.serA s0 r ww]) := rfl
                have hPok := Lib.hid (serA_ok (hs0.out ▸ P.sinv (lft Lr) (lft Lw) k) (by omega) hru.out hwu.out)
                have hAe : Hid (P.serA s0 r ww = ⟨s0.ts, if P.md4 ww = [] then 0 else s0.ts + 1, true, Rd, P.md4 ww⟩) := by unfold Hid P.serA; rw [hRde.out]
                obtain ⟨aov, capv, ev, hcv, hrv⟩ := own_rowIn (f := pgC) (fun _ => rfl) hS.wt
                dsimp only at ev
                subst ev
                clear hrv
                by_cases hemp : P.md4 ww = []
                · have d3 : decide ((0 : Int) < ((P.md4 ww).length : Int)) = false := by rw [hemp]; rfl
                  have hS' : SS w wr nb s0.nw B0 u6 Rl bx (P.serA s0 r ww) rv (.slice aov (P.md4 ww).length capv) := by rw [hAe.out, if_pos hemp]; exact hS
                  have hE : Hid ((P.serStep s0 r ww).ts = s0.ts ∧ nwA (P.serStep s0 r ww).nw = nwA s0.nw) := by
                    refine ⟨if_pos hemp, nw_congr fun p _ _ => ?_⟩
                    show (if p ∈ P.md4 ww then _ else _) = _
                    rw [hemp]; simp
                  clear hAe
                  replace hemp := Lib.hid hemp
                  go_upto_region 17 with (fail)
                  refine no_implicit_lambda% (wp_region_lit ?_)
                  refine no_implicit_lambda% (wpl_val ?_ rfl ?_ ?_)
                  rotate_left
                  · (go_simp; (try with_reducible rfl))
                  (try simp only [Act.put, Z1, Z2, Z4, Z5, Z6])
                  refine no_implicit_lambda% (wpl_val ?_ rfl ?_ ?_)
                  rotate_left
                  · (have c0 := (show wr.cell? ⟨bx, 4, none⟩ = some (.slice aov (P.md4 ww).length capv) by rw [hS.box.cell]; rfl); go_simp; (try with_reducible rfl))
                  (try simp only [Act.put, Z1, Z2, Z3, Z4, Z5, Z6])
                  refine no_implicit_lambda% (wpl_val ?_ rfl ?_ ?_)
                  rotate_left
                  · (go_simp; (try with_reducible rfl))
                  (try simp only [Act.put, Z1, Z2, Z3, Z4, Z5, Z6])
                  refine wpl_val (.bool false) rfl (by go_simp; simp [hemp.out]) ?_
                  (try simp only [Act.put, Z1, Z2, Z3, Z4, Z5, Z6])
                  refine no_implicit_lambda% (wpList_nil ?_)
                  clear d3 hS hemp
                  have hS := hS'
                  clear hS'
                  generalize P.serA s0 r ww = A at *
                  have hsub : SubAt wr (A, rv, .slice aov (P.md4 ww).length capv) := ⟨own_rowIn (f := seC) (fun _ => rfl) hS.rd, own_rowIn (f := pgC) (fun _ => rfl) hS.wt, hPok.out⟩
                  have hblk : ∀ b, vblk ((A, rv, .slice aov (P.md4 ww).length capv) : Rec).2.1 = some b ∨ vblk ((A, rv, .slice aov (P.md4 ww).length capv) : Rec).2.2 = some b → bx < b := fun b hb => by
                    rcases hb with hb | hb
                    · have := (hS.rd.lt b (own_vblk hS.rd hb)).1; omega
                    · have := (hS.wt.lt b (own_vblk hS.wt hb)).1; omega
                  have hap : ∀ b, vblk ((A, rv, .slice aov (P.md4 ww).length capv) : Rec).2.1 = some b ∨ vblk ((A, rv, .slice aov (P.md4 ww).length capv) : Rec).2.2 = some b → u6.ownBlock ≠ some b := fun b hb e => by
                    have h1 := hblk b hb
                    have h2 := (hS.so.lt.1 b e).2
                    omega
                  have hRB2 : Hid (∀ x ∈ Rl ++ [((A, rv, .slice aov (P.md4 ww).length capv) : Rec)], ∀ b, vblk x.2.1 = some b ∨ vblk x.2.2 = some b → B0 ≤ b) := fun x hx b hb => by
                    have hlo := hS.so.lo
                    rcases List.mem_append.1 hx with hx | hx
                    · exact hRB.out x hx b hb
                    · obtain rfl := List.mem_singleton.1 hx
                      have := hblk b hb
                      omega
                  have hT2 : Hid (his (Rl ++ [((A, rv, .slice aov (P.md4 ww).length capv) : Rec)]) = (P.serStep s0 r ww).L) := by
                    unfold Hid
                    rw [hL.out, his, List.map_append, ← his, hT.out]; rfl
                  have hbox := hS.box
                  have hso := hS.so
                  have hone := Lib.hid hsub.one
                  clear hblk hS
                  generalize hx0 : ((A, rv, .slice aov (P.md4 ww).length capv) : Rec) = x0 at *
                  replace hx0 := Lib.hid hx0
                  replace hap := Lib.hid hap
                  have hbxl := hbox.lt
                  go_upto_region 25 with (fail)
                  refine no_implicit_lambda% (wp_region_lit ?_)
                  refine no_implicit_lambda% (wpl_val ?_ rfl ?_ ?_)
                  rotate_left
                  · (go_simp; (try with_reducible rfl))
                  (try simp only [Act.put, Z1, Z2, Z4, Z5, Z6])
                  refine wpl_val (.agg (pcA x0)) rfl (run_load_cs rfl rfl hbox Try.underlying36 rfl (size36 x0)) ?_
                  (try simp only [Act.put, Z1, Z2, Z3, Z4, Z5, Z6])
                  refine wpl_law rfl (wp_buildSlice 22 36 1 _ rfl (pcA x0) ie _ Try.underlying22 hie ze (by rw [se]; decide) (by rw [se]; decide) ?c1 ?_)
                  case c1 => (simp only [se, List.map_toArray, List.map_cons, List.map_nil]; exact fill36 _)
                  have hlit : Blk (wr.alloc (.cells (pcA x0) 36)) wr.heap.size (pcL x0).toArray 36 := Blk.alloc_new _ _ _
                  have al := (Below.refl wr.heap.size wr).alloc (Nat.le_refl _) (.cells (pcA x0) 36)
                  have hsub4 := hsub.below al
                  have hso4 := hso.go al
                  have hs4 := al.size
                  clear al hsub hso hbox
                  (try simp only [Act.put, Z1, Z2, Z3, Z4, Z5, Z6])
                  generalize wr.alloc (.cells (pcA x0) 36) = U at *
                  generalize wr.heap.size = lb at *
                  have hlo4 := hso4.lo
                  refine wpl_law rfl (wp_append_src _ _ 22 rfl B0 36 ie _ 5 64 Try.underlying22 hie ze se ye rfl (by decide) u6 Rl.length _ rfl hso4.own.own _ 1 (pcL x0) rfl (src_blk hlit) (pcL_length _) (fun u hu => by have := hone.out; rw [Array.all_eq_true_iff_forall_mem] at this; exact this u (by simpa [pcA, pcL] using hu)) ?_ ?_ ?_ ?_)
                  · unfold maxLen; omega
                  · omega
                  · omega
                  intro v7 W7 own7 gr7 _ hloc7
                  have hO7 := hso4.own.push hsub4 hap.out own7 gr7 hloc7
                  have hF7 := Fr.of_grown gr7
                  have hS7 : Below w.heap.size w W7 := Fr.below hso4.below hF7 (Nat.le_refl _) fun i e => by have := hso4.lt.1 i e; omega
                  have hN7 := hso4.nbk.fr hF7 fun e => by have := hso4.lt.1 _ e; omega
                  have hB7 : B0 ≤ W7.heap.size := by have := hF7.size; omega
                  clear hso4 hsub4 hap own7 gr7 hloc7 hlit hone hF7 hs4 hlo4
                  (try simp only [Act.put, Z1, Z2, Z3, Z4, Z5, Z6])
                  refine no_implicit_lambda% (wpl_val ?_ rfl ?_ ?_)
                  rotate_left
                  · (go_simp; (try with_reducible rfl))
                  (try simp only [Act.put, Z1, Z2, Z3, Z4, Z5, Z6])
                  refine no_implicit_lambda% (wpList_nil ?_)
                  have hts' : Hid ((P.serAt (lft Lr) (lft Lw) (k + 1)).ts = s0.ts) := by unfold Hid; rw [hstep.out]; exact hE.out.1
                  have hnw' : Hid (nwA (P.serAt (lft Lr) (lft Lw) (k + 1)).nw = nwA s0.nw) := by unfold Hid; rw [hstep.out]; exact hE.out.2
                  have hT' : Hid (his (Rl ++ [x0]) = (P.serAt (lft Lr) (lft Lw) (k + 1)).L) := by unfold Hid; rw [hstep.out]; exact hT2.out
                  rw [← hnw'.out] at hN7
                  clear hnw' hT2 hT hRB hPok hL hE
                  go_wp2_with fail
                  go_roundw
                  case rel => exact ⟨k + 1, Rl ++ [x0], by go_num, by omega, by omega, by omega, by rw [hts'.out], hO7, hN7, hS7, hT', hB7, hRB2⟩
                  case measure => simp [intOf]; omega
                · have hpos : 0 < (P.md4 ww).length := List.length_pos_iff.2 hemp
                  have d3 : decide ((0 : Int) < ((P.md4 ww).length : Int)) = true := by simp; omega
                  have hts1 : IntKind.u32.wrap (s0.ts + 1) = s0.ts + 1 := IntWalk.u32_in _ (by omega)
                  have hS2 : SS w (wr.setCell ⟨bx, 1, none⟩ (.int .u32 (s0.ts + 1))) nb s0.nw B0 u6 Rl bx (P.serA s0 r ww) rv (.slice aov (P.md4 ww).length capv) := by
                    have := hS.putC (s0.ts + 1)
                    rw [hAe.out, if_neg hemp]; exact this
                  have hE : Hid ((P.serStep s0 r ww).ts = s0.ts + 1) := if_neg hemp
                  have hWr : Hid ((P.serA s0 r ww).writes = P.md4 ww) := rfl
                  clear hemp hAe
                  go_upto_region 17 with (fail)
                  refine no_implicit_lambda% (wp_region_lit ?_)
                  refine no_implicit_lambda% (wpl_val ?_ rfl ?_ ?_)
                  rotate_left
                  · (go_simp; (try with_reducible rfl))
                  (try simp only [Act.put, Z1, Z2, Z4, Z5, Z6])
                  refine no_implicit_lambda% (wpl_val ?_ rfl ?_ ?_)
                  rotate_left
                  · (have c0 := (show wr.cell? ⟨bx, 4, none⟩ = some (.slice aov (P.md4 ww).length capv) by rw [hS.box.cell]; rfl); go_simp; (try with_reducible rfl))
                  (try simp only [Act.put, Z1, Z2, Z3, Z4, Z5, Z6])
                  refine no_implicit_lambda% (wpl_val ?_ rfl ?_ ?_)
                  rotate_left
                  · (go_simp; (try with_reducible rfl))
                  (try simp only [Act.put, Z1, Z2, Z3, Z4, Z5, Z6])
                  refine no_implicit_lambda% (wpl_val ?_ rfl ?_ ?_)
                  rotate_left
                  · (go_simp; (try with_reducible rfl))
                  (try simp only [Act.put, Z1, Z2, Z3, Z4, Z5, Z6])
                  refine no_implicit_lambda% (wpList_nil ?_)
                  clear d3
                  go_upto_region 18 with (fail)
                  refine no_implicit_lambda% (wp_region_lit ?_)
                  iterate 3
                    refine no_implicit_lambda% (wpl_val ?_ rfl ?_ ?_)
                    rotate_left
                    · (go_simp; (try with_reducible rfl))
                    (try simp only [Act.put, Z1, Z2, Z3, Z4, Z5, Z6])
                  refine no_implicit_lambda% (wpList_nil ?_)
                  clear hts1
                  have size32 : (Try.prog.info? 32).map (·.size) = some 1 := by kernel_rfl
                  go_upto_region 19 with (fail)
                  refine no_implicit_lambda% (wp_region_lit ?_)
                  iterate 2
                    refine no_implicit_lambda% (wpl_val ?_ rfl ?_ ?_)
                    rotate_left
                    · (go_simp; (try with_reducible rfl))
                    (try simp only [Act.put, Z1, Z2, Z3, Z4, Z5, Z6])
                  refine wpl_law rfl (wp_store_one 32 _ _ rfl ⟨bx, 1, none⟩ (.int .u32 0) (.int .u32 (s0.ts + 1)) rfl rfl size32 rfl (by rw [hS.box.cell]; rfl) (hS.box.free 1) ?_)
                  (try simp only [Act.put, Z1, Z2, Z3, Z4, Z5, Z6])
                  refine no_implicit_lambda% (wpList_nil ?_)
                  clear hS
                  have hS := hS2
                  clear hS2
                  generalize wr.setCell ⟨bx, 1, none⟩ (.int .u32 (s0.ts + 1)) = V at *
                  have cw : V.cell? ⟨bx, 4, none⟩ = some (.slice aov (P.md4 ww).length capv) := by rw [hS.box.cell]; rfl
                  go_upto_region 20 with (fail)
                  refine no_implicit_lambda% (wp_region_lit ?_)
                  refine no_implicit_lambda% (wpl_val ?_ rfl ?_ ?_)
                  rotate_left
                  · (go_simp; (try with_reducible rfl))
                  (try simp only [Act.put, Z1, Z2, Z4, Z5, Z6])
                  refine no_implicit_lambda% (wpl_val ?_ rfl ?_ ?_)
                  rotate_left
                  · (have c0 := cw; go_simp; (try with_reducible rfl))
                  (try simp only [Act.put, Z1, Z2, Z3, Z4, Z5, Z6])
                  refine no_implicit_lambda% (wpl_val ?_ rfl ?_ ?_)
                  rotate_left
                  · (go_simp; (try with_reducible rfl))
                  (try simp only [Act.put, Z1, Z2, Z3, Z4, Z5, Z6])
                  refine no_implicit_lambda% (wpl_val ?_ rfl ?_ ?_)
                  rotate_left
                  · (go_simp; (try with_reducible rfl))
                  (try simp only [Act.put, Z1, Z2, Z3, Z4, Z5, Z6])
                  refine no_implicit_lambda% (wpList_nil ?_)
                  clear cw
                  generalize P.serA s0 r ww = A at *
                  replace hS := Lib.hid hS
                  go_wp2_with fail
                  go_loopw [105] (fun i wr => ∃ (j : Nat), i = .int .i64 j ∧ j ≤ (P.md4 ww).length ∧ SS w wr nb (fun q => if q ∈ (P.md4 ww).take j then s0.ts + 1 else s0.nw q) B0 u6 Rl bx A rv (.slice aov (P.md4 ww).length capv)) (fun i _ => (P.md4 ww).length - (intOf i).toNat)
                  case atStart => exact ⟨0, rfl, Nat.zero_le _, by simpa using hS.out⟩
                  case round =>
                    clear hS
                    obtain ⟨i, rfl, hi, hS⟩ := hrel
                    by_cases hil : i < (P.md4 ww).length
                    · have hil' : (i : Int) < ((P.md4 ww).length : Int) := by omega
                      obtain ⟨p0, hp0⟩ : ∃ p, (P.md4 ww)[i]? = some p := ⟨_, List.getElem?_eq_getElem hil⟩
                      obtain ⟨p, rfl, hp4⟩ := md4_mem hwu.out (List.mem_of_getElem? hp0)
                      have hwt := hS.wt
                      rw [hWr.out] at hwt
                      obtain ⟨av2, cv2, ev2, _, hrv2⟩ := own_rowIn (f := pgC) (fun _ => rfl) hwt
                      injection ev2 with e1 _ e3
                      subst e1
                      clear e3 hwt
                      obtain ⟨b3, o3, rfl, hbl3, hr3⟩ := hrv2 i p hp0
                      have hcp : wr.cell? ⟨b3, o3 + i, none⟩ = some (.int .u16 p) := by have := hr3 0 _ rfl; simpa using this
                      have hp4i : (p : Int) < 4 := by omega
                      have hS2 := hS.putN hp4 (s0.ts + 1)
                      have hfe : (fun q => if q = (p : Int) then s0.ts + 1 else (fun q => if q ∈ (P.md4 ww).take i then s0.ts + 1 else s0.nw q) q) = (fun q => if q ∈ (P.md4 ww).take (i + 1) then s0.ts + 1 else s0.nw q) := by
                        funext q
                        rw [List.take_add_one, hp0]
                        by_cases h1 : q = (p : Int)
                        · subst h1; simp
                        · simp [h1]
                      rw [hfe] at hS2
                      clear hr3 hbl3 hrv2 hp0 hfe
                      go_upto_region 22 with (fail)
                      refine no_implicit_lambda% (wp_region_lit ?_)
                      refine no_implicit_lambda% (wpl_val ?_ rfl ?_ ?_)
                      rotate_left
                      · (go_simp; (try with_reducible rfl))
                      (try simp only [Act.put, Z1, Z2, Z4, Z5, Z6])
                      refine no_implicit_lambda% (wpl_val ?_ rfl ?_ ?_)
                      rotate_left
                      · (have c0 := hcp; go_simp; (try with_reducible rfl))
                      (try simp only [Act.put, Z1, Z2, Z3, Z4, Z5, Z6])
                      refine no_implicit_lambda% (wpl_val ?_ rfl ?_ ?_)
                      rotate_left
                      · (go_simp; (try with_reducible rfl))
                      (try simp only [Act.put, Z1, Z2, Z3, Z4, Z5, Z6])
                      refine no_implicit_lambda% (wpList_nil ?_)
                      clear hcp
                      go_upto_region 23 with (fail)
                      refine no_implicit_lambda% (wp_region_lit ?_)
                      iterate 3
                        refine no_implicit_lambda% (wpl_val ?_ rfl ?_ ?_)
                        rotate_left
                        · (go_simp; (try with_reducible rfl))
                        (try simp only [Act.put, Z1, Z2, Z3, Z4, Z5, Z6])
                      refine wpl_law rfl (wp_store_one 32 _ _ rfl ⟨nb, p, none⟩ _ (.int .u32 (s0.ts + 1)) rfl rfl size32 rfl (nw_get hS.so.nbk hp4) (hS.so.nbk.free p) ?_)
                      (try simp only [Act.put, Z1, Z2, Z3, Z4, Z5, Z6])
                      refine no_implicit_lambda% (wpList_nil ?_)
                      clear hS hp4i
                      go_wp2_with fail
                      go_roundw
                      case rel => exact ⟨i + 1, by go_num, by omega, hS2⟩
                      case measure => simp [intOf]; omega
                    · obtain rfl : i = (P.md4 ww).length := by omega
                      rw [List.take_length] at hS
                      have hE2 : Hid (nwA (P.serStep s0 r ww).nw = nwA (fun q => if q ∈ P.md4 ww then s0.ts + 1 else s0.nw q)) := rfl
                      replace hE : Hid ((P.serStep s0 r ww).ts = s0.ts + 1 ∧ nwA (P.serStep s0 r ww).nw = nwA (fun q => if q ∈ P.md4 ww then s0.ts + 1 else s0.nw q)) := ⟨hE.out, hE2.out⟩
                      clear hE2 hil
                      generalize (fun q => if q ∈ P.md4 ww then s0.ts + 1 else s0.nw q) = NW at *
                      have hsub : SubAt wr (A, rv, .slice aov (P.md4 ww).length capv) := ⟨own_rowIn (f := seC) (fun _ => rfl) hS.rd, own_rowIn (f := pgC) (fun _ => rfl) hS.wt, hPok.out⟩
                      have hblk : ∀ b, vblk ((A, rv, .slice aov (P.md4 ww).length capv) : Rec).2.1 = some b ∨ vblk ((A, rv, .slice aov (P.md4 ww).length capv) : Rec).2.2 = some b → bx < b := fun b hb => by
                        rcases hb with hb | hb
                        · have := (hS.rd.lt b (own_vblk hS.rd hb)).1; omega
                        · have := (hS.wt.lt b (own_vblk hS.wt hb)).1; omega
                      have hap : ∀ b, vblk ((A, rv, .slice aov (P.md4 ww).length capv) : Rec).2.1 = some b ∨ vblk ((A, rv, .slice aov (P.md4 ww).length capv) : Rec).2.2 = some b → u6.ownBlock ≠ some b := fun b hb e => by
                        have h1 := hblk b hb
                        have h2 := (hS.so.lt.1 b e).2
                        omega
                      have hRB2 : Hid (∀ x ∈ Rl ++ [((A, rv, .slice aov (P.md4 ww).length capv) : Rec)], ∀ b, vblk x.2.1 = some b ∨ vblk x.2.2 = some b → B0 ≤ b) := fun x hx b hb => by
                        have hlo := hS.so.lo
                        rcases List.mem_append.1 hx with hx | hx
                        · exact hRB.out x hx b hb
                        · obtain rfl := List.mem_singleton.1 hx
                          have := hblk b hb
                          omega
                      have hT2 : Hid (his (Rl ++ [((A, rv, .slice aov (P.md4 ww).length capv) : Rec)]) = (P.serStep s0 r ww).L) := by
                        unfold Hid
                        rw [hL.out, his, List.map_append, ← his, hT.out]; rfl
                      have hbox := hS.box
                      have hso := hS.so
                      have hone := Lib.hid hsub.one
                      clear hblk hS
                      generalize hx0 : ((A, rv, .slice aov (P.md4 ww).length capv) : Rec) = x0 at *
                      replace hx0 := Lib.hid hx0
                      replace hap := Lib.hid hap
                      have hbxl := hbox.lt
                      go_upto_region 25 with (fail)
                      refine no_implicit_lambda% (wp_region_lit ?_)
                      refine no_implicit_lambda% (wpl_val ?_ rfl ?_ ?_)
                      rotate_left
                      · (go_simp; (try with_reducible rfl))
                      (try simp only [Act.put, Z1, Z2, Z4, Z5, Z6])
                      refine wpl_val (.agg (pcA x0)) rfl (run_load_cs rfl rfl hbox Try.underlying36 rfl (size36 x0)) ?_
                      (try simp only [Act.put, Z1, Z2, Z3, Z4, Z5, Z6])
                      refine wpl_law rfl (wp_buildSlice 22 36 1 _ rfl (pcA x0) ie _ Try.underlying22 hie ze (by rw [se]; decide) (by rw [se]; decide) ?c1 ?_)
                      case c1 => (simp only [se, List.map_toArray, List.map_cons, List.map_nil]; exact fill36 _)
                      have hlit : Blk (wr.alloc (.cells (pcA x0) 36)) wr.heap.size (pcL x0).toArray 36 := Blk.alloc_new _ _ _
                      have al := (Below.refl wr.heap.size wr).alloc (Nat.le_refl _) (.cells (pcA x0) 36)
                      have hsub4 := hsub.below al
                      have hso4 := hso.go al
                      have hs4 := al.size
                      clear al hsub hso hbox
                      (try simp only [Act.put, Z1, Z2, Z3, Z4, Z5, Z6])
                      generalize wr.alloc (.cells (pcA x0) 36) = U at *
                      generalize wr.heap.size = lb at *
                      have hlo4 := hso4.lo
                      refine wpl_law rfl (wp_append_src _ _ 22 rfl B0 36 ie _ 5 64 Try.underlying22 hie ze se ye rfl (by decide) u6 Rl.length _ rfl hso4.own.own _ 1 (pcL x0) rfl (src_blk hlit) (pcL_length _) (fun u hu => by have := hone.out; rw [Array.all_eq_true_iff_forall_mem] at this; exact this u (by simpa [pcA, pcL] using hu)) ?_ ?_ ?_ ?_)
                      · unfold maxLen; omega
                      · omega
                      · omega
                      intro v7 W7 own7 gr7 _ hloc7
                      have hO7 := hso4.own.push hsub4 hap.out own7 gr7 hloc7
                      have hF7 := Fr.of_grown gr7
                      have hS7 : Below w.heap.size w W7 := Fr.below hso4.below hF7 (Nat.le_refl _) fun i e => by have := hso4.lt.1 i e; omega
                      have hN7 := hso4.nbk.fr hF7 fun e => by have := hso4.lt.1 _ e; omega
                      have hB7 : B0 ≤ W7.heap.size := by have := hF7.size; omega
                      clear hso4 hsub4 hap own7 gr7 hloc7 hlit hone hF7 hs4 hlo4
                      (try simp only [Act.put, Z1, Z2, Z3, Z4, Z5, Z6])
                      refine no_implicit_lambda% (wpl_val ?_ rfl ?_ ?_)
                      rotate_left
                      · (go_simp; (try with_reducible rfl))
                      (try simp only [Act.put, Z1, Z2, Z3, Z4, Z5, Z6])
                      refine no_implicit_lambda% (wpList_nil ?_)
                      have hts' : Hid ((P.serAt (lft Lr) (lft Lw) (k + 1)).ts = s0.ts + 1) := by unfold Hid; rw [hstep.out]; exact hE.out.1
                      have hnw' : Hid (nwA (P.serAt (lft Lr) (lft Lw) (k + 1)).nw = nwA NW) := by unfold Hid; rw [hstep.out]; exact hE.out.2
                      have hT' : Hid (his (Rl ++ [x0]) = (P.serAt (lft Lr) (lft Lw) (k + 1)).L) := by unfold Hid; rw [hstep.out]; exact hT2.out
                      rw [← hnw'.out] at hN7
                      clear hnw' hT2 hT hRB hPok hL hE
                      go_wp2_with fail
                      go_roundw
                      case rel => exact ⟨k + 1, Rl ++ [x0], by go_num, by omega, by omega, by omega, by rw [hts'.out], hO7, hN7, hS7, hT', hB7, hRB2⟩
                      case measure => simp [intOf]; omega
            · have d1 : decide ((j : Int) < (ww.length : Int)) = false := by simp; omega
              have hWd : Hid (wts ww j = P.md4 ww) := by
                unfold Hid wts P.md4
                rw [List.take_of_length_le (by omega : ww.length ≤ j), List.take_of_length_le (by omega : ww.length ≤ 6)]
              go_upto_region 14 with (fail)
              refine no_implicit_lambda% (wp_region_lit ?_)
              iterate 4
                refine no_implicit_lambda% (wpl_val ?_ rfl ?_ ?_)
                rotate_left
                · (go_simp; (try with_reducible rfl))
                (try simp only [Act.put, Z1, Z2, Z3, Z4, Z5, Z6])
              refine no_implicit_lambda% (wpl_val ?_ rfl ?_ ?_)
              rotate_left
              · (have c0 := hcl; go_simp; (try with_reducible rfl))
              (try simp only [Act.put, Z1, Z2, Z3, Z4, Z5, Z6])
              refine no_implicit_lambda% (wpl_val ?_ rfl ?_ ?_)
              rotate_left
              · (go_simp; (try with_reducible rfl))
              (try simp only [Act.put, Z1, Z2, Z3, Z4, Z5, Z6])
              iterate 2
                refine no_implicit_lambda% (wpl_val ?_ rfl ?_ ?_)
                rotate_left
                · (go_simp; (try with_reducible rfl))
                (try simp only [Act.put, Z1, Z2, Z3, Z4, Z5, Z6])
              iterate 2
                refine no_implicit_lambda% (wpl_skip rfl ?_)
                (try simp only [Act.put, Z1, Z2, Z3, Z4, Z5, Z6])
              refine no_implicit_lambda% (wpl_val ?_ rfl ?_ ?_)
              rotate_left
              · (go_simp; (try with_reducible rfl))
              (try simp only [Act.put, Z1, Z2, Z3, Z4, Z5, Z6])
              refine no_implicit_lambda% (wpList_nil ?_)
              clear d1 hcl
              rw [hWd.out] at hS
              have hWdl := md4_len ww
              have hL : Hid ((P.serStep s0 r ww).L = s0.L ++ [P.serA s0 r ww]) := rfl
              have hPok := Lib.hid (serA_ok (hs0.out ▸ P.sinv (lft Lr) (lft Lw) k) (by omega) hru.out hwu.out)
              have hAe : Hid (P.serA s0 r ww = ⟨s0.ts, if P.md4 ww = [] then 0 else s0.ts + 1, true, Rd, P.md4 ww⟩) := by unfold Hid P.serA; rw [hRde.out]
              obtain ⟨aov, capv, ev, hcv, hrv⟩ := own_rowIn (f := pgC) (fun _ => rfl) hS.wt
              dsimp only at ev
              subst ev
              clear hrv
              by_cases hemp : P.md4 ww = []
              · have d3 : decide ((0 : Int) < ((P.md4 ww).length : Int)) = false := by rw [hemp]; rfl
                have hS' : SS w wr nb s0.nw B0 u6 Rl bx (P.serA s0 r ww) rv (.slice aov (P.md4 ww).length capv) := by rw [hAe.out, if_pos hemp]; exact hS
                have hE : Hid ((P.serStep s0 r ww).ts = s0.ts ∧ nwA (P.serStep s0 r ww).nw = nwA s0.nw) := by
                  refine ⟨if_pos hemp, nw_congr fun p _ _ => ?_⟩
                  show (if p ∈ P.md4 ww then _ else _) = _
                  rw [hemp]; simp
                clear hAe
                replace hemp := Lib.hid hemp
                go_upto_region 17 with (fail)
                refine no_implicit_lambda% (wp_region_lit ?_)
                refine no_implicit_lambda% (wpl_val ?_ rfl ?_ ?_)
                rotate_left
                · (go_simp; (try with_reducible rfl))
                (try simp only [Act.put, Z1, Z2, Z4, Z5, Z6])
                refine no_implicit_lambda% (wpl_val ?_ rfl ?_ ?_)
                rotate_left
                · (have c0 := (show wr.cell? ⟨bx, 4, none⟩ = some (.slice aov (P.md4 ww).length capv) by rw [hS.box.cell]; rfl); go_simp; (try with_reducible rfl))
                (try simp only [Act.put, Z1, Z2, Z3, Z4, Z5, Z6])
                refine no_implicit_lambda% (wpl_val ?_ rfl ?_ ?_)
                rotate_left
                · (go_simp; (try with_reducible rfl))
                (try simp only [Act.put, Z1, Z2, Z3, Z4, Z5, Z6])
                refine wpl_val (.bool false) rfl (by go_simp; simp [hemp.out]) ?_
                (try simp only [Act.put, Z1, Z2, Z3, Z4, Z5, Z6])
                refine no_implicit_lambda% (wpList_nil ?_)
                clear d3 hS hemp
                have hS := hS'
                clear hS'
                generalize P.serA s0 r ww = A at *
                have hsub : SubAt wr (A, rv, .slice aov (P.md4 ww).length capv) := ⟨own_rowIn (f := seC) (fun _ => rfl) hS.rd, own_rowIn (f := pgC) (fun _ => rfl) hS.wt, hPok.out⟩
                have hblk : ∀ b, vblk ((A, rv, .slice aov (P.md4 ww).length capv) : Rec).2.1 = some b ∨ vblk ((A, rv, .slice aov (P.md4 ww).length capv) : Rec).2.2 = some b → bx < b := fun b hb => by
                  rcases hb with hb | hb
                  · have := (hS.rd.lt b (own_vblk hS.rd hb)).1; omega
                  · have := (hS.wt.lt b (own_vblk hS.wt hb)).1; omega
                have hap : ∀ b, vblk ((A, rv, .slice aov (P.md4 ww).length capv) : Rec).2.1 = some b ∨ vblk ((A, rv, .slice aov (P.md4 ww).length capv) : Rec).2.2 = some b → u6.ownBlock ≠ some b := fun b hb e => by
                  have h1 := hblk b hb
                  have h2 := (hS.so.lt.1 b e).2
                  omega
                have hRB2 : Hid (∀ x ∈ Rl ++ [((A, rv, .slice aov (P.md4 ww).length capv) : Rec)], ∀ b, vblk x.2.1 = some b ∨ vblk x.2.2 = some b → B0 ≤ b) := fun x hx b hb => by
                  have hlo := hS.so.lo
                  rcases List.mem_append.1 hx with hx | hx
                  · exact hRB.out x hx b hb
                  · obtain rfl := List.mem_singleton.1 hx
                    have := hblk b hb
                    omega
                have hT2 : Hid (his (Rl ++ [((A, rv, .slice aov (P.md4 ww).length capv) : Rec)]) = (P.serStep s0 r ww).L) := by
                  unfold Hid
                  rw [hL.out, his, List.map_append, ← his, hT.out]; rfl
                have hbox := hS.box
                have hso := hS.so
                have hone := Lib.hid hsub.one
                clear hblk hS
                generalize hx0 : ((A, rv, .slice aov (P.md4 ww).length capv) : Rec) = x0 at *
                replace hx0 := Lib.hid hx0
                replace hap := Lib.hid hap
                have hbxl := hbox.lt
                go_upto_region 25 with (fail)
                refine no_implicit_lambda% (wp_region_lit ?_)
                refine no_implicit_lambda% (wpl_val ?_ rfl ?_ ?_)
                rotate_left
                · (go_simp; (try with_reducible rfl))
                (try simp only [Act.put, Z1, Z2, Z4, Z5, Z6])
                refine wpl_val (.agg (pcA x0)) rfl (run_load_cs rfl rfl hbox Try.underlying36 rfl (size36 x0)) ?_
                (try simp only [Act.put, Z1, Z2, Z3, Z4, Z5, Z6])
                refine wpl_law rfl (wp_buildSlice 22 36 1 _ rfl (pcA x0) ie _ Try.underlying22 hie ze (by rw [se]; decide) (by rw [se]; decide) ?c1 ?_)
                case c1 => (simp only [se, List.map_toArray, List.map_cons, List.map_nil]; exact fill36 _)
                have hlit : Blk (wr.alloc (.cells (pcA x0) 36)) wr.heap.size (pcL x0).toArray 36 := Blk.alloc_new _ _ _
                have al := (Below.refl wr.heap.size wr).alloc (Nat.le_refl _) (.cells (pcA x0) 36)
                have hsub4 := hsub.below al
                have hso4 := hso.go al
                have hs4 := al.size
                clear al hsub hso hbox
                (try simp only [Act.put, Z1, Z2, Z3, Z4, Z5, Z6])
                generalize wr.alloc (.cells (pcA x0) 36) = U at *
                generalize wr.heap.size = lb at *
                have hlo4 := hso4.lo
                refine wpl_law rfl (wp_append_src _ _ 22 rfl B0 36 ie _ 5 64 Try.underlying22 hie ze se ye rfl (by decide) u6 Rl.length _ rfl hso4.own.own _ 1 (pcL x0) rfl (src_blk hlit) (pcL_length _) (fun u hu => by have := hone.out; rw [Array.all_eq_true_iff_forall_mem] at this; exact this u (by simpa [pcA, pcL] using hu)) ?_ ?_ ?_ ?_)
                · unfold maxLen; omega
                · omega
                · omega
                intro v7 W7 own7 gr7 _ hloc7
                have hO7 := hso4.own.push hsub4 hap.out own7 gr7 hloc7
                have hF7 := Fr.of_grown gr7
                have hS7 : Below w.heap.size w W7 := Fr.below hso4.below hF7 (Nat.le_refl _) fun i e => by have := hso4.lt.1 i e; omega
                have hN7 := hso4.nbk.fr hF7 fun e => by have := hso4.lt.1 _ e; omega
                have hB7 : B0 ≤ W7.heap.size := by have := hF7.size; omega
                clear hso4 hsub4 hap own7 gr7 hloc7 hlit hone hF7 hs4 hlo4
                (try simp only [Act.put, Z1, Z2, Z3, Z4, Z5, Z6])
                refine no_implicit_lambda% (wpl_val ?_ rfl ?_ ?_)
                rotate_left
                · (go_simp; (try with_reducible rfl))
                (try simp only [Act.put, Z1, Z2, Z3, Z4, Z5, Z6])
                refine no_implicit_lambda% (wpList_nil ?_)
                have hts' : Hid ((P.serAt (lft Lr) (lft Lw) (k + 1)).ts = s0.ts) := by unfold Hid; rw [hstep.out]; exact hE.out.1
                have hnw' : Hid (nwA (P.serAt (lft Lr) (lft Lw) (k + 1)).nw = nwA s0.nw) := by unfold Hid; rw [hstep.out]; exact hE.out.2
                have hT' : Hid (his (Rl ++ [x0]) = (P.serAt (lft Lr) (lft Lw) (k + 1)).L) := by unfold Hid; rw [hstep.out]; exact hT2.out
                rw [← hnw'.out] at hN7
                clear hnw' hT2 hT hRB hPok hL hE
                go_wp2_with fail
                go_roundw
                case rel => exact ⟨k + 1, Rl ++ [x0], by go_num, by omega, by omega, by omega, by rw [hts'.out], hO7, hN7, hS7, hT', hB7, hRB2⟩
                case measure => simp [intOf]; omega
              · have hpos : 0 < (P.md4 ww).length := List.length_pos_iff.2 hemp
                have d3 : decide ((0 : Int) < ((P.md4 ww).length : Int)) = true := by simp; omega
                have hts1 : IntKind.u32.wrap (s0.ts + 1) = s0.ts + 1 := IntWalk.u32_in _ (by omega)
                have hS2 : SS w (wr.setCell ⟨bx, 1, none⟩ (.int .u32 (s0.ts + 1))) nb s0.nw B0 u6 Rl bx (P.serA s0 r ww) rv (.slice aov (P.md4 ww).length capv) := by
                  have := hS.putC (s0.ts + 1)
                  rw [hAe.out, if_neg hemp]; exact this
                have hE : Hid ((P.serStep s0 r ww).ts = s0.ts + 1) := if_neg hemp
                have hWr : Hid ((P.serA s0 r ww).writes = P.md4 ww) := rfl
                clear hemp hAe
                go_upto_region 17 with (fail)
                refine no_implicit_lambda% (wp_region_lit ?_)
                refine no_implicit_lambda% (wpl_val ?_ rfl ?_ ?_)
                rotate_left
                · (go_simp; (try with_reducible rfl))
                (try simp only [Act.put, Z1, Z2, Z4, Z5, Z6])
                refine no_implicit_lambda% (wpl_val ?_ rfl ?_ ?_)
                rotate_left
                · (have c0 := (show wr.cell? ⟨bx, 4, none⟩ = some (.slice aov (P.md4 ww).length capv) by rw [hS.box.cell]; rfl); go_simp; (try with_reducible rfl))
                (try simp only [Act.put, Z1, Z2, Z3, Z4, Z5, Z6])
                refine no_implicit_lambda% (wpl_val ?_ rfl ?_ ?_)
                rotate_left
                · (go_simp; (try with_reducible rfl))
                (try simp only [Act.put, Z1, Z2, Z3, Z4, Z5, Z6])
                refine no_implicit_lambda% (wpl_val ?_ rfl ?_ ?_)
                rotate_left
                · (go_simp; (try with_reducible rfl))
                (try simp only [Act.put, Z1, Z2, Z3, Z4, Z5, Z6])
                refine no_implicit_lambda% (wpList_nil ?_)
                clear d3
                go_upto_region 18 with (fail)
                refine no_implicit_lambda% (wp_region_lit ?_)
                iterate 3
                  refine no_implicit_lambda% (wpl_val ?_ rfl ?_ ?_)
                  rotate_left
                  · (go_simp; (try with_reducible rfl))
                  (try simp only [Act.put, Z1, Z2, Z3, Z4, Z5, Z6])
                refine no_implicit_lambda% (wpList_nil ?_)
                clear hts1
                have size32 : (Try.prog.info? 32).map (·.size) = some 1 := by kernel_rfl
                go_upto_region 19 with (fail)
                refine no_implicit_lambda% (wp_region_lit ?_)
                iterate 2
                  refine no_implicit_lambda% (wpl_val ?_ rfl ?_ ?_)
                  rotate_left
                  · (go_simp; (try with_reducible rfl))
                  (try simp only [Act.put, Z1, Z2, Z3, Z4, Z5, Z6])
                refine wpl_law rfl (wp_store_one 32 _ _ rfl ⟨bx, 1, none⟩ (.int .u32 0) (.int .u32 (s0.ts + 1)) rfl rfl size32 rfl (by rw [hS.box.cell]; rfl) (hS.box.free 1) ?_)
                (try simp only [Act.put, Z1, Z2, Z3, Z4, Z5, Z6])
                refine no_implicit_lambda% (wpList_nil ?_)
                clear hS
                have hS := hS2
                clear hS2
                generalize wr.setCell ⟨bx, 1, none⟩ (.int .u32 (s0.ts + 1)) = V at *
                have cw : V.cell? ⟨bx, 4, none⟩ = some (.slice aov (P.md4 ww).length capv) := by rw [hS.box.cell]; rfl
                go_upto_region 20 with (fail)
                refine no_implicit_lambda% (wp_region_lit ?_)
                refine no_implicit_lambda% (wpl_val ?_ rfl ?_ ?_)
                rotate_left
                · (go_simp; (try with_reducible rfl))
                (try simp only [Act.put, Z1, Z2, Z4, Z5, Z6])
                refine no_implicit_lambda% (wpl_val ?_ rfl ?_ ?_)
                rotate_left
                · (have c0 := cw; go_simp; (try with_reducible rfl))
                (try simp only [Act.put, Z1, Z2, Z3, Z4, Z5, Z6])
                refine no_implicit_lambda% (wpl_val ?_ rfl ?_ ?_)
                rotate_left
                · (go_simp; (try with_reducible rfl))
                (try simp only [Act.put, Z1, Z2, Z3, Z4, Z5, Z6])
                refine no_implicit_lambda% (wpl_val ?_ rfl ?_ ?_)
                rotate_left
                · (go_simp; (try with_reducible rfl))
                (try simp only [Act.put, Z1, Z2, Z3, Z4, Z5, Z6])
                refine no_implicit_lambda% (wpList_nil ?_)
                clear cw
                generalize P.serA s0 r ww = A at *
                replace hS := Lib.hid hS
                go_wp2_with fail
                go_loopw [105] (fun i wr => ∃ (j : Nat), i = .int .i64 j ∧ j ≤ (P.md4 ww).length ∧ SS w wr nb (fun q => if q ∈ (P.md4 ww).take j then s0.ts + 1 else s0.nw q) B0 u6 Rl bx A rv (.slice aov (P.md4 ww).length capv)) (fun i _ => (P.md4 ww).length - (intOf i).toNat)
                case atStart => exact ⟨0, rfl, Nat.zero_le _, by simpa using hS.out⟩
                case round =>
                  clear hS
                  obtain ⟨i, rfl, hi, hS⟩ := hrel
                  by_cases hil : i < (P.md4 ww).length
                  · have hil' : (i : Int) < ((P.md4 ww).length : Int) := by omega
                    obtain ⟨p0, hp0⟩ : ∃ p, (P.md4 ww)[i]? = some p := ⟨_, List.getElem?_eq_getElem hil⟩
                    obtain ⟨p, rfl, hp4⟩ := md4_mem hwu.out (List.mem_of_getElem? hp0)
                    have hwt := hS.wt
                    rw [hWr.out] at hwt
                    obtain ⟨av2, cv2, ev2, _, hrv2⟩ := own_rowIn (f := pgC) (fun _ => rfl) hwt
                    injection ev2 with e1 _ e3
                    subst e1
                    clear e3 hwt
                    obtain ⟨b3, o3, rfl, hbl3, hr3⟩ := hrv2 i p hp0
                    have hcp : wr.cell? ⟨b3, o3 + i, none⟩ = some (.int .u16 p) := by have := hr3 0 _ rfl; simpa using this
                    have hp4i : (p : Int) < 4 := by omega
                    have hS2 := hS.putN hp4 (s0.ts + 1)
                    have hfe : (fun q => if q = (p : Int) then s0.ts + 1 else (fun q => if q ∈ (P.md4 ww).take i then s0.ts + 1 else s0.nw q) q) = (fun q => if q ∈ (P.md4 ww).take (i + 1) then s0.ts + 1 else s0.nw q) := by
                      funext q
                      rw [List.take_add_one, hp0]
                      by_cases h1 : q = (p : Int)
                      · subst h1; simp
                      · simp [h1]
                    rw [hfe] at hS2
                    clear hr3 hbl3 hrv2 hp0 hfe
                    go_upto_region 22 with (fail)
                    refine no_implicit_lambda% (wp_region_lit ?_)
                    refine no_implicit_lambda% (wpl_val ?_ rfl ?_ ?_)
                    rotate_left
                    · (go_simp; (try with_reducible rfl))
                    (try simp only [Act.put, Z1, Z2, Z4, Z5, Z6])
                    refine no_implicit_lambda% (wpl_val ?_ rfl ?_ ?_)
                    rotate_left
                    · (have c0 := hcp; go_simp; (try with_reducible rfl))
                    (try simp only [Act.put, Z1, Z2, Z3, Z4, Z5, Z6])
                    refine no_implicit_lambda% (wpl_val ?_ rfl ?_ ?_)
                    rotate_left
                    · (go_simp; (try with_reducible rfl))
                    (try simp only [Act.put, Z1, Z2, Z3, Z4, Z5, Z6])
                    refine no_implicit_lambda% (wpList_nil ?_)
                    clear hcp
                    go_upto_region 23 with (fail)
                    refine no_implicit_lambda% (wp_region_lit ?_)
                    iterate 3
                      refine no_implicit_lambda% (wpl_val ?_ rfl ?_ ?_)
                      rotate_left
                      · (go_simp; (try with_reducible rfl))
                      (try simp only [Act.put, Z1, Z2, Z3, Z4, Z5, Z6])
                    refine wpl_law rfl (wp_store_one 32 _ _ rfl ⟨nb, p, none⟩ _ (.int .u32 (s0.ts + 1)) rfl rfl size32 rfl (nw_get hS.so.nbk hp4) (hS.so.nbk.free p) ?_)
                    (try simp only [Act.put, Z1, Z2, Z3, Z4, Z5, Z6])
                    refine no_implicit_lambda% (wpList_nil ?_)
                    clear hS hp4i
                    go_wp2_with fail
                    go_roundw
                    case rel => exact ⟨i + 1, by go_num, by omega, hS2⟩
                    case measure => simp [intOf]; omega
                  · obtain rfl : i = (P.md4 ww).length := by omega
                    rw [List.take_length] at hS
                    have hE2 : Hid (nwA (P.serStep s0 r ww).nw = nwA (fun q => if q ∈ P.md4 ww then s0.ts + 1 else s0.nw q)) := rfl
                    replace hE : Hid ((P.serStep s0 r ww).ts = s0.ts + 1 ∧ nwA (P.serStep s0 r ww).nw = nwA (fun q => if q ∈ P.md4 ww then s0.ts + 1 else s0.nw q)) := ⟨hE.out, hE2.out⟩
                    clear hE2 hil
                    generalize (fun q => if q ∈ P.md4 ww then s0.ts + 1 else s0.nw q) = NW at *
                    have hsub : SubAt wr (A, rv, .slice aov (P.md4 ww).length capv) := ⟨own_rowIn (f := seC) (fun _ => rfl) hS.rd, own_rowIn (f := pgC) (fun _ => rfl) hS.wt, hPok.out⟩
                    have hblk : ∀ b, vblk ((A, rv, .slice aov (P.md4 ww).length capv) : Rec).2.1 = some b ∨ vblk ((A, rv, .slice aov (P.md4 ww).length capv) : Rec).2.2 = some b → bx < b := fun b hb => by
                      rcases hb with hb | hb
                      · have := (hS.rd.lt b (own_vblk hS.rd hb)).1; omega
                      · have := (hS.wt.lt b (own_vblk hS.wt hb)).1; omega
                    have hap : ∀ b, vblk ((A, rv, .slice aov (P.md4 ww).length capv) : Rec).2.1 = some b ∨ vblk ((A, rv, .slice aov (P.md4 ww).length capv) : Rec).2.2 = some b → u6.ownBlock ≠ some b := fun b hb e => by
                      have h1 := hblk b hb
                      have h2 := (hS.so.lt.1 b e).2
                      omega
                    have hRB2 : Hid (∀ x ∈ Rl ++ [((A, rv, .slice aov (P.md4 ww).length capv) : Rec)], ∀ b, vblk x.2.1 = some b ∨ vblk x.2.2 = some b → B0 ≤ b) := fun x hx b hb => by
                      have hlo := hS.so.lo
                      rcases List.mem_append.1 hx with hx | hx
                      · exact hRB.out x hx b hb
                      · obtain rfl := List.mem_singleton.1 hx
                        have := hblk b hb
                        omega
                    have hT2 : Hid (his (Rl ++ [((A, rv, .slice aov (P.md4 ww).length capv) : Rec)]) = (P.serStep s0 r ww).L) := by
                      unfold Hid
                      rw [hL.out, his, List.map_append, ← his, hT.out]; rfl
                    have hbox := hS.box
                    have hso := hS.so
                    have hone := Lib.hid hsub.one
                    clear hblk hS
                    generalize hx0 : ((A, rv, .slice aov (P.md4 ww).length capv) : Rec) = x0 at *
                    replace hx0 := Lib.hid hx0
                    replace hap := Lib.hid hap
                    have hbxl := hbox.lt
                    go_upto_region 25 with (fail)
                    refine no_implicit_lambda% (wp_region_lit ?_)
                    refine no_implicit_lambda% (wpl_val ?_ rfl ?_ ?_)
                    rotate_left
                    · (go_simp; (try with_reducible rfl))
                    (try simp only [Act.put, Z1, Z2, Z4, Z5, Z6])
                    refine wpl_val (.agg (pcA x0)) rfl (run_load_cs rfl rfl hbox Try.underlying36 rfl (size36 x0)) ?_
                    (try simp only [Act.put, Z1, Z2, Z3, Z4, Z5, Z6])
                    refine wpl_law rfl (wp_buildSlice 22 36 1 _ rfl (pcA x0) ie _ Try.underlying22 hie ze (by rw [se]; decide) (by rw [se]; decide) ?c1 ?_)
                    case c1 => (simp only [se, List.map_toArray, List.map_cons, List.map_nil]; exact fill36 _)
                    have hlit : Blk (wr.alloc (.cells (pcA x0) 36)) wr.heap.size (pcL x0).toArray 36 := Blk.alloc_new _ _ _
                    have al := (Below.refl wr.heap.size wr).alloc (Nat.le_refl _) (.cells (pcA x0) 36)
                    have hsub4 := hsub.below al
                    have hso4 := hso.go al
                    have hs4 := al.size
                    clear al hsub hso hbox
                    (try simp only [Act.put, Z1, Z2, Z3, Z4, Z5, Z6])
                    generalize wr.alloc (.cells (pcA x0) 36) = U at *
                    generalize wr.heap.size = lb at *
                    have hlo4 := hso4.lo
                    refine wpl_law rfl (wp_append_src _ _ 22 rfl B0 36 ie _ 5 64 Try.underlying22 hie ze se ye rfl (by decide) u6 Rl.length _ rfl hso4.own.own _ 1 (pcL x0) rfl (src_blk hlit) (pcL_length _) (fun u hu => by have := hone.out; rw [Array.all_eq_true_iff_forall_mem] at this; exact this u (by simpa [pcA, pcL] using hu)) ?_ ?_ ?_ ?_)
                    · unfold maxLen; omega
                    · omega
                    · omega
                    intro v7 W7 own7 gr7 _ hloc7
                    have hO7 := hso4.own.push hsub4 hap.out own7 gr7 hloc7
                    have hF7 := Fr.of_grown gr7
                    have hS7 : Below w.heap.size w W7 := Fr.below hso4.below hF7 (Nat.le_refl _) fun i e => by have := hso4.lt.1 i e; omega
                    have hN7 := hso4.nbk.fr hF7 fun e => by have := hso4.lt.1 _ e; omega
                    have hB7 : B0 ≤ W7.heap.size := by have := hF7.size; omega
                    clear hso4 hsub4 hap own7 gr7 hloc7 hlit hone hF7 hs4 hlo4
                    (try simp only [Act.put, Z1, Z2, Z3, Z4, Z5, Z6])
                    refine no_implicit_lambda% (wpl_val ?_ rfl ?_ ?_)
                    rotate_left
                    · (go_simp; (try with_reducible rfl))
                    (try simp only [Act.put, Z1, Z2, Z3, Z4, Z5, Z6])
                    refine no_implicit_lambda% (wpList_nil ?_)
                    have hts' : Hid ((P.serAt (lft Lr) (lft Lw) (k + 1)).ts = s0.ts + 1) := by unfold Hid; rw [hstep.out]; exact hE.out.1
                    have hnw' : Hid (nwA (P.serAt (lft Lr) (lft Lw) (k + 1)).nw = nwA NW) := by unfold Hid; rw [hstep.out]; exact hE.out.2
                    have hT' : Hid (his (Rl ++ [x0]) = (P.serAt (lft Lr) (lft Lw) (k + 1)).L) := by unfold Hid; rw [hstep.out]; exact hT2.out
                    rw [← hnw'.out] at hN7
                    clear hnw' hT2 hT hRB hPok hL hE
                    go_wp2_with fail
                    go_roundw
                    case rel => exact ⟨k + 1, Rl ++ [x0], by go_num, by omega, by omega, by omega, by rw [hts'.out], hO7, hN7, hS7, hT', hB7, hRB2⟩
                    case measure => simp [intOf]; omega
    · have hk9 : Rl.length ≤ 1000 := by omega
      have hch : Hid (P.chk (his Rl) = (0, 0)) := by
        unfold Hid
        rw [hT.out, ← hs0.out]
        exact (P.sinv _ _ k).chk
      clear hT hRB hs0 hst
      obtain ⟨ao2, cap2, hve, hc2, hHM⟩ := hO.at_
      subst hve
      have hce := check_any hHM hc2.1 hk9
      rw [hch.out] at hce
      clear hch
      by_cases h1 : k < Lr.length
      · have c1 : decide ((k : Int) < (Lr.length : Int)) = true := by simp; omega
        by_cases h2 : k < Lw.length
        · have c2 : decide ((k : Int) < (Lw.length : Int)) = true := by simp; omega
          have c3 : decide ((k : Int) < 9) = false := by simp; omega
          have h9 : ¬ k < 9 := by omega
          clear hc
          go_upto_region 5 with (fail)
          refine no_implicit_lambda% (wp_region_lit ?_)
          iterate 2
            refine no_implicit_lambda% (wpl_val ?_ rfl ?_ ?_)
            rotate_left
            · (go_simp; (try with_reducible rfl))
            (try simp only [Act.put, Z1, Z2, Z3, Z4, Z5, Z6])
          refine no_implicit_lambda% (wpl_val ?_ rfl ?_ ?_)
          rotate_left
          · (go_simp; (try with_reducible rfl))
          (try simp only [Act.put, Z1, Z2, Z3, Z4, Z5, Z6])
          iterate 4
            refine no_implicit_lambda% (wpl_val ?_ rfl ?_ ?_)
            rotate_left
            · (go_simp; (try with_reducible rfl))
            (try simp only [Act.put, Z1, Z2, Z3, Z4, Z5, Z6])
          refine no_implicit_lambda% (wpl_val ?_ rfl ?_ ?_)
          rotate_left
          · (go_simp; (try with_reducible rfl))
          (try simp only [Act.put, Z1, Z2, Z3, Z4, Z5, Z6])
          iterate 6
            refine no_implicit_lambda% (wpl_val ?_ rfl ?_ ?_)
            rotate_left
            · (go_simp; (try with_reducible rfl))
            (try simp only [Act.put, Z1, Z2, Z3, Z4, Z5, Z6])
          refine no_implicit_lambda% (wpList_nil ?_)
          clear c1 c2 c3
          go_upto_region 26 with (fail)
          refine no_implicit_lambda% (wp_region_lit ?_)
          refine no_implicit_lambda% (wpl_val ?_ rfl ?_ ?_)
          rotate_left
          · (go_simp; (try with_reducible rfl))
          (try simp only [Act.put, Z1, Z2, Z4, Z5, Z6])
          refine wpl_call _ _ rfl (by go_simp) _ hce ?_
          rintro e w3 ⟨rfl, hbc⟩
          refine ⟨_, rfl, ?_⟩
          (try simp only [Act.put, Z1, Z2, Z3, Z4, Z5, Z6])
          iterate 5
            refine no_implicit_lambda% (wpl_val ?_ rfl ?_ ?_)
            rotate_left
            · (go_simp; (try with_reducible rfl))
            (try simp only [Act.put, Z1, Z2, Z3, Z4, Z5, Z6])
          refine no_implicit_lambda% (wpList_nil ?_)
          have hb3 := Lib.hid (hS.trans (hbc.mono hS.size))
          clear hce hbc hO hS hHM
          go_upto_region 27 with (fail)
          refine no_implicit_lambda% (wp_region_lit ?_)
          iterate 7
            refine no_implicit_lambda% (wpl_val ?_ rfl ?_ ?_)
            rotate_left
            · (go_simp; (try with_reducible rfl))
            (try simp only [Act.put, Z1, Z2, Z3, Z4, Z5, Z6])
          refine wpl_call _ _ rfl (by go_simp) _ (awake_any w3) ?_
          rintro e w9 ⟨rfl, hb9⟩
          refine ⟨_, rfl, ?_⟩
          (try simp only [Act.put, Z1, Z2, Z3, Z4, Z5, Z6])
          iterate 2
            refine no_implicit_lambda% (wpl_val ?_ rfl ?_ ?_)
            rotate_left
            · (go_simp; (try with_reducible rfl))
            (try simp only [Act.put, Z1, Z2, Z3, Z4, Z5, Z6])
          refine no_implicit_lambda% (wpList_nil ?_)
          go_wp2_with fail
          go_ret
          exact ⟨rfl, hb3.out.trans (hb9.mono hb3.out.size)⟩
        · have c2 : decide ((k : Int) < (Lw.length : Int)) = false := by simp; omega
          clear hc
          go_upto_region 5 with (fail)
          refine no_implicit_lambda% (wp_region_lit ?_)
          iterate 2
            refine no_implicit_lambda% (wpl_val ?_ rfl ?_ ?_)
            rotate_left
            · (go_simp; (try with_reducible rfl))
            (try simp only [Act.put, Z1, Z2, Z3, Z4, Z5, Z6])
          refine no_implicit_lambda% (wpl_val ?_ rfl ?_ ?_)
          rotate_left
          · (go_simp; (try with_reducible rfl))
          (try simp only [Act.put, Z1, Z2, Z3, Z4, Z5, Z6])
          iterate 4
            refine no_implicit_lambda% (wpl_val ?_ rfl ?_ ?_)
            rotate_left
            · (go_simp; (try with_reducible rfl))
            (try simp only [Act.put, Z1, Z2, Z3, Z4, Z5, Z6])
          refine no_implicit_lambda% (wpl_val ?_ rfl ?_ ?_)
          rotate_left
          · (go_simp; (try with_reducible rfl))
          (try simp only [Act.put, Z1, Z2, Z3, Z4, Z5, Z6])
          iterate 3
            refine no_implicit_lambda% (wpl_val ?_ rfl ?_ ?_)
            rotate_left
            · (go_simp; (try with_reducible rfl))
            (try simp only [Act.put, Z1, Z2, Z3, Z4, Z5, Z6])
          iterate 2
            refine no_implicit_lambda% (wpl_skip rfl ?_)
            (try simp only [Act.put, Z1, Z2, Z3, Z4, Z5, Z6])
          refine no_implicit_lambda% (wpl_val ?_ rfl ?_ ?_)
          rotate_left
          · (go_simp; (try with_reducible rfl))
          (try simp only [Act.put, Z1, Z2, Z3, Z4, Z5, Z6])
          refine no_implicit_lambda% (wpList_nil ?_)
          clear c1 c2
          go_upto_region 26 with (fail)
          refine no_implicit_lambda% (wp_region_lit ?_)
          refine no_implicit_lambda% (wpl_val ?_ rfl ?_ ?_)
          rotate_left
          · (go_simp; (try with_reducible rfl))
          (try simp only [Act.put, Z1, Z2, Z4, Z5, Z6])
          refine wpl_call _ _ rfl (by go_simp) _ hce ?_
          rintro e w3 ⟨rfl, hbc⟩
          refine ⟨_, rfl, ?_⟩
          (try simp only [Act.put, Z1, Z2, Z3, Z4, Z5, Z6])
          iterate 5
            refine no_implicit_lambda% (wpl_val ?_ rfl ?_ ?_)
            rotate_left
            · (go_simp; (try with_reducible rfl))
            (try simp only [Act.put, Z1, Z2, Z3, Z4, Z5, Z6])
          refine no_implicit_lambda% (wpList_nil ?_)
          have hb3 := Lib.hid (hS.trans (hbc.mono hS.size))
          clear hce hbc hO hS hHM
          go_upto_region 27 with (fail)
          refine no_implicit_lambda% (wp_region_lit ?_)
          iterate 7
            refine no_implicit_lambda% (wpl_val ?_ rfl ?_ ?_)
            rotate_left
            · (go_simp; (try with_reducible rfl))
            (try simp only [Act.put, Z1, Z2, Z3, Z4, Z5, Z6])
          refine wpl_call _ _ rfl (by go_simp) _ (awake_any w3) ?_
          rintro e w9 ⟨rfl, hb9⟩
          refine ⟨_, rfl, ?_⟩
          (try simp only [Act.put, Z1, Z2, Z3, Z4, Z5, Z6])
          iterate 2
            refine no_implicit_lambda% (wpl_val ?_ rfl ?_ ?_)
            rotate_left
            · (go_simp; (try with_reducible rfl))
            (try simp only [Act.put, Z1, Z2, Z3, Z4, Z5, Z6])
          refine no_implicit_lambda% (wpList_nil ?_)
          go_wp2_with fail
          go_ret
          exact ⟨rfl, hb3.out.trans (hb9.mono hb3.out.size)⟩
      · have c1 : decide ((k : Int) < (Lr.length : Int)) = false := by simp; omega
        clear hc
        go_upto_region 5 with (fail)
        refine no_implicit_lambda% (wp_region_lit ?_)
        iterate 2
          refine no_implicit_lambda% (wpl_val ?_ rfl ?_ ?_)
          rotate_left
          · (go_simp; (try with_reducible rfl))
          (try simp only [Act.put, Z1, Z2, Z3, Z4, Z5, Z6])
        refine no_implicit_lambda% (wpl_val ?_ rfl ?_ ?_)
        rotate_left
        · (go_simp; (try with_reducible rfl))
        (try simp only [Act.put, Z1, Z2, Z3, Z4, Z5, Z6])
        iterate 2
          refine no_implicit_lambda% (wpl_val ?_ rfl ?_ ?_)
          rotate_left
          · (go_simp; (try with_reducible rfl))
          (try simp only [Act.put, Z1, Z2, Z3, Z4, Z5, Z6])
        iterate 4
          refine no_implicit_lambda% (wpl_skip rfl ?_)
          (try simp only [Act.put, Z1, Z2, Z3, Z4, Z5, Z6])
        iterate 2
          refine no_implicit_lambda% (wpl_val ?_ rfl ?_ ?_)
          rotate_left
          · (go_simp; (try with_reducible rfl))
          (try simp only [Act.put, Z1, Z2, Z3, Z4, Z5, Z6])
        iterate 2
          refine no_implicit_lambda% (wpl_skip rfl ?_)
          (try simp only [Act.put, Z1, Z2, Z3, Z4, Z5, Z6])
        refine no_implicit_lambda% (wpl_val ?_ rfl ?_ ?_)
        rotate_left
        · (go_simp; (try with_reducible rfl))
        (try simp only [Act.put, Z1, Z2, Z3, Z4, Z5, Z6])
        refine no_implicit_lambda% (wpList_nil ?_)
        clear c1
        go_upto_region 26 with (fail)
        refine no_implicit_lambda% (wp_region_lit ?_)
        refine no_implicit_lambda% (wpl_val ?_ rfl ?_ ?_)
        rotate_left
        · (go_simp; (try with_reducible rfl))
        (try simp only [Act.put, Z1, Z2, Z4, Z5, Z6])
        refine wpl_call _ _ rfl (by go_simp) _ hce ?_
        rintro e w3 ⟨rfl, hbc⟩
        refine ⟨_, rfl, ?_⟩
        (try simp only [Act.put, Z1, Z2, Z3, Z4, Z5, Z6])
        iterate 5
          refine no_implicit_lambda% (wpl_val ?_ rfl ?_ ?_)
          rotate_left
          · (go_simp; (try with_reducible rfl))
          (try simp only [Act.put, Z1, Z2, Z3, Z4, Z5, Z6])
        refine no_implicit_lambda% (wpList_nil ?_)
        have hb3 := Lib.hid (hS.trans (hbc.mono hS.size))
        clear hce hbc hO hS hHM
        go_upto_region 27 with (fail)
        refine no_implicit_lambda% (wp_region_lit ?_)
        iterate 7
          refine no_implicit_lambda% (wpl_val ?_ rfl ?_ ?_)
          rotate_left
          · (go_simp; (try with_reducible rfl))
          (try simp only [Act.put, Z1, Z2, Z3, Z4, Z5, Z6])
        refine wpl_call _ _ rfl (by go_simp) _ (awake_any w3) ?_
        rintro e w9 ⟨rfl, hb9⟩
        refine ⟨_, rfl, ?_⟩
        (try simp only [Act.put, Z1, Z2, Z3, Z4, Z5, Z6])
        iterate 2
          refine no_implicit_lambda% (wpl_val ?_ rfl ?_ ?_)
          rotate_left
          · (go_simp; (try with_reducible rfl))
          (try simp only [Act.put, Z1, Z2, Z3, Z4, Z5, Z6])
        refine no_implicit_lambda% (wpList_nil ?_)
        go_wp2_with fail
        go_ret
        exact ⟨rfl, hb3.out.trans (hb9.mono hb3.out.size)⟩
end Go.Proofs.Ytnemaolbmocncaa
