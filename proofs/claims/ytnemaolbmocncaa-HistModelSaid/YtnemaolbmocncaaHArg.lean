/- Histories as arguments; histories of the call's own. -/
import Derived.Test.YtnemaolbmocncaaChkW
import Derived.Deep.Slices
import Derived.Deep.Strs
import Derived.WideShapes
import Derived.ChangeArms
namespace Go.Proofs.Ytnemaolbmocncaa
open Go.RowKit Go.WideShapes Go.Deep Go.ChangeShapes
set_option linter.unusedSimpArgs false
set_option linter.unusedVariables false
/-! ### Rows in general -/
theorem flat_get {α : Type} {f : α → List Value} {sz : Nat} (hf : ∀ x, (f x).length = sz) : ∀ {L : List α} {i : Nat} {x : α}, L[i]? = some x → ∀ {j : Nat}, j < sz → (L.flatMap f)[i * sz + j]? = (f x)[j]?
  | a :: L, i, x, h, j, hj => by
    show (f a ++ L.flatMap f)[i * sz + j]? = _
    cases i with
    | zero =>
      obtain rfl : a = x := by simpa using h
      rw [List.getElem?_append_left (by rw [hf]; omega)]
      congr 1; omega
    | succ i =>
      rw [List.getElem?_append_right (by rw [hf, Nat.succ_mul]; omega), hf, show (i + 1) * sz + j - sz = i * sz + j by rw [Nat.succ_mul]; omega]
      exact flat_get hf (by simpa using h) hj
theorem flat_length {α : Type} {f : α → List Value} {sz : Nat} (hf : ∀ x, (f x).length = sz) (L : List α) : (L.flatMap f).length = L.length * sz := by
  induction L with
  | nil => simp
  | cons a L ih => show (f a ++ L.flatMap f).length = _; rw [List.length_append, ih, hf, List.length_cons, Nat.succ_mul]; omega
theorem flat_one {α : Type} {f : α → List Value} {L : List α} (h : ∀ x ∈ L, ∀ u ∈ f x, u.oneCell' = true) : ∀ u ∈ L.flatMap f, u.oneCell' = true := fun u hu => by
  obtain ⟨x, hx, hu⟩ := List.mem_flatMap.1 hu
  exact h x hx u hu
/-- A row that is owned is a row that is read. -/
theorem own_rowIn {α : Type} {f : α → List Value} {sz : Nat} (hf : ∀ x, (f x).length = sz) {w : World} {base : Nat} {e : TypeId} {v : Value} {L : List α} (h : w.ownsRow base e sz v L.length (L.flatMap f)) : RowIn w v sz f L := by
  rcases own_cases_n h with ⟨rfl, h1, h2⟩ | ⟨g, cap, rfl, hc, hm, hb, hl, hcell, _⟩
  · obtain rfl : L = [] := List.eq_nil_of_length_eq_zero h1
    exact ⟨none, 0, rfl, ⟨Nat.le_refl _, fun _ => rfl⟩, RowAt.nil _ _ _ _⟩
  · refine ⟨_, cap, rfl, ⟨hc, fun e => by cases e⟩, fun i x hx => ⟨g, 0, rfl, hl, fun j u hu => ?_⟩⟩
    have hj : j < sz := by rw [← hf x]; exact (List.getElem?_eq_some_iff.1 hu).1
    have hi := (List.getElem?_eq_some_iff.1 hx).1
    have hlt : i * sz + j < L.length * sz := by
      calc i * sz + j < i * sz + sz := by omega
        _ = (i + 1) * sz := by rw [Nat.succ_mul]
        _ ≤ L.length * sz := Nat.mul_le_mul_right _ hi
    rw [show 0 + i * sz + j = i * sz + j by omega, hcell _ hlt, flat_get hf hx hj]
    exact hu
theorem own_vblk {w : World} {base : Nat} {e : TypeId} {sz : Nat} {v : Value} {n : Nat} {xs : List Value} (h : w.ownsRow base e sz v n xs) {b : Nat} (hb : vblk v = some b) : v.ownBlock = some b := by
  rcases own_cases_n h with ⟨rfl, _⟩ | ⟨g, cap, rfl, _⟩
  · cases hb
  · cases n with
    | zero => cases hb
    | succ n => exact hb
/-- What is read may be appended. -/
theorem RowAt.src {α : Type} {f : α → List Value} {sz : Nat} (hf : ∀ x, (f x).length = sz) {w : World} {ao : Option Addr} {L : List α} (h : RowAt w ao sz f L) {m cap : Nat} (hm : m = L.length) (hc : ao = none → cap = 0) (hmc : m ≤ cap) (hsz : 0 < sz) : SrcAt w (.slice ao m cap) m (L.flatMap f) := by
  subst hm
  cases ao with
  | none =>
    have := hc rfl
    subst this
    have h0 : L.length = 0 := by omega
    obtain rfl : L = [] := List.eq_nil_of_length_eq_zero h0
    exact .inl ⟨rfl, rfl, rfl⟩
  | some a =>
    refine .inr ⟨a, cap, rfl, fun j u hu => ?_⟩
    have hj := (List.getElem?_eq_some_iff.1 hu).1
    rw [flat_length hf] at hj
    have hi : j / sz < L.length := Nat.div_lt_of_lt_mul (by rw [Nat.mul_comm]; exact hj)
    obtain ⟨x, hx⟩ : ∃ x, L[j / sz]? = some x := ⟨_, List.getElem?_eq_getElem hi⟩
    obtain ⟨b, o, e, _, hr⟩ := h _ x hx
    obtain rfl := Option.some.inj e
    have hjd : j / sz * sz + j % sz = j := by rw [Nat.mul_comm]; exact Nat.div_add_mod j sz
    have h2 := flat_get hf hx (Nat.mod_lt j hsz)
    rw [hjd] at h2
    have h3 := hr (j % sz) u (by rw [← h2]; exact hu)
    rw [show o + j / sz * sz + j % sz = o + j by omega] at h3
    rw [Addr.add_lit]
    exact h3
/-! ### Arguments -/
structure PokA (a : P.Pst) : Prop where
  start : wU32 a.start
  commit : wU32 a.commit
  reads : ∀ v ∈ a.reads, wU16 v.1 ∧ wU32 v.2
  writes : ∀ p ∈ a.writes, wU16 p
/-- A history that came in. -/
structure AAt (w : World) (ao : Option Addr) (R : List Rec) : Prop where
  row : RowAt w ao 5 pcL R
  sub : ∀ x ∈ R, RowIn w x.2.1 2 seC x.1.reads ∧ RowIn w x.2.2 1 pgC x.1.writes ∧ PokA x.1
theorem HAt.arg {w : World} {ao : Option Addr} {R : List Rec} (h : HAt w ao R) : AAt w ao R := ⟨h.row, fun x hx => ⟨(h.sub x hx).rd, (h.sub x hx).wt, (h.sub x hx).ok.start, (h.sub x hx).ok.commit, (h.sub x hx).ok.reads, (h.sub x hx).ok.writes⟩⟩
theorem AAt.below {w w' : World} {ao : Option Addr} {R : List Rec} (h : AAt w ao R) (k : Below w.heap.size w w') : AAt w' ao R := ⟨h.row.below k, fun x hx => ⟨(h.sub x hx).1.below k, (h.sub x hx).2.1.below k, (h.sub x hx).2.2⟩⟩
section
variable {H : Type} {enc : TypeId × Value → H} {w : World}
theorem open_rows {α : Type} [Inhabited α] {t e : TypeId} {sz : Nat} (ht : Try.prog.underlying t = some (.slice e)) (hsz : Try.prog.cellsOf e = sz) (hpos : 0 < sz) (f : α → List Value) (OK : α → Prop) (hf : ∀ q, (f q).length = sz)
    (el : ∀ {fuel : Nat} {cs : List Value} {x : DataW H × List MemPlace}, DataW.trod enc Try.prog w 0 (fun _ => true) true fuel e cs = some x → ∃ q, cs = f q ∧ OK q)
    {fuel : Nat} {cs : List Value} {x : DataW H × List MemPlace} (h : DataW.trod enc Try.prog w 0 (fun _ => true) true fuel t cs = some x) :
    ∃ ao cap, ∃ L : List α, cs = [.slice ao L.length cap] ∧ RowAt w ao sz f L ∧ (∀ q ∈ L, OK q) ∧ (L.length ≤ cap ∧ (ao = none → cap = 0)) ∧ L.length ≤ maxLen := by
  rcases open_slice ht h with ⟨hc, hx⟩ | ⟨a, n, cap, m, k, D, Pl, hc, hcl, hl, hm, hmm, hx, hall⟩
  · exact ⟨none, 0, [], hc, RowAt.nil _ _ _ _, fun q hq => (by cases hq), ⟨Nat.le_refl _, fun _ => rfl⟩, Nat.zero_le _⟩
  · simp only [if_true] at hmm
    subst hmm
    have each : ∀ i, i < n → ∃ q : α, (∀ j v, (f q)[j]? = some v → w.cell? (a.add (i * sz + j)) = some v) ∧ OK q := fun i hi => by
      obtain ⟨cs', h1, h2⟩ := hall i (by omega)
      obtain ⟨q, rfl, hq⟩ := el h2
      rw [hsz] at h1
      obtain ⟨_, _, hcell⟩ := World.cells?_some h1
      refine ⟨q, fun j v hj => ?_, hq⟩
      have hjl : j < sz := by rw [← hf q]; exact (List.getElem?_eq_some_iff.1 hj).1
      have e0 := hcell j (by omega)
      rw [add_add] at e0
      rw [e0]; exact hj
    obtain ⟨q, hq⟩ := choose_lt each
    refine ⟨some a, _, (List.range n).map q, by rw [List.length_map, List.length_range]; exact hc, fun i x hx => ?_, fun y hy => ?_, ⟨by rw [List.length_map, List.length_range]; exact hl, fun e => by cases e⟩, by rw [List.length_map, List.length_range]; omega⟩
    · have hi : i < n := by have := (List.getElem?_eq_some_iff.1 hx).1; simpa using this
      obtain rfl : q i = x := by simpa [hi] using hx
      obtain ⟨sb, so, spot⟩ := a
      have hfl : 0 < (f (q i)).length := by rw [hf]; exact hpos
      have hfl0 : 0 < (f (q 0)).length := by rw [hf]; exact hpos
      have h00 := (hq 0 (by omega)).1 0 _ (List.getElem?_eq_getElem hfl0)
      have hspot : spot = none := by simpa [Addr.add] using World.cell?_spot h00
      subst hspot
      have h0 := (hq i hi).1 0 _ (List.getElem?_eq_getElem hfl)
      rw [Addr.add_lit] at h0
      refine ⟨sb, so, rfl, World.block_lt_of_cell? w _ h0, fun j v hj => ?_⟩
      have := (hq i hi).1 j v hj
      rw [Addr.add_lit] at this
      rw [Nat.add_assoc]
      exact this
    · obtain ⟨i, hi, rfl⟩ := List.mem_map.1 hy
      exact (hq i (by simpa using hi)).2
theorem trod_struct5 {P : Program} {base : Nat} {spare : Nat → Bool} {held : Bool} {t : TypeId} {f0 f1 f2 f3 f4 : Field} {fuel : Nat} {cs : List Value} {x : DataW H × List MemPlace}
    (ht : P.underlying t = some (.struct #[f0, f1, f2, f3, f4])) (h : DataW.trod enc P w base spare held fuel t cs = some x) :
    ∃ y0 y1 y2 y3 y4 n, cs.length = P.cellsOf t ∧ DataW.trod enc P w base spare held n f0.type ((cs.drop f0.offset).take (P.cellsOf f0.type)) = some y0 ∧
      DataW.trod enc P w base spare held n f1.type ((cs.drop f1.offset).take (P.cellsOf f1.type)) = some y1 ∧ DataW.trod enc P w base spare held n f2.type ((cs.drop f2.offset).take (P.cellsOf f2.type)) = some y2 ∧
      DataW.trod enc P w base spare held n f3.type ((cs.drop f3.offset).take (P.cellsOf f3.type)) = some y3 ∧ DataW.trod enc P w base spare held n f4.type ((cs.drop f4.offset).take (P.cellsOf f4.type)) = some y4 := by
  obtain ⟨xs, n, _, rfl, hl, hlen, hf⟩ := DataW.trod_struct ht h
  match xs, hlen with
  | [y0, y1, y2, y3, y4], _ => exact ⟨y0, y1, y2, y3, y4, n, hl, by simpa using hf 0 f0 rfl, by simpa using hf 1 f1 rfl, by simpa using hf 2 f2 rfl, by simpa using hf 3 f3 rfl, by simpa using hf 4 f4 rfl⟩
theorem trod_struct2 {P : Program} {base : Nat} {spare : Nat → Bool} {held : Bool} {t : TypeId} {f0 f1 : Field} {fuel : Nat} {cs : List Value} {x : DataW H × List MemPlace}
    (ht : P.underlying t = some (.struct #[f0, f1])) (h : DataW.trod enc P w base spare held fuel t cs = some x) :
    ∃ y0 y1 n, cs.length = P.cellsOf t ∧ DataW.trod enc P w base spare held n f0.type ((cs.drop f0.offset).take (P.cellsOf f0.type)) = some y0 ∧ DataW.trod enc P w base spare held n f1.type ((cs.drop f1.offset).take (P.cellsOf f1.type)) = some y1 := by
  obtain ⟨xs, n, _, rfl, hl, hlen, hf⟩ := DataW.trod_struct ht h
  match xs, hlen with
  | [y0, y1], _ => exact ⟨y0, y1, n, hl, by simpa using hf 0 f0 rfl, by simpa using hf 1 f1 rfl⟩
theorem cells36 : Try.prog.cellsOf 36 = 5 := by kernel_rfl
theorem cells43 : Try.prog.cellsOf 43 = 2 := by kernel_rfl
theorem cells41 : Try.prog.cellsOf 41 = 1 := by kernel_rfl
theorem cells32 : Try.prog.cellsOf 32 = 1 := by kernel_rfl
theorem cells4 : Try.prog.cellsOf 4 = 1 := by kernel_rfl
theorem cells33 : Try.prog.cellsOf 33 = 1 := by kernel_rfl
theorem cells34 : Try.prog.cellsOf 34 = 1 := by kernel_rfl
theorem list2 {cs : List Value} (h : cs.length = 2) : ∃ a b, cs = [a, b] := by
  match cs, h with
  | [a, b], _ => exact ⟨a, b, rfl⟩
theorem list5 {cs : List Value} (h : cs.length = 5) : ∃ a b c d e, cs = [a, b, c, d, e] := by
  match cs, h with
  | [a, b, c, d, e], _ => exact ⟨a, b, c, d, e, rfl⟩
theorem seen_cells {fuel : Nat} {cs : List Value} {x : DataW H × List MemPlace} (h : DataW.trod enc Try.prog w 0 (fun _ => true) true fuel 43 cs = some x) : ∃ v : Int × Int, cs = seC v ∧ wU16 v.1 ∧ wU32 v.2 := by
  obtain ⟨y0, y1, n, hl, h0, h1⟩ := trod_struct2 Try.underlying43 h
  rw [cells43] at hl
  obtain ⟨v0, v1, rfl⟩ := list2 hl
  simp [cells41, cells32] at h0 h1
  obtain ⟨p, hp, _, wp⟩ := DataW.trod_int Try.underlying41 h0
  obtain ⟨t, ht, _, wt⟩ := DataW.trod_int Try.underlying32 h1
  simp at hp ht
  exact ⟨(p, t), by rw [hp, ht]; rfl, wp, wt⟩
theorem page_cells {fuel : Nat} {cs : List Value} {x : DataW H × List MemPlace} (h : DataW.trod enc Try.prog w 0 (fun _ => true) true fuel 41 cs = some x) : ∃ p : Int, cs = pgC p ∧ wU16 p := by
  obtain ⟨p, hp, _, wp⟩ := DataW.trod_int Try.underlying41 h
  exact ⟨p, hp, wp⟩
theorem past_cells {fuel : Nat} {cs : List Value} {x : DataW H × List MemPlace} (h : DataW.trod enc Try.prog w 0 (fun _ => true) true fuel 36 cs = some x) :
    ∃ x : Rec, cs = pcL x ∧ RowIn w x.2.1 2 seC x.1.reads ∧ RowIn w x.2.2 1 pgC x.1.writes ∧ PokA x.1 := by
  obtain ⟨y0, y1, y2, y3, y4, n, hl, h0, h1, h2, h3, h4⟩ := trod_struct5 Try.underlying36 h
  rw [cells36] at hl
  obtain ⟨v0, v1, v2, v3, v4, rfl⟩ := list5 hl
  simp [cells32, cells4, cells33, cells34] at h0 h1 h2 h3 h4
  obtain ⟨s, hs, _, ws⟩ := DataW.trod_int Try.underlying32 h0
  obtain ⟨c, hc, _, wc⟩ := DataW.trod_int Try.underlying32 h1
  obtain ⟨d, hd, _⟩ := DataW.trod_bool Try.underlying4 h2
  obtain ⟨aor, capr, Lr, hr, hrr, okr, hcr, _⟩ := open_rows Try.underlying33 cells43 (by decide) seC (fun v => wU16 v.1 ∧ wU32 v.2) (fun _ => rfl) seen_cells h3
  obtain ⟨aow, capw, Lw, hw, hww, okw, hcw, _⟩ := open_rows Try.underlying34 cells41 (by decide) pgC wU16 (fun _ => rfl) page_cells h4
  simp at hs hc hd hr hw
  exact ⟨(⟨s, c, d, Lr, Lw⟩, .slice aor Lr.length capr, .slice aow Lw.length capw), by rw [hs, hc, hd, hr, hw]; rfl, ⟨aor, capr, rfl, hcr, hrr⟩, ⟨aow, capw, rfl, hcw, hww⟩, ⟨ws, wc, okr, okw⟩⟩
instance : Inhabited Rec := ⟨noR⟩
theorem open_past {r : Reach} {b0 : Nat} {v : Value} {d : DataW H} {p : List MemPlace} (hv : Value.okWide Try.prog w r b0 22 v) (h : DataW.Trod enc Try.prog w 0 (fun _ => true) true 22 v d p) :
    ∃ ao cap, ∃ R : List Rec, v = .slice ao R.length cap ∧ AAt w ao R ∧ (R.length ≤ cap ∧ (ao = none → cap = 0)) ∧ R.length ≤ maxLen := by
  obtain ⟨ao, n, cap, rfl⟩ := okWide_slice Try.underlying22 hv
  obtain ⟨fuel, hf⟩ := h
  obtain ⟨ao', cap', R, hc, hr, hok, hcap, hm⟩ := open_rows Try.underlying22 cells36 (by decide) pcL (fun x => RowIn w x.2.1 2 seC x.1.reads ∧ RowIn w x.2.2 1 pgC x.1.writes ∧ PokA x.1) (fun _ => rfl) past_cells hf
  have hc' : Value.slice ao n cap = .slice ao' R.length cap' := by simpa [Value.cells] using hc
  exact ⟨ao', cap', R, hc', ⟨hr, hok⟩, hcap, hm⟩
end
/-! ### A history of one's own -/
structure OwnH (base : Nat) (w : World) (v : Value) (R : List Rec) : Prop where
  own : w.ownsRow base 36 5 v R.length (R.flatMap pcL)
  sub : ∀ x ∈ R, SubAt w x
  apart : ∀ x ∈ R, ∀ b, vblk x.2.1 = some b ∨ vblk x.2.2 = some b → v.ownBlock ≠ some b
theorem pcL_length (x : Rec) : (pcL x).length = 5 := rfl
theorem OwnH.at_ {base : Nat} {w : World} {v : Value} {R : List Rec} (h : OwnH base w v R) : ∃ ao cap, v = .slice ao R.length cap ∧ (R.length ≤ cap ∧ (ao = none → cap = 0)) ∧ HAt w ao R := by
  obtain ⟨ao, cap, e, hc, hr⟩ := own_rowIn pcL_length h.own
  exact ⟨ao, cap, e, hc, hr, h.sub⟩
theorem OwnH.below {base : Nat} {w w' : World} {v : Value} {R : List Rec} (h : OwnH base w v R) (k : Below w.heap.size w w') : OwnH base w' v R :=
  ⟨own_fr h.own (Fr.of_below k fun _ => False) (fun _ _ e => e), fun x hx => (h.sub x hx).below k, h.apart⟩
theorem OwnH.nil (base : Nat) (w : World) : OwnH base w (.slice none 0 0) [] := ⟨World.ownsRow_nil _ _ _ _, fun x hx => (by cases hx), fun x hx => by cases hx⟩
theorem SubAt.lt {w : World} {x : Rec} (h : SubAt w x) {b : Nat} (hb : vblk x.2.1 = some b ∨ vblk x.2.2 = some b) : b < w.heap.size := hb.elim h.rd.lt h.wt.lt
theorem HAt.fr {w w' : World} {ao : Option Addr} {R : List Rec} (h : HAt w ao R) {S : Nat → Prop} (k : Fr S w w') (hn : ∀ a, ao = Option.some a → R ≠ [] → ¬ S a.block) (hs : ∀ x ∈ R, ∀ b, vblk x.2.1 = Option.some b ∨ vblk x.2.2 = Option.some b → ¬ S b) : HAt w' ao R := ⟨h.row.fr k hn, fun x hx => (h.sub x hx).fr k (hs x hx)⟩
/-- One more is appended. -/
theorem OwnH.push {base : Nat} {w w' : World} {v v' : Value} {R : List Rec} (h : OwnH base w v R) {x : Rec} (hx : SubAt w x) (ha : ∀ b, vblk x.2.1 = some b ∨ vblk x.2.2 = some b → v.ownBlock ≠ some b)
    (own : w'.ownsRow base 36 5 v' (R.length + 1) (R.flatMap pcL ++ pcL x)) (gr : w.grownBy w' v.ownBlock) (hl : v'.ownBlock = v.ownBlock ∨ v'.ownBlock = some w.heap.size) : OwnH base w' v' (R ++ [x]) := by
  have k := Fr.of_grown gr
  have hs : ∀ y ∈ R ++ [x], SubAt w y ∧ ∀ b, vblk y.2.1 = some b ∨ vblk y.2.2 = some b → v.ownBlock ≠ some b := fun y hy => by
    rcases List.mem_append.1 hy with hy | hy
    · exact ⟨h.sub y hy, h.apart y hy⟩
    · obtain rfl : y = x := by simpa using hy
      exact ⟨hx, ha⟩
  refine ⟨?_, fun y hy => (hs y hy).1.fr k fun b hb => (hs y hy).2 b hb, fun y hy b hb e => ?_⟩
  · rw [List.length_append, List.flatMap_append]
    simpa using own
  · rcases hl with h1 | h1
    · exact (hs y hy).2 b hb (h1 ▸ e)
    · have h2 := (hs y hy).1.lt hb
      rw [h1] at e
      have h3 := Option.some.inj e
      omega
end Go.Proofs.Ytnemaolbmocncaa
