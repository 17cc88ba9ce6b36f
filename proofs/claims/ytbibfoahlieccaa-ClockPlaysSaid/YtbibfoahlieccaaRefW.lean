/- The walks of the document's clock. -/
import Derived.Test.YtbibfoahlieccaaPinsW
import Derived.Test.YtbibfoahlieccaaP3
import Derived.Great.BuildSlice
import Derived.Deep.LoopGhost
namespace Go.Proofs.Ytbibfoahlieccaa
open Go.RowKit
set_option linter.unusedSimpArgs false
set_option linter.unusedVariables false
theorem info36 : (Try.prog.info? 36).map (fun i => (i.zero, i.size, i.bytes)) = some (some (.agg #[.int .i64 0, .bool false, .bool false, .int .i64 0]), 4, 24) := by kernel_rfl
theorem size36 : (Try.prog.info? 36).map (·.size) = some 4 := by kernel_rfl
theorem size46 : (Try.prog.info? 46).map (·.size) = some 1 := by kernel_rfl
/-- A cell of frame j. -/
def fcell (C : P.Ck) (j k : Nat) : Value := if k = 0 then .int .i64 j else if k = 1 then .bool (C.seen j) else if k = 2 then .bool (C.cold j) else .int .i64 (C.pins j)
/-- The frames' cells from the hand on. -/
def fF (n : Nat) (C : P.Ck) (h idx : Nat) : Value := fcell C (P.pos n h (idx / 4)) (idx % 4)
def fl (n : Nat) (C : P.Ck) (h : Nat) (m : Nat) : List Value := (List.range m).map (fF n C h)
theorem fl_length (n : Nat) (C : P.Ck) (h m : Nat) : (fl n C h m).length = m := by simp [fl]
theorem fl_get {n : Nat} {C : P.Ck} {h m j : Nat} (hj : j < m) : (fl n C h m)[j]? = some (fF n C h j) := by simp [fl, hj]
theorem fF_at (n : Nat) (C : P.Ck) (h p k : Nat) (hk : k < 4) : fF n C h (p * 4 + k) = fcell C (P.pos n h p) k := by
  unfold fF; rw [show (p * 4 + k) / 4 = p by omega, show (p * 4 + k) % 4 = k by omega]
theorem fcell_one (C : P.Ck) (j k : Nat) : (fcell C j k).oneCell' = true := by unfold fcell; split <;> (try split) <;> (try split) <;> rfl
theorem fl_one (n : Nat) (C : P.Ck) (h m : Nat) : ∀ u ∈ fl n C h m, u.oneCell' = true := by
  intro u hu
  obtain ⟨j, _, rfl⟩ := List.mem_map.1 hu
  exact fcell_one _ _ _
theorem fl_congr {n : Nat} {C D : P.Ck} {h h' : Nat} (hn : h < n) (e : h = h') (hs : ∀ j, j < n → C.seen j = D.seen j) (hc : ∀ j, j < n → C.cold j = D.cold j) (hp : ∀ j, j < n → C.pins j = D.pins j) (m : Nat) : fl n C h m = fl n D h' m := by
  subst e
  unfold fl
  refine List.map_congr_left fun j _ => ?_
  have := P.pos_lt hn (j / 4)
  unfold fF fcell
  rw [hs _ this, hc _ this, hp _ this]
/-- The document's clock. -/
structure RC (B : Nat) (w : World) (c g cap n : Nat) (C : P.Ck) : Prop where
  blk : Blk w c #[.slice (some ⟨g, 0, none⟩) n cap] 48
  own : w.ownsRow B 36 4 (.slice (some ⟨g, 0, none⟩) n cap) n (fl n C C.h (n * 4))
  ne : g ≠ c
  base : B ≤ c
  h : C.h < n
  n64 : n ≤ 64
def rfoot (c g : Nat) : Nat → Prop := fun i => i = c ∨ i = g
section
variable {B : Nat} {w w' : World} {c g cap n : Nat} {C : P.Ck}
theorem RC.fr (h : RC B w c g cap n C) {S : Nat → Prop} (k : Fr S w w') (hn : ∀ i, rfoot c g i → ¬ S i) : RC B w' c g cap n C :=
  ⟨h.blk.fr k (hn _ (.inl rfl)), own_fr h.own k fun b hb => by
    obtain rfl : g = b := Option.some.inj hb
    exact hn _ (.inr rfl), h.ne, h.base, h.h, h.n64⟩
theorem RC.go (h : RC B w c g cap n C) (k : Below w.heap.size w w') : RC B w' c g cap n C := h.fr (Fr.of_below k fun _ => False) fun _ _ h => h
theorem RC.lt (h : RC B w c g cap n C) : ∀ i, rfoot c g i → B ≤ i ∧ i < w.heap.size := by
  rintro i (rfl | rfl)
  · exact ⟨h.base, h.blk.lt⟩
  · exact h.own.lt _ rfl
theorem RC.c0 (h : RC B w c g cap n C) : w.cell? ⟨c, 0, none⟩ = some (.slice (some ⟨g, 0, none⟩) n cap) := by rw [h.blk.cell]; rfl
theorem RC.cell (h : RC B w c g cap n C) {p k : Nat} (hp : p < n) (hk : k < 4) : w.cell? ⟨g, p * 4 + k, none⟩ = some (fcell C (P.pos n C.h p) k) := by
  rw [h.own.cellAt _ (by omega), fl_get (by omega), fF_at _ _ _ _ _ hk]
theorem RC.cN (h : RC B w c g cap n C) {p : Nat} (hp : p < n) : w.cell? ⟨g, p * 4, none⟩ = some (.int .i64 (P.pos n C.h p)) := h.cell hp (k := 0) (by omega)
theorem RC.cS (h : RC B w c g cap n C) {p : Nat} (hp : p < n) : w.cell? ⟨g, p * 4 + 1, none⟩ = some (.bool (C.seen (P.pos n C.h p))) := h.cell hp (k := 1) (by omega)
theorem RC.cC (h : RC B w c g cap n C) {p : Nat} (hp : p < n) : w.cell? ⟨g, p * 4 + 2, none⟩ = some (.bool (C.cold (P.pos n C.h p))) := h.cell hp (k := 2) (by omega)
theorem RC.cP (h : RC B w c g cap n C) {p : Nat} (hp : p < n) : w.cell? ⟨g, p * 4 + 3, none⟩ = some (.int .i64 (C.pins (P.pos n C.h p))) := h.cell hp (k := 3) (by omega)
theorem RC.fz (h : RC B w c g cap n C) (j : Nat) : w.frozen? ⟨g, j, none⟩ = false := h.own.frozenAt j
/-- A cell of a frame is written. -/
theorem RC.set (h : RC B w c g cap n C) {p k : Nat} (hp : p < n) (hk : k < 4) (v : Value) (D : P.Ck) (hD : D.h = C.h) (hc : ∀ q i, q < n → i < 4 → fcell D (P.pos n C.h q) i = if q = p ∧ i = k then v else fcell C (P.pos n C.h q) i) :
    RC B (w.setCell ⟨g, p * 4 + k, none⟩ v) c g cap n D ∧ Fr (rfoot c g) w (w.setCell ⟨g, p * 4 + k, none⟩ v) := by
  obtain ⟨ho, hg⟩ := h.own.stored (p * 4 + k) v
  have hb : Blk (w.setCell ⟨g, p * 4 + k, none⟩ v) c #[.slice (some ⟨g, 0, none⟩) n cap] 48 := h.blk.fr (Fr.of_grown hg) fun e => h.ne (Option.some.inj e)
  refine ⟨⟨hb, ?_, h.ne, h.base, by rw [hD]; exact h.h, h.n64⟩, (Fr.refl _ _).setCell _ _ fun _ => .inr rfl⟩
  have e : (fl n C C.h (n * 4)).set (p * 4 + k) v = fl n D D.h (n * 4) := by
    apply List.ext_getElem?
    intro j
    rw [List.getElem?_set]
    by_cases hj : j < n * 4
    · have hq : j / 4 < n := by omega
      have hcc := hc (j / 4) (j % 4) hq (by omega)
      rw [fl_get hj, fl_length, if_pos (by omega : p * 4 + k < n * 4), fl_get hj]
      unfold fF
      rw [hD, hcc]
      by_cases e : p * 4 + k = j
      · rw [if_pos e, if_pos ⟨by omega, by omega⟩]
      · rw [if_neg e, if_neg (by omega)]
    · rw [List.getElem?_eq_none (by rw [fl_length]; omega), List.getElem?_eq_none (by rw [fl_length]; omega)]
      split
      · rw [if_neg (by rw [fl_length]; omega)]
      · rfl
  rw [← e]
  exact ho
theorem fcell_seen {C : P.Ck} {h p : Nat} (hh : h < n) (hp : p < n) (v : Bool) : ∀ q i, q < n → i < 4 → fcell { C with seen := P.upd C.seen (P.pos n h p) v } (P.pos n h q) i = if q = p ∧ i = 1 then .bool v else fcell C (P.pos n h q) i := fun q i hq hi => by
  unfold fcell
  by_cases e : q = p
  · subst e
    rcases (by omega : i = 0 ∨ i = 1 ∨ i = 2 ∨ i = 3) with rfl | rfl | rfl | rfl <;> simp [P.upd_same]
  · have hne : P.pos n h q ≠ P.pos n h p := fun e' => e (P.pos_inj hh hq hp e')
    simp [e, P.upd_other _ _ hne]
theorem fcell_cold {C : P.Ck} {h p : Nat} (hh : h < n) (hp : p < n) (v : Bool) : ∀ q i, q < n → i < 4 → fcell { C with cold := P.upd C.cold (P.pos n h p) v } (P.pos n h q) i = if q = p ∧ i = 2 then .bool v else fcell C (P.pos n h q) i := fun q i hq hi => by
  unfold fcell
  by_cases e : q = p
  · subst e
    rcases (by omega : i = 0 ∨ i = 1 ∨ i = 2 ∨ i = 3) with rfl | rfl | rfl | rfl <;> simp [P.upd_same]
  · have hne : P.pos n h q ≠ P.pos n h p := fun e' => e (P.pos_inj hh hq hp e')
    simp [e, P.upd_other _ _ hne]
theorem fcell_pins {C : P.Ck} {h p : Nat} (hh : h < n) (hp : p < n) (v : Int) : ∀ q i, q < n → i < 4 → fcell { C with pins := P.upd C.pins (P.pos n h p) v } (P.pos n h q) i = if q = p ∧ i = 3 then .int .i64 v else fcell C (P.pos n h q) i := fun q i hq hi => by
  unfold fcell
  by_cases e : q = p
  · subst e
    rcases (by omega : i = 0 ∨ i = 1 ∨ i = 2 ∨ i = 3) with rfl | rfl | rfl | rfl <;> simp [P.upd_same]
  · have hne : P.pos n h q ≠ P.pos n h p := fun e' => e (P.pos_inj hh hq hp e')
    simp [e, P.upd_other _ _ hne]
theorem RC.setS (h : RC B w c g cap n C) {p : Nat} (hp : p < n) (v : Bool) : RC B (w.setCell ⟨g, p * 4 + 1, none⟩ (.bool v)) c g cap n { C with seen := P.upd C.seen (P.pos n C.h p) v } ∧ Fr (rfoot c g) w (w.setCell ⟨g, p * 4 + 1, none⟩ (.bool v)) := h.set hp (k := 1) (by omega) (.bool v) { C with seen := P.upd C.seen (P.pos n C.h p) v } rfl (fcell_seen h.h hp v)
theorem RC.setC (h : RC B w c g cap n C) {p : Nat} (hp : p < n) (v : Bool) : RC B (w.setCell ⟨g, p * 4 + 2, none⟩ (.bool v)) c g cap n { C with cold := P.upd C.cold (P.pos n C.h p) v } ∧ Fr (rfoot c g) w (w.setCell ⟨g, p * 4 + 2, none⟩ (.bool v)) := h.set hp (k := 2) (by omega) (.bool v) { C with cold := P.upd C.cold (P.pos n C.h p) v } rfl (fcell_cold h.h hp v)
theorem RC.setP (h : RC B w c g cap n C) {p : Nat} (hp : p < n) (v : Int) : RC B (w.setCell ⟨g, p * 4 + 3, none⟩ (.int .i64 v)) c g cap n { C with pins := P.upd C.pins (P.pos n C.h p) v } ∧ Fr (rfoot c g) w (w.setCell ⟨g, p * 4 + 3, none⟩ (.int .i64 v)) := h.set hp (k := 3) (by omega) (.int .i64 v) { C with pins := P.upd C.pins (P.pos n C.h p) v } rfl (fcell_pins h.h hp v)
end
/-- Where a frame stands. -/
theorem at_pos {n h i : Nat} (hh : h < n) (hi : i < n) : ∃ p, p < n ∧ P.pos n h p = i := P.pos_all hh hi
set_option maxRecDepth 100000 in
set_option maxHeartbeats 2000000 in
theorem refat_any {B : Nat} {w : World} {c g cap n : Nat} {C : P.Ck} (h : RC B w c g cap n C) (i : Int) :
    Calls Try.prog 12 #[.pointer (some ⟨c, 0, none⟩), .int .i64 i] w fun e w' => w = w' ∧ ((∃ p, p < n ∧ (P.pos n C.h p : Int) = i ∧ e = .returned (.pointer (some ⟨g, p * 4, none⟩))) ∨ (¬ (0 ≤ i ∧ i < n) ∧ e = .returned (.pointer none))) := by
  have c0 := h.c0
  have hn64 := h.n64
  go_enter Try.func12, Try.ntmps12
  go_wp2
  go_loop [11] (fun j => ∃ k : Nat, j = .int .i64 k ∧ k ≤ n ∧ Hid (∀ q, q < k → (P.pos n C.h q : Int) ≠ i)) (fun j => n - (intOf j).toNat)
  case atStart => exact ⟨0, rfl, by omega, fun q hq => by omega⟩
  case round =>
    obtain ⟨k, rfl, hk, hno⟩ := hrel
    by_cases hlt : k < n
    · have cN := h.cN hlt
      obtain ⟨y, hy⟩ : ∃ y : Int, (P.pos n C.h k : Int) = y := ⟨_, rfl⟩
      rw [hy] at cN
      have HY := Lib.hid hy
      clear hy
      by_cases hx : y = i
      · have hb : (y == i) = true := by simp [hx]
        have HX := Lib.hid hx
        clear hx
        go_wp2
        go_ret
        exact ⟨rfl, .inl ⟨k, hlt, by rw [HY.out, HX.out], rfl⟩⟩
      · have hb : (y == i) = false := by simp [hx]
        have HX := Lib.hid hx
        clear hx
        go_wp2
        go_round
        case rel => exact ⟨k + 1, by go_num, by omega, fun q hq => by
          rcases Nat.lt_or_ge q k with h | h
          · exact hno.out q h
          · obtain rfl : q = k := by omega
            rw [HY.out]; exact HX.out⟩
        case measure => simp [intOf]; omega
    · obtain rfl : k = n := by omega
      have hout : Hid (¬ (0 ≤ i ∧ i < k)) := fun hi => by
        obtain ⟨p, hp, e⟩ := at_pos (n := k) (i := i.toNat) h.h (by omega)
        exact hno.out p hp (by omega)
      go_wp2
      go_ret
      exact ⟨rfl, .inr ⟨by have := hout.out; omega, rfl⟩⟩
end Go.Proofs.Ytbibfoahlieccaa
