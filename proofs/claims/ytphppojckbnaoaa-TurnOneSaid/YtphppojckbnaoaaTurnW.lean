/- The walks of turn. -/
import Derived.Test.YtphppojckbnaoaaProg
import Derived.Test.YtphppojckbnaoaaFr
import Derived.Test.YtphppojckbnaoaaRegK
import Derived.Test.YtphppojckbnaoaaP
import Derived.WalkKit
import Derived.Outline
import Derived.IntWalk
import Derived.WalkLawsBesides
import Derived.LoopTactic
namespace Go.Proofs.Ytphppojckbnaoaa
open Go.RowKit
set_option linter.unusedSimpArgs false
set_option linter.unusedVariables false
theorem info3 : (Try.prog.info? 3).map (fun i => (i.zero, i.size, i.bytes)) = some (some (.int .i64 0), 1, 8) := by kernel_rfl
theorem size30 : (Try.prog.info? 30).map (·.size) = some 1 := by kernel_rfl
theorem size3 : (Try.prog.info? 3).map (·.size) = some 1 := by kernel_rfl
theorem ret_int {k : IntKind} {a b : Int} (h : a = b) : Ending.returned (.int k a) = .returned (.int k b) := by rw [h]
theorem ret_bool {a b : Bool} (h : a = b) : Ending.returned (.bool a) = .returned (.bool b) := by rw [h]
def iv (x : Int) : Value := .int .i64 x
def line (L : List Int) : List Value := L.map iv
theorem line_get {L : List Int} {j : Nat} {x : Int} (h : L[j]? = some x) : (line L)[j]? = some (.int .i64 x) := by simp [line, h, iv]
theorem line_length (L : List Int) : (line L).length = L.length := by simp [line]
theorem line_one (L : List Int) : ∀ u ∈ line L, u.oneCell' = true := ints_oneCell .i64 L
/-- Block t is a turn, its line in v's row. -/
structure TS (B : Nat) (w : World) (t : Nat) (v : Value) (L : List Int) : Prop where
  blk : Blk w t #[v] 40
  own : w.ownsRow B 3 1 v L.length (line L)
  ne : v.ownBlock ≠ some t
  base : B ≤ t
/-- The blocks that are a turn's. -/
def foot (t : Nat) (v : Value) : Nat → Prop := fun b => b = t ∨ v.ownBlock = some b
theorem TS.fr {B : Nat} {w w' : World} {t : Nat} {v : Value} {L : List Int} (h : TS B w t v L) {S : Nat → Prop} (k : Fr S w w') (hn : ∀ b, foot t v b → ¬ S b) : TS B w' t v L :=
  ⟨h.blk.fr k (hn t (.inl rfl)), own_fr h.own k fun b hb => hn b (.inr hb), h.ne, h.base⟩
theorem TS.lt {B : Nat} {w : World} {t : Nat} {v : Value} {L : List Int} (h : TS B w t v L) : ∀ b, foot t v b → B ≤ b ∧ b < w.heap.size := by
  rintro b (rfl | hb)
  · exact ⟨h.base, h.blk.lt⟩
  · exact h.own.lt b hb
/-- What a step of a turn's does. -/
structure Stp (t : Nat) (v v' : Value) (w w' : World) : Prop where
  fr : Fr (foot t v) w w'
  new : v'.ownBlock = v.ownBlock ∨ ∀ b, v'.ownBlock = some b → w.heap.size ≤ b
theorem Stp.refl (t : Nat) (v : Value) (w : World) : Stp t v v w w := ⟨Fr.refl _ _, .inl rfl⟩
set_option maxRecDepth 100000 in
set_option maxHeartbeats 1000000 in
theorem place_any {B : Nat} {w : World} {t : Nat} {v : Value} {L : List Int} (h : TS B w t v L) (hl : L.length ≤ 1000) (x : Int) :
    Calls Try.prog 18 #[.pointer (some ⟨t, 0, none⟩), .int .i64 x] w fun e w' => e = .returned (.int .i64 (P.plc L x)) ∧ w = w' := by
  have c0 : w.cell? ⟨t, 0, none⟩ = some v := by rw [h.blk.cell]; rfl
  rcases own_cases h.own with ⟨rfl, h0, h1⟩ | ⟨g, cap, rfl, hcap, hm, hg, hlt, hc, _⟩
  · obtain rfl : L = [] := List.eq_nil_of_length_eq_zero h0
    go_enter Try.func18, Try.ntmps18
    go_wp2
    refine wp_loop_rounds 1 ?_
    rw [rounds_succ]
    go_wp2
    go_ret
    exact ⟨rfl, rfl⟩
  · have HC := Lib.hid hc
    clear hc
    go_enter Try.func18, Try.ntmps18
    go_wp2
    go_loop [14] (fun i => ∃ k : Nat, i = .int .i64 k ∧ k ≤ L.length ∧ Hid (∀ j, j < k → L[j]? ≠ some x)) (fun i => L.length - (intOf i).toNat)
    case atStart => exact ⟨0, rfl, by omega, fun j hj => by omega⟩
    case round =>
      obtain ⟨k, rfl, hk, hno⟩ := hrel
      by_cases hlt : k < L.length
      · obtain ⟨y, hy⟩ : ∃ y, L[k]? = some y := ⟨_, List.getElem?_eq_getElem hlt⟩
        have hck : w.cell? ⟨g, k, none⟩ = some (.int .i64 y) := (HC.out k hlt).trans (line_get hy)
        have HY := Lib.hid hy
        clear hy
        by_cases hx : y = x
        · have hb : (y == x) = true := by simp [hx]
          have HX := Lib.hid hx
          clear hx
          go_wp2
          go_ret
          exact ⟨ret_int (P.plc_found hno.out (by rw [HY.out, HX.out])).symm, rfl⟩
        · have hb : (y == x) = false := by simp [hx]
          have HX := Lib.hid hx
          clear hx
          go_wp2
          go_round
          case rel => exact ⟨k + 1, by go_num, by omega, fun j hj => by
            rcases Nat.lt_or_ge j k with h | h
            · exact hno.out j h
            · obtain rfl : j = k := by omega
              rw [HY.out]; exact fun e => HX.out (Option.some.inj e)⟩
          case measure => simp [intOf]; omega
      · obtain rfl : k = L.length := by omega
        go_wp2
        go_ret
        exact ⟨ret_int (P.plc_none hno.out).symm, rfl⟩
theorem place_nil (w : World) (x : Int) : Calls Try.prog 18 #[.pointer none, .int .i64 x] w fun e w' => e = .returned (.int .i64 (-1)) ∧ w = w' := by
  go_enter Try.func18, Try.ntmps18
  go_wp2
  go_ret
  exact ⟨rfl, rfl⟩
theorem has_any {B : Nat} {w : World} {t : Nat} {v : Value} {L : List Int} (h : TS B w t v L) (hl : L.length ≤ 1000) (x : Int) :
    Calls Try.prog 13 #[.pointer (some ⟨t, 0, none⟩), .int .i64 x] w fun e w' => e = .returned (.bool (P.has L x)) ∧ w = w' := by
  have hz := Lib.hid (P.plc_zero L x)
  go_enter Try.func13, Try.ntmps13
  go_wp2_with (go_at_call 18; refine (place_any h hl x).mono ?_; rintro e w' ⟨rfl, rfl⟩)
  go_ret
  exact ⟨ret_bool hz.out, rfl⟩
theorem has_nil (w : World) (x : Int) : Calls Try.prog 13 #[.pointer none, .int .i64 x] w fun e w' => e = .returned (.bool false) ∧ w = w' := by
  go_enter Try.func13, Try.ntmps13
  go_wp2_with (go_at_call 18; refine (place_nil w x).mono ?_; rintro e w' ⟨rfl, rfl⟩)
  go_ret
  exact ⟨rfl, rfl⟩
theorem new_any (w : World) : Calls Try.prog 7 #[] w fun e w' => e = .returned (.pointer (some ⟨w.heap.size, 0, none⟩)) ∧ w.alloc (.cells #[.slice none 0 0] 40) = w' := by
  go_enter Try.func7, Try.ntmps7
  go_wp2
  go_ret
  exact ⟨rfl, rfl⟩
theorem new_TS (B : Nat) (w : World) (hB : B ≤ w.heap.size) : TS B (w.alloc (.cells #[.slice none 0 0] 40)) w.heap.size (.slice none 0 0) [] :=
  ⟨Blk.alloc_new _ _ _, World.ownsRow_nil _ _ _ _, by simp [Value.ownBlock], hB⟩

set_option maxRecDepth 100000 in
set_option maxHeartbeats 1000000 in
theorem line_any {B : Nat} {w : World} {t : Nat} {v : Value} {L : List Int} (h : TS B w t v L) (hl : L.length ≤ 1000) :
    Calls Try.prog 15 #[.pointer (some ⟨t, 0, none⟩)] w fun e w' => ∃ u, e = .returned u ∧ w'.ownsRow w.heap.size 3 1 u L.length (line L) ∧ Below w.heap.size w w' := by
  have c0 : w.cell? ⟨t, 0, none⟩ = some v := by rw [h.blk.cell]; rfl
  obtain ⟨i3, hi, hz0, hz1, hz2⟩ := info_parts info3
  have ho := h.own
  obtain ⟨ao, cap, hv⟩ := own_slice ho
  subst hv
  have hsrc := SrcAt.own ho
  have HS := Lib.hid hsrc
  clear hsrc
  go_enter Try.func15, Try.ntmps15
  go_wp2_with (at_builtin; refine wpList_append_src rfl _ _ 30 rfl w.heap.size 3 i3 (.int .i64 0) 1 8 Try.underlying30 hi hz0 hz1 hz2 rfl (by decide) _ _ _ rfl (World.ownsRow_nil _ _ _ _) _ _ _ rfl HS.out ?c1 (line_one L) ?c2 ?c3 ?c4 ?_)
  case c1 => exact ho.1
  case c2 => unfold maxLen; omega
  case c3 => omega
  case c4 => exact Nat.le_refl _
  intro v' w1 hown hgrow _ _
  go_wp2
  go_ret
  exact ⟨_, rfl, by simpa using hown, (Below.refl _ _).grown hgrow (Nat.le_refl _) (fun k hk => by cases hk)⟩
theorem line_nil (w : World) : Calls Try.prog 15 #[.pointer none] w fun e w' => e = .returned (.slice none 0 0) ∧ w = w' := by
  go_enter Try.func15, Try.ntmps15
  go_wp2
  go_ret
  exact ⟨rfl, rfl⟩
theorem ask_nil (w : World) (x : Int) : Calls Try.prog 9 #[.pointer none, .int .i64 x] w fun e w' => e = .returned (.bool false) ∧ w = w' := by
  go_enter Try.func9, Try.ntmps9
  go_wp2
  go_ret
  exact ⟨rfl, rfl⟩
theorem leave_nil (w : World) (x : Int) : Calls Try.prog 11 #[.pointer none, .int .i64 x] w fun e w' => e = .returned (.bool false) ∧ w = w' := by
  go_enter Try.func11, Try.ntmps11
  go_wp2_with (go_at_call 18; refine (place_nil w x).mono ?_; rintro e w' ⟨rfl, rfl⟩)
  go_ret
  exact ⟨rfl, rfl⟩
/-- Behind an asking. -/
theorem TS.ask {B : Nat} {w w1 : World} {t : Nat} {v v' : Value} {L : List Int} (h : TS B w t v L) (x : Int) (o : Obj) (hown : w1.ownsRow B 3 1 v' (L.length + 1) (line L ++ [iv x])) (g : (w.alloc o).grownBy w1 v.ownBlock) (hloc : v'.ownBlock = v.ownBlock ∨ v'.ownBlock = some (w.heap.size + 1)) :
    TS B (w1.setCell ⟨t, 0, none⟩ v') t v' (L ++ [x]) ∧ Stp t v v' w (w1.setCell ⟨t, 0, none⟩ v') ∧ w1.cell? ⟨t, 0, none⟩ = some v ∧ w1.frozen? ⟨t, 0, none⟩ = false := by
  have hb1 : Blk w1 t #[v] 40 := (h.blk.alloc o).fr (Fr.of_grown g) h.ne
  have hlt := h.blk.lt
  have hne' : v'.ownBlock ≠ some t := by
    rcases hloc with e | e <;> rw [e]
    · exact h.ne
    · simp; omega
  refine ⟨⟨?_, ?_, hne', h.base⟩, ⟨?_, ?_⟩, by rw [hb1.cell]; rfl, hb1.free 0⟩
  · rw [hb1.setCell]
    exact hb1.setRow _
  · have := ownsRow_setCell_other hown (a := ⟨t, 0, none⟩) hne' v'
    simpa [line, iv] using this
  · exact (((Fr.refl _ _).alloc o).grown g fun k _ hk => .inr hk).setCell _ _ fun _ => .inl rfl
  · rcases hloc with e | e
    · exact .inl e
    · exact .inr fun b hb => by rw [e] at hb; simp at hb; omega
set_option maxRecDepth 100000 in
set_option maxHeartbeats 1000000 in
theorem ask_any {B : Nat} {w : World} {t : Nat} {v : Value} {L : List Int} (h : TS B w t v L) (hl : L.length ≤ 900) (x : Int) :
    Calls Try.prog 9 #[.pointer (some ⟨t, 0, none⟩), .int .i64 x] w fun e w' => e = .returned (.bool (P.has (P.ask L x) x)) ∧ ∃ v', TS B w' t v' (P.ask L x) ∧ Stp t v v' w w' := by
  have c0 : w.cell? ⟨t, 0, none⟩ = some v := by rw [h.blk.cell]; rfl
  obtain ⟨i3, hi, hz0, hz1, hz2⟩ := info_parts info3
  by_cases hx : x ∈ L
  · obtain ⟨i, hp, _, _⟩ := P.plc_mem hx
    replace hp := Lib.hid hp
    rw [P.ask_mem hx]
    clear hx
    go_enter Try.func9, Try.ntmps9
    go_wp2_with fail
    refine (place_any h (by omega) x).mono ?_
    rintro e w' ⟨rfl, rfl⟩
    rw [hp.out]
    go_wp2_with fail
    refine (has_any h (by omega) x).mono ?_
    rintro e w' ⟨rfl, rfl⟩
    go_wp2_with fail
    go_ret
    exact ⟨rfl, v, h, Stp.refl _ _ _⟩
  · have hp := Lib.hid (P.plc_not hx)
    rw [P.ask_not hx]
    clear hx
    go_enter Try.func9, Try.ntmps9
    go_wp2_with fail
    refine (place_any h (by omega) x).mono ?_
    rintro e w' ⟨rfl, rfl⟩
    rw [hp.out]
    go_wp2_with (at_builtin; refine wpList_append_own_at _ rfl _ _ 30 rfl B 3 i3 (.int .i64 0) 1 8 Try.underlying30 hi hz0 hz1 hz2 rfl (by decide) _ _ _ rfl (h.own.alloc _) ⟨w.heap.size, 0, none⟩ 1 1 [.int .i64 x] rfl rfl (cell_one_new _ _ _) (ints_oneCell .i64 [x]) ?c1 ?c2 ?c3 ?_)
    case c1 => unfold maxLen; omega
    case c2 => omega
    case c3 => have := h.base; have := h.blk.lt; simp; omega
    intro v' w1 hown hgrow _ hloc
    obtain ⟨hT, hS, c1, f1⟩ := h.ask x _ hown hgrow hloc
    obtain ⟨ao, cap, hv⟩ := own_slice hown
    subst hv
    clear hown hgrow hloc
    go_wp2_with fail
    refine (has_any hT (by simp; omega) x).mono ?_
    rintro e w' ⟨rfl, rfl⟩
    go_wp2_with fail
    go_ret
    exact ⟨rfl, _, hT, hS⟩

theorem erase_parts {L : List Int} {i : Nat} (hi : i < L.length) : (line (L.take i)).length = i ∧ (line (L.drop (i + 1))).length = L.length - (i + 1) := by simp [line]; omega
set_option maxRecDepth 100000 in
set_option maxHeartbeats 2000000 in
theorem leave_any {B : Nat} {w : World} {t : Nat} {v : Value} {L : List Int} (h : TS B w t v L) (hl : L.length ≤ 900) (x : Int) :
    Calls Try.prog 11 #[.pointer (some ⟨t, 0, none⟩), .int .i64 x] w fun e w' => e = .returned (.bool (decide (x ∈ L))) ∧ ∃ v', TS B w' t v' (L.erase x) ∧ Stp t v v' w w' := by
  have c0 : w.cell? ⟨t, 0, none⟩ = some v := by rw [h.blk.cell]; rfl
  obtain ⟨i3, hi3, hz0, hz1, hz2⟩ := info_parts info3
  by_cases hx : x ∈ L
  · obtain ⟨i, hp, hi, he⟩ := P.plc_mem hx
    replace hp := Lib.hid hp
    rw [decide_eq_true hx, he]
    clear hx he
    rcases own_cases h.own with ⟨rfl, h0, h1⟩ | ⟨g, cap, rfl, hcap, hm, hg, hlt, hc, _⟩
    · omega
    have HC := Lib.hid hc
    clear hc
    have s1 := fun w' => run_slice_to (P := Try.prog) Try.underlying30 size3 (g := g) (n := L.length) (cap := cap) (i := i) (k := .i64) (L := (i : Int)) rfl (by omega) hcap w'
    have s2 := fun w' => run_slice_from (P := Try.prog) Try.underlying30 size3 (g := g) (n := L.length) (cap := cap) (i := i + 1) (k := .i64) (L := (i : Int) + 1) (by omega) (by omega) w'
    obtain ⟨o2, hO⟩ : ∃ o2, (if cap = i + 1 then 0 else (i + 1) * 1) = o2 := ⟨_, rfl⟩
    simp only [hO] at s2
    replace hO := Lib.hid hO
    have hx2 : IntKind.i64.wrap ((i : Int) + 1) = (i : Int) + 1 := IntWalk.i64_in _ (by omega)
    go_enter Try.func11, Try.ntmps11
    go_wp2_with fail
    refine (place_any h (by omega) x).mono ?_
    rintro e w' ⟨rfl, rfl⟩
    rw [hp.out]
    go_wp2_with fail
    refine wp_region_K (k := 18) (S := (fun w' => TS B w' t (.slice (some ⟨g, 0, none⟩) L.length cap) L)) (by kernel_rfl) ?_
    change wpAnyK _ _ _ _ _ _ _ _ _ w.drew
    (try simp only [Act.put])
    have hS : TS B w.drew t (.slice (some ⟨g, 0, none⟩) L.length cap) L := ⟨h.blk, h.own, h.ne, h.base⟩
    refine anyK_pure 0 _ ?_ rfl (by kernel_rfl) (by kernel_rfl) (by kernel_rfl) (fun _ _ _ h => h) (by decide) rfl ?_ hS ?_
    rotate_left
    · (intro w'; go_simp; (try with_reducible rfl))
    (try simp only [Act.put, List.getElem_toArray, List.getElem_cons_zero, List.setIfInBounds_toArray, List.set_cons_zero, List.set_cons_succ])
    refine anyK_pure 1 _ ?_ rfl (by kernel_rfl) (by kernel_rfl) (by kernel_rfl) (fun _ _ _ h => h) (by decide) rfl ?_ hS ?_
    rotate_left
    · (intro w'; go_simp; (try with_reducible rfl))
    (try simp only [Act.put, List.getElem_toArray, List.getElem_cons_zero, List.getElem_cons_succ, List.setIfInBounds_toArray, List.set_cons_zero, List.set_cons_succ])
    refine anyK_pure 2 _ ?_ rfl (by kernel_rfl) (by kernel_rfl) (by kernel_rfl) (fun _ _ _ h => h) (by decide) rfl ?_ hS ?_
    rotate_left
    · (intro w'; go_simp; (try with_reducible rfl))
    (try simp only [Act.put, List.getElem_toArray, List.getElem_cons_zero, List.getElem_cons_succ, List.setIfInBounds_toArray, List.set_cons_zero, List.set_cons_succ])
    refine anyK_pure 3 _ ?_ rfl (by kernel_rfl) (by kernel_rfl) (by kernel_rfl) (fun _ _ _ h => h) (by decide) rfl ?_ hS ?_
    rotate_left
    · (intro w'; go_simp; (try with_reducible rfl))
    (try simp only [Act.put, List.getElem_toArray, List.getElem_cons_zero, List.getElem_cons_succ, List.setIfInBounds_toArray, List.set_cons_zero, List.set_cons_succ])
    refine anyK_if 4 _ ?_ rfl (by kernel_rfl) (by kernel_rfl) (by kernel_rfl) (fun _ _ _ h => h) (by decide) (by kernel_rfl) (by kernel_rfl) rfl ?_ hS ?_
    rotate_left
    · (intro w' h; have c0 := h.blk.cell 0; go_simp; (try with_reducible rfl))
    (try simp only [Act.put, List.getElem_toArray, List.getElem_cons_zero, List.getElem_cons_succ, List.setIfInBounds_toArray, List.set_cons_zero, List.set_cons_succ])
    refine anyK_pure 5 _ ?_ rfl (by kernel_rfl) (by kernel_rfl) (by kernel_rfl) (fun _ _ _ h => h) (by decide) rfl ?_ hS ?_
    rotate_left
    · (intro w'; go_simp; (try with_reducible rfl))
    (try simp only [Act.put, List.getElem_toArray, List.getElem_cons_zero, List.getElem_cons_succ, List.setIfInBounds_toArray, List.set_cons_zero, List.set_cons_succ])
    refine anyK_pure 6 _ ?_ rfl (by kernel_rfl) (by kernel_rfl) (by kernel_rfl) (fun _ _ _ h => h) (by decide) rfl ?_ hS ?_
    rotate_left
    · (intro w'; go_simp; (try with_reducible rfl))
    (try simp only [Act.put, List.getElem_toArray, List.getElem_cons_zero, List.getElem_cons_succ, List.setIfInBounds_toArray, List.set_cons_zero, List.set_cons_succ])
    refine anyK_pure 8 _ ?_ rfl (by kernel_rfl) (by kernel_rfl) (by kernel_rfl) (fun _ _ _ h => h) (by decide) rfl ?_ hS ?_
    rotate_left
    · (intro w'; go_simp; (try with_reducible rfl))
    (try simp only [Act.put, List.getElem_toArray, List.getElem_cons_zero, List.getElem_cons_succ, List.setIfInBounds_toArray, List.set_cons_zero, List.set_cons_succ])
    refine anyK_pure 9 _ ?_ rfl (by kernel_rfl) (by kernel_rfl) (by kernel_rfl) (fun _ _ _ h => h) (by decide) rfl ?_ hS ?_
    rotate_left
    · (intro w'; go_simp; (try with_reducible rfl))
    (try simp only [Act.put, List.getElem_toArray, List.getElem_cons_zero, List.getElem_cons_succ, List.setIfInBounds_toArray, List.set_cons_zero, List.set_cons_succ])
    refine anyK_pure 10 _ ?_ rfl (by kernel_rfl) (by kernel_rfl) (by kernel_rfl) (fun _ _ _ h => h) (by decide) rfl ?_ hS ?_
    rotate_left
    · (intro w'; go_simp; (try with_reducible rfl))
    (try simp only [Act.put, List.getElem_toArray, List.getElem_cons_zero, List.getElem_cons_succ, List.setIfInBounds_toArray, List.set_cons_zero, List.set_cons_succ])
    refine anyK_if 11 _ ?_ rfl (by kernel_rfl) (by kernel_rfl) (by kernel_rfl) (fun _ _ _ h => h) (by decide) (by kernel_rfl) (by kernel_rfl) rfl ?_ hS ?_
    rotate_left
    · (intro w' h; have c0 := h.blk.cell 0; go_simp; (try with_reducible rfl))
    (try simp only [Act.put, List.getElem_toArray, List.getElem_cons_zero, List.getElem_cons_succ, List.setIfInBounds_toArray, List.set_cons_zero, List.set_cons_succ])
    refine anyK_pure 12 _ ?_ rfl (by kernel_rfl) (by kernel_rfl) (by kernel_rfl) (fun _ _ _ h => h) (by decide) rfl ?_ hS ?_
    rotate_left
    · (intro w'; go_simp; (try with_reducible rfl))
    (try simp only [Act.put, List.getElem_toArray, List.getElem_cons_zero, List.getElem_cons_succ, List.setIfInBounds_toArray, List.set_cons_zero, List.set_cons_succ])
    refine anyK_pure 13 _ ?_ rfl (by kernel_rfl) (by kernel_rfl) (by kernel_rfl) (fun _ _ _ h => h) (by decide) rfl ?_ hS ?_
    rotate_left
    · (intro w'; go_simp; (try with_reducible rfl))
    (try simp only [Act.put, List.getElem_toArray, List.getElem_cons_zero, List.getElem_cons_succ, List.setIfInBounds_toArray, List.set_cons_zero, List.set_cons_succ])
    refine anyK_pure 14 _ ?_ rfl (by kernel_rfl) (by kernel_rfl) (by kernel_rfl) (fun _ _ _ h => h) (by decide) rfl ?_ hS ?_
    rotate_left
    · (intro w'; go_simp; (try with_reducible rfl))
    (try simp only [Act.put, List.getElem_toArray, List.getElem_cons_zero, List.getElem_cons_succ, List.setIfInBounds_toArray, List.set_cons_zero, List.set_cons_succ])
    have hsrc1 : SrcAt w.drew (.slice (some ⟨g, 0, none⟩) i cap) i (line (L.take i)) := .inr ⟨_, _, rfl, fun j u hu => by
      have hj : j < i := by have := (List.getElem?_eq_some_iff.1 hu).1; rw [(erase_parts hi).1] at this; exact this
      rw [add_at]
      refine (HC.out j (by omega)).trans ?_
      rw [← hu]
      simp only [line, List.getElem?_map, List.getElem?_take_of_lt hj]⟩
    refine anyK_one 7 _ (by kernel_rfl) rfl rfl (wp_append_src _ _ 30 rfl B 3 i3 (.int .i64 0) 1 8 Try.underlying30 hi3 hz0 hz1 hz2 rfl (by decide) (.slice none 0 0) 0 [] rfl (World.ownsRow_nil _ _ _ _) _ i (line (L.take i)) rfl hsrc1 ?_ (line_one _) ?_ ?_ ?_ ?_)
    · rw [(erase_parts hi).1]; omega
    · unfold maxLen; omega
    · omega
    · have := h.base; have := h.blk.lt; exact Nat.le_of_lt (Nat.lt_of_le_of_lt h.base h.blk.lt)
    intro v1 w1 own1 gr1 _ hloc1
    have k1 : Fr (fun _ => False) w w1 := ((Fr.refl _ w).drew).grown gr1 fun k _ hk => by cases hk
    have hS1 : TS B w1 t (.slice (some ⟨g, 0, none⟩) L.length cap) L := h.fr k1 fun _ _ h => h
    refine ⟨hS1, ?_⟩
    (try simp only [Act.put, List.getElem_toArray, List.getElem_cons_zero, List.getElem_cons_succ, List.setIfInBounds_toArray, List.set_cons_zero, List.set_cons_succ])
    have hsrc2 : SrcAt w1 (.slice (some ⟨g, o2, none⟩) (L.length - (i + 1)) (cap - (i + 1))) (L.length - (i + 1)) (line (L.drop (i + 1))) := .inr ⟨_, _, rfl, fun j u hu => by
      have hj : j < L.length - (i + 1) := by have := (List.getElem?_eq_some_iff.1 hu).1; rw [(erase_parts hi).2] at this; exact this
      have hO' := hO.out
      rw [if_neg (by omega), Nat.mul_one] at hO'
      rw [← hO', Addr.add_lit]
      refine (hS1.own.cellAt (i + 1 + j) (by omega)).trans ?_
      rw [← hu]
      simp only [line, List.getElem?_map, List.getElem?_drop]⟩
    refine anyK_one 15 _ (by kernel_rfl) rfl rfl (wp_append_src _ _ 30 rfl B 3 i3 (.int .i64 0) 1 8 Try.underlying30 hi3 hz0 hz1 hz2 rfl (by decide) v1 (0 + i) _ rfl own1 _ (L.length - (i + 1)) (line (L.drop (i + 1))) rfl hsrc2 ?_ (line_one _) ?_ ?_ ?_ ?_)
    · rw [(erase_parts hi).2]; omega
    · unfold maxLen; omega
    · omega
    · exact Nat.le_of_lt (Nat.lt_of_le_of_lt h.base hS1.blk.lt)
    intro v2 w2 own2 gr2 _ hloc2
    have n1 : ∀ b, v1.ownBlock = some b → w.heap.size ≤ b := fun b hb => by
      rcases hloc1 with e | e
      · rw [e] at hb; cases hb
      · rw [e] at hb; simp at hb; omega
    have k2 : Fr (fun _ => False) w w2 := k1.grown gr2 fun k hk hk2 => by have := n1 k hk2; omega
    have hS2 : TS B w2 t (.slice (some ⟨g, 0, none⟩) L.length cap) L := h.fr k2 fun _ _ h => h
    have n2 : ∀ b, v2.ownBlock = some b → w.heap.size ≤ b := fun b hb => by
      rcases hloc2 with e | e
      · exact n1 b (by rw [← e]; exact hb)
      · rw [e] at hb; simp at hb; have := k1.size; omega
    refine ⟨hS2, ?_⟩
    (try simp only [Act.put, List.getElem_toArray, List.getElem_cons_zero, List.getElem_cons_succ, List.setIfInBounds_toArray, List.set_cons_zero, List.set_cons_succ])
    have hS := hS2
    refine anyK_pure 16 _ ?_ rfl (by kernel_rfl) (by kernel_rfl) (by kernel_rfl) (fun _ _ _ h => h) (by decide) rfl ?_ hS ?_
    rotate_left
    · (intro w'; go_simp; (try with_reducible rfl))
    (try simp only [Act.put, List.getElem_toArray, List.getElem_cons_zero, List.getElem_cons_succ, List.setIfInBounds_toArray, List.set_cons_zero, List.set_cons_succ])
    refine anyK_pure 17 _ ?_ rfl (by kernel_rfl) (by kernel_rfl) (by kernel_rfl) (fun _ _ _ h => h) (by decide) rfl ?_ hS ?_
    rotate_left
    · (intro w'; go_simp; (try with_reducible rfl))
    (try simp only [Act.put, List.getElem_toArray, List.getElem_cons_zero, List.getElem_cons_succ, List.setIfInBounds_toArray, List.set_cons_zero, List.set_cons_succ])
    have ht := h.blk.lt
    have hne2 : v2.ownBlock ≠ some t := fun e => by have := n2 t e; omega
    have hfin : TS B (w2.setCell ⟨t, 0, none⟩ v2) t v2 (L.take i ++ L.drop (i + 1)) := by
      refine ⟨?_, ?_, hne2, h.base⟩
      · rw [hS2.blk.setCell]
        exact hS2.blk.setRow _
      · have := ownsRow_setCell_other own2 (a := ⟨t, 0, none⟩) hne2 v2
        rw [show (L.take i ++ L.drop (i + 1)).length = 0 + i + (L.length - (i + 1)) by simp; omega]
        simpa [line] using this
    have hstp : Stp t (.slice (some ⟨g, 0, none⟩) L.length cap) v2 w (w2.setCell ⟨t, 0, none⟩ v2) := ⟨(k2.mono fun _ _ h => h.elim).setCell _ _ fun _ => .inl rfl, .inr n2⟩
    refine anyK_last _ (by kernel_rfl) rfl (by decide) rfl (wp_store_one 30 _ _ rfl ⟨t, 0, none⟩ _ v2 rfl rfl size30 (own_one own2) (hS2.blk.cell 0) (hS2.blk.free 0) ?_)
    refine anyK_done (by kernel_rfl) ?_ _
    go_wp2_with fail
    go_ret
    exact ⟨rfl, _, hfin, hstp⟩
  · have hp := Lib.hid (P.plc_not hx)
    rw [decide_eq_false hx, List.erase_of_not_mem hx]
    clear hx
    go_enter Try.func11, Try.ntmps11
    go_wp2_with fail
    refine (place_any h (by omega) x).mono ?_
    rintro e w' ⟨rfl, rfl⟩
    rw [hp.out]
    go_wp2_with fail
    go_ret
    exact ⟨rfl, v, h, Stp.refl _ _ _⟩
end Go.Proofs.Ytphppojckbnaoaa
