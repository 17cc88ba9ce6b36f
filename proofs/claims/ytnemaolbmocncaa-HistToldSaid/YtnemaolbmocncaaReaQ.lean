/- The list of those still to be looked at: a row of ints that begins inside its block. -/
import Derived.Test.YtnemaolbmocncaaH1W
import Derived.ArgAppend
import Derived.Test.YtnemaolbmocncaaRowV
namespace Go.Proofs.Ytnemaolbmocncaa
open Go.RowKit
/-- v is a list of its own block (from base on), with the ints q. -/
def QAt (w : World) (base : Nat) (v : Value) (q : List Nat) : Prop :=
  ∃ (b off cap : Nat) (cur : Array Value), v = .slice (some ⟨b, off, none⟩) q.length cap ∧ base ≤ b ∧ w.heap[b]? = some (.cells cur 3 (0, 0)) ∧ q.length ≤ cap ∧ cap ≤ maxLen ∧ off + cap ≤ cur.size ∧ ∀ (j x : Nat), q[j]? = some x → cur[off + j]? = some (.int .i64 (x : Int))
theorem heap_cell {w : World} {b : Nat} {cur : Array Value} {t : TypeId} {fz : Nat × Nat} (h : w.heap[b]? = some (.cells cur t fz)) (o : Nat) : w.cell? ⟨b, o, none⟩ = cur[o]? := by
  simp [World.cell?, h]
theorem heap_free {w : World} {b : Nat} {cur : Array Value} {t : TypeId} (h : w.heap[b]? = some (.cells cur t (0, 0))) (o : Nat) : w.frozen? ⟨b, o, none⟩ = false := by
  simp [World.frozen?, h]
section
variable {w : World} {base : Nat} {v : Value} {q : List Nat}
set_option maxRecDepth 100000 in
theorem QAt.push (h : QAt w base v q) (hq : q.length + 1 ≤ 100000) (hbase : base ≤ w.heap.size) (a : Addr) (c x : Nat) (ha : w.cell? a = some (.int .i64 (x : Int))) (ha2 : a.add 0 = a) :
    ∃ v' w', (Builtin.append_ #[96, 96] 96 #[v, .slice (some a) 1 c]).run Try.prog w = .ok v' w' ∧ QAt w' base v' (q ++ [x]) ∧ Fr (fun k => base ≤ k) w w' := by
  obtain ⟨b, off, cap, cur, rfl, hb, hh, hle, hmax, hsz, hc⟩ := h
  have hnews : ∀ j u, [Value.int .i64 (x : Int)][j]? = some u → w.cell? (a.add j) = some u := fun j u hu => by
    cases j with
    | zero => simp at hu; rw [ha2, ← hu]; exact ha
    | succ j => simp at hu
  by_cases hr : q.length + 1 ≤ cap
  · have hlt : off + q.length < cur.size := by omega
    have hrun := run_append_room_cells (P := Try.prog) (w := w) 96 96 3 _ rfl rfl b off q.length cap a 1 c [.int .i64 x] rfl hnews (by simp [Value.oneCell']) hr
      (fun j hj => by
        obtain rfl : j = 0 := by simpa using hj
        rw [heap_cell hh]
        show (cur[off + q.length * 1 + 0]?).isSome = true
        rw [Nat.mul_one, Nat.add_zero, Array.getElem?_eq_getElem hlt]; rfl)
      (fun j _ => heap_free hh _)
    refine ⟨_, _, hrun, ?_, ?_⟩
    · have hl : b < w.heap.size := (Array.getElem?_eq_some_iff.1 hh).1
      refine ⟨b, off, cap, cur.setIfInBounds (off + q.length * 1) (.int .i64 x), by rw [List.length_append]; rfl, hb, ?_, by simpa using hr, hmax, by simpa using hsz, fun j y hj => ?_⟩
      · simp only [World.setCells, World.setCell, Array.getElem?_modify, if_true, hh]
        rfl
      · rw [Nat.mul_one]
        by_cases e : j < q.length
        · rw [List.getElem?_append_left e] at hj
          rw [Array.getElem?_setIfInBounds_ne (by omega)]
          exact hc j y hj
        · rw [List.getElem?_append_right (by omega)] at hj
          have e2 : j - q.length = 0 := by
            cases h3 : j - q.length with
            | zero => rfl
            | succ n => rw [h3] at hj; simp at hj
          rw [e2] at hj
          obtain rfl : j = q.length := by omega
          obtain rfl : x = y := by simpa using hj
          rw [Array.getElem?_setIfInBounds_self_of_lt hlt]
    · exact (Fr.refl _ w).setCell _ _ fun _ => hb
  · obtain ⟨v', w', hrun, ho, hg⟩ := run_append_arg_grows (P := Try.prog) (w := w) 96 96 3 _ (.int .i64 0) 1 8 rfl rfl rfl rfl rfl rfl (by omega) ⟨b, off, none⟩ q.length cap (q.map fun n : Nat => Value.int .i64 (n : Int)) (by simp)
      (fun j u hu => by
        rw [List.getElem?_map] at hu
        cases h2 : q[j]? with
        | none => rw [h2] at hu; cases hu
        | some y =>
          rw [h2] at hu
          obtain rfl := Option.some.inj hu
          have := heap_cell hh (off + j)
          rw [hc j y h2] at this
          rw [Addr.add_lit]; exact this) a 1 c [.int .i64 x] rfl hnews (by omega) (by simp only [maxLen]; omega) (by omega)
    refine ⟨v', w', hrun, ?_, (Fr.of_grown hg).mono fun k _ hk => by cases hk⟩
    obtain ⟨h1, ⟨_, h2⟩ | ⟨g, cap', cur', rfl, h2, h3, h4, h5, h6, h7⟩⟩ := ho
    · omega
    refine ⟨g, 0, cap', cur', by rw [List.length_append]; rfl, Nat.le_trans hbase h2, h3, by simpa using h4, h5, by rw [h6]; omega, fun j y hj => ?_⟩
    have h8 : (q.map (fun n : Nat => Value.int .i64 (n : Int)) ++ [.int .i64 (x : Int)])[j]? = some (.int .i64 (y : Int)) := by
      have : q.map (fun n : Nat => Value.int .i64 (n : Int)) ++ [.int .i64 (x : Int)] = (q ++ [x]).map fun n : Nat => Value.int .i64 (n : Int) := by simp
      rw [this, List.getElem?_map, hj]; rfl
    rw [← h7] at h8
    have h9 := List.getElem?_eq_some_iff.1 h8
    rw [Nat.zero_add]
    rw [List.getElem?_take] at h8
    split at h8
    · simpa using h8
    · cases h8
theorem QAt.block {w' : World} {S : Nat → Prop} (h : QAt w base v q) (hF : Fr S w w') (hS : ∀ k, S k → v.ownBlock ≠ some k) : QAt w' base v q := by
  obtain ⟨b, off, cap, cur, rfl, hb, hh, hr⟩ := h
  refine ⟨b, off, cap, cur, rfl, hb, ?_, hr⟩
  rw [hF.block b (Array.getElem?_eq_some_iff.1 hh).1 fun h2 => hS b h2 rfl]; exact hh
/-- 's[i:]' of a row that begins inside its block. -/
theorem run_slice_from_at {P : Program} {t e : TypeId} {size : Nat} (ht : P.underlying t = some (.slice e)) (hs : (P.info? e).map (·.size) = some size) {g o n cap i : Nat} (h1 : i ≤ n) (w : World) :
    (Instr.slice t (.slice (some ⟨g, o, none⟩) n cap) (some (.int .i64 (i : Int))) none none).run P w = .ok (.slice (some ⟨g, (if cap = i then o else o + i * size), none⟩) (n - i) (cap - i)) w := by
  obtain ⟨i', hi', hz⟩ := Option.map_eq_some_iff.1 hs
  have e2 := fun code w => bound_in (P := P) (k := .i64) (x := (i : Int)) (z := i) (y := n) (code := code) (w := w) rfl h1
  simp [Instr.slice, Instr.sliceBounds, run_underlying ht, e2, sizeOf, typeInfo, hi', hz]
  split <;> simp [Addr.add_lit]
set_option maxRecDepth 100000 in
theorem QAt.pop {y : Nat} (h : QAt w base v (y :: q)) :
    ∃ v', (Instr.slice 96 v (some (.int .i64 1)) none none).run Try.prog w = .ok v' w ∧ QAt w base v' q ∧ v'.ownBlock = v.ownBlock := by
  obtain ⟨b, off, cap, cur, rfl, hb, hh, hle, hmax, hsz, hc⟩ := h
  rw [List.length_cons] at hle
  refine ⟨_, run_slice_from_at (P := Try.prog) (t := 96) (e := 3) (size := 1) (i := 1) rfl rfl (by simp) w, ⟨b, _, cap - 1, cur, by rw [List.length_cons, Nat.add_sub_cancel], hb, hh, by omega, by omega, by split <;> omega, fun j x hj => ?_⟩, rfl⟩
  have hl : j < q.length := (List.getElem?_eq_some_iff.1 hj).1
  rw [if_neg (by omega)]
  have := hc (j + 1) x (by rw [List.getElem?_cons_succ]; exact hj)
  rw [show off + 1 * 1 + j = off + (j + 1) by omega]
  exact this
/-- The first of them. -/
theorem QAt.head {y : Nat} (h : QAt w base v (y :: q)) : ∃ b off cap, v = .slice (some ⟨b, off, none⟩) (q.length + 1) cap ∧ base ≤ b ∧ w.cell? ⟨b, off, none⟩ = some (.int .i64 (y : Int)) := by
  obtain ⟨b, off, cap, cur, rfl, hb, hh, _, _, _, hc⟩ := h
  refine ⟨b, off, cap, by rw [List.length_cons], hb, ?_⟩
  rw [heap_cell hh]; exact hc 0 y rfl
theorem QAt.start (w : World) {base : Nat} (f : Nat) (hb : base ≤ w.heap.size) : QAt (w.alloc (.cells #[.int .i64 (f : Int)] 3)) base (.slice (some ⟨w.heap.size, 0, none⟩) 1 1) [f] := by
  refine ⟨w.heap.size, 0, 1, #[.int .i64 (f : Int)], rfl, hb, by show (w.heap.push _)[w.heap.size]? = _; exact Array.getElem?_push_size, by simp, by decide, by simp, fun j x hj => ?_⟩
  cases j with
  | zero => simp at hj; subst hj; rfl
  | succ j => simp at hj
/-- The row of what has been seen. -/
def SAt (w : World) (g : Nat) (s : List Bool) : Prop := w.heap[g]? = some (.cells (s.map Value.bool).toArray 4 (0, 0))
theorem SAt.start {n g : Nat} (h : w.heap[g]? = some (.cells (rowV n fun _ => .bool false) 4 (0, 0))) : SAt w g (List.replicate n false) := by
  unfold SAt
  rw [h]
  refine congrArg (fun c => some (Obj.cells c 4 (0, 0))) ?_
  unfold rowV
  rw [List.map_replicate, List.map_const', List.length_range]
theorem SAt.get {g : Nat} {s : List Bool} (h : SAt w g s) {j : Nat} {c : Bool} (hc : s[j]? = some c) : w.cell? ⟨g, j, none⟩ = some (.bool c) := by
  rw [heap_cell h, List.getElem?_toArray, List.getElem?_map, hc]; rfl
theorem SAt.set {g : Nat} {s : List Bool} (h : SAt w g s) (j : Nat) (c : Bool) : SAt (w.setCell ⟨g, j, none⟩ (.bool c)) g (s.set j c) := by
  have h' : w.heap[g]? = some (.cells (s.map Value.bool).toArray 4 (0, 0)) := h
  unfold SAt
  simp only [World.setCell, Array.getElem?_modify, if_true, h']
  simp [List.map_set]
theorem SAt.block {w' : World} {S : Nat → Prop} {g : Nat} {s : List Bool} (h : SAt w g s) (hF : Fr S w w') (hS : ¬ S g) : SAt w' g s := by
  unfold SAt at h ⊢
  rw [hF.block g (Array.getElem?_eq_some_iff.1 h).1 hS]; exact h
set_option maxRecDepth 100000 in
/-- What has been seen is laid. -/
theorem run_seen (n : Nat) (hn : n ≤ 100000) : (Instr.makeSlice 74 (.int .i64 n) (.int .i64 n)).run Try.prog w = .ok (.slice (some ⟨w.heap.size, 0, none⟩) n n) (w.alloc (.cells (rowV n fun _ => .bool false) 4)) := by
  obtain ⟨i, hi0, hi1, hi2, hi3⟩ := info_parts (P := Try.prog) (e := 4) (z := .bool false) (size := 1) (bytes := 1) rfl
  have hm : (i.bytes : Int) * (n : Int) ≤ 281474976710656 := by rw [hi3]; omega
  rw [run_make w 74 4 i (.bool false) rfl hi0 hi1 .i64 .i64 n n (by omega) (Int.le_refl _) hm (by omega)]
  rw [show ((n : Int)).toNat = n from rfl, hi2, Nat.mul_one, show (Value.bool false).cells = #[.bool false] from rfl, rowV_made]
theorem SAt.alloc (w : World) (n : Nat) : SAt (w.alloc (.cells (rowV n fun _ => .bool false) 4)) w.heap.size (List.replicate n false) :=
  SAt.start (by show (w.heap.push _)[w.heap.size]? = _; exact Array.getElem?_push_size)
end
end Go.Proofs.Ytnemaolbmocncaa
