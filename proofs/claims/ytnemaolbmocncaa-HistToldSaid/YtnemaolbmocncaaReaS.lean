/- The state of reach in its loops: what has been seen, and the list, over the world at the start. -/
import Derived.Test.YtnemaolbmocncaaReaQ
namespace Go.Proofs.Ytnemaolbmocncaa
open Go.RowKit
structure RS (w0 : World) (g : Nat) (s : List Bool) (v : Value) (q : List Nat) (W : World) : Prop where
  below : Below w0.heap.size w0 W
  ge : w0.heap.size ≤ g
  seen : SAt W g s
  list : QAt W (g + 1) v q
section
variable {w0 W W' : World} {g : Nat} {s : List Bool} {v : Value} {q : List Nat}
theorem SAt.lt (h : SAt W g s) : g < W.heap.size := by
  unfold SAt at h
  exact (Array.getElem?_eq_some_iff.1 h).1
theorem QAt.own {base k : Nat} (h : QAt W base v q) (e : v.ownBlock = some k) : base ≤ k := by
  obtain ⟨b, off, cap, cur, rfl, hb, _⟩ := h
  obtain rfl := Option.some.inj e
  exact hb
theorem Below.of_fr {S : Nat → Prop} {B : Nat} (h : Fr S W W') (hB : B ≤ W.heap.size) (hS : ∀ k, S k → B ≤ k) : Below B W W' :=
  ⟨h.os, h.tape, h.output, h.size, fun k hk => h.block k (Nat.lt_of_lt_of_le hk hB) fun h2 => by have := hS k h2; omega⟩
theorem RS.call (h : RS w0 g s v q W) (hB : Below W.heap.size W W') : RS w0 g s v q W' := by
  have hF := Fr.of_below hB fun _ => False
  exact ⟨h.below.trans (Below.of_fr hF h.below.size fun _ e => e.elim), h.ge, h.seen.block hF id, h.list.block hF fun _ e => e.elim⟩
theorem RS.alloc (h : RS w0 g s v q W) (o : Obj) : RS w0 g s v q (W.alloc o) := by
  have hF := (Fr.refl (fun _ => False) W).alloc o
  exact ⟨h.below.trans (Below.of_fr hF h.below.size fun _ e => e.elim), h.ge, h.seen.block hF id, h.list.block hF fun _ e => e.elim⟩
theorem RS.put (h : RS w0 g s v q W) (j : Nat) : RS w0 g (s.set j true) v q (W.setCell ⟨g, j, none⟩ (.bool true)) := by
  have hF := (Fr.refl (fun k => k = g) W).setCell ⟨g, j, none⟩ (.bool true) fun _ => rfl
  exact ⟨h.below.trans (Below.of_fr hF h.below.size fun _ e => e ▸ h.ge), h.ge, h.seen.set j true, h.list.block hF fun k e e2 => by have := h.list.own e2; omega⟩
theorem RS.push (h : RS w0 g s v q W) (hq : q.length + 1 ≤ 100000) (a : Addr) (c x : Nat) (ha : W.cell? a = some (.int .i64 (x : Int))) (ha2 : a.add 0 = a) :
    ∃ v' w', (Builtin.append_ #[96, 96] 96 #[v, .slice (some a) 1 c]).run Try.prog W = .ok v' w' ∧ RS w0 g s v' (q ++ [x]) w' := by
  obtain ⟨v', w', h1, h2, h3⟩ := h.list.push hq h.seen.lt a c x ha ha2
  exact ⟨v', w', h1, h.below.trans (Below.of_fr h3 h.below.size fun k hk => by have := h.ge; omega), h.ge, h.seen.block h3 (by omega), h2⟩
/-- What is still ahead, read from the world and the list. -/
def isF : Value → Bool
  | .bool false => true
  | _ => false
def cntF (W : World) (g : Nat) : Nat := match W.heap[g]? with
  | some (.cells c _ _) => c.toList.countP isF
  | _ => 0
def lenV : Value → Nat
  | .slice _ n _ => n
  | _ => 0
theorem SAt.cnt (h : SAt W g s) : cntF W g = s.count false := by
  unfold SAt at h
  unfold cntF
  rw [h]
  show ((s.map Value.bool).toArray.toList).countP isF = s.count false
  rw [List.countP_map]
  unfold List.count
  refine List.countP_congr fun c _ => ?_
  cases c <;> simp [isF]
theorem QAt.len {base : Nat} (h : QAt W base v q) : lenV v = q.length := by
  obtain ⟨b, off, cap, cur, rfl, _⟩ := h
  rfl
end
end Go.Proofs.Ytnemaolbmocncaa
