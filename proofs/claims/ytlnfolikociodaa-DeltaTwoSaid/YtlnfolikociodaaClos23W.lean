/- The walk of Compose's closure. -/
import Derived.Test.YtlnfolikociodaaClosW
import Derived.Test.YtlnfolikociodaaU64
namespace Go.Proofs.Ytlnfolikociodaa
open Go.RowKit
set_option linter.unusedSimpArgs false
set_option maxRecDepth 100000 in
set_option maxHeartbeats 1000000 in
theorem clos23 (a : Nat) (s : ByteArray) (g c : Nat) (b : Nat → BitVec 8) (m : BitVec 64) (w : World) (hb : Blk w g (row 64 b) 23) (hc : Blk w c #[.int .u64 (X m)] 49) (hne : g ≠ c) (h1 : 1 ≤ s.size) (h : a + s.size ≤ 64) :
    Calls Try.prog 23 #[.int .i64 a, .string s, .pointer (some ⟨g, 0, none⟩), .pointer (some ⟨c, 0, none⟩)] w fun e w' => e = .returned (.tuple #[]) ∧ w' = ((w.setRow g (row 64 (put b (a, bl s)))).setRow c #[.int .u64 (X (m ||| ones a s.size))]).drew := by
  have hsl := fun w' => run_slice_l (P := Try.prog) Try.underlying23 size5 (b := g) (lo := a) (kl := .i64) (L := (a : Int)) rfl (by omega) w'
  have hcp := run_copy_put (dT := 42) (sT := 9) (ty := 3) (n := 64 - a) Try.underlying42 size5 hb h
  have hc' : Blk (w.setRow g (row 64 (put b (a, bl s)))) c #[.int .u64 (X m)] 49 := hc.setRow_other (Ne.symm hne) _
  have c1 : (w.setRow g (row 64 (put b (a, bl s)))).cell? ⟨c, 0, none⟩ = some (.int .u64 (X m)) := by rw [hc'.cell]; rfl
  have g1 := hc'.free 0
  go_enter Try.func23, Try.ntmps23
  have ho := ones_val h1 h
  have hx := X_or m (ones a s.size)
  go_wp2
  generalize hW : w.setRow g (row 64 (put b (a, bl s))) = W at *
  replace hW := hid hW
  go_still_tail 8, (by kernel_rfl)
  go_wp2
  go_end0
  refine ⟨rfl, ?_⟩
  rw [hW.out, hc'.setCell]
  rfl
end Go.Proofs.Ytlnfolikociodaa
