/- The machine's answers: how they count, and how great they are; calls as arguments. -/
import Derived.Test.YtnemaolbmocncaaMLaw2
import Derived.Test.YtnemaolbmocncaaMdDo
namespace Go.Proofs.Ytnemaolbmocncaa.P
open Go.Proofs.Ytnemaolbmocncaa
section
variable {M : Md} {B : List ((Int × Int) × Nat)} {L : List Pst} {m : Nat}
theorem com_count (M : Md) (T : Tx) : (com M T).1.count = M.count := by
  unfold com
  split
  · rfl
  · split
    · rfl
    · split <;> rfl
theorem of_count (M : Md) (c : Cl) : (of M c).1.count = M.count := by
  unfold of
  split
  · rfl
  · split
    · rfl
    · split
      · rfl
      · split
        · split
          · rfl
          · split <;> rfl
        · split
          · rfl
          · exact com_count _ _
theorem step_count' (M : Md) (c : Cl) (h0 : c.kind ≠ 0) : (step M c).1.count = M.count := by
  unfold step
  split
  · rfl
  · split
    · exact of_count M c
    · split
      · rfl
      · split <;> rfl
theorem step_count (M : Md) (c : Cl) : (step M c).1.count = if (step M c).2.e = 0 ∧ c.kind = 0 then M.count + 1 else M.count := by
  by_cases h0 : c.kind = 0
  · by_cases hs : M.shut = true
    · have e : step M c = (M, err 12) := by unfold step; rw [if_pos hs]
      rw [e, if_neg (fun h => absurd h.1 (by show (12 : Int) ≠ 0; decide))]
    · by_cases h8 : M.live.length = 8
      · have e : step M c = (M, err 10) := by unfold step; rw [if_neg hs, if_pos h0, if_pos h8]
        rw [e, if_neg (fun h => absurd h.1 (by show (10 : Int) ≠ 0; decide))]
      · have e : step M c = ({ M with count := M.count + 1, live := put M.live (M.count + 1) ⟨M.last, []⟩ }, ⟨0, M.count + 1, M.last, zb⟩) := by unfold step; rw [if_neg hs, if_pos h0, if_neg h8]
        rw [e, if_pos ⟨rfl, h0⟩]
  · rw [step_count' M c h0, if_neg (fun h => h0 h.2)]
theorem com_max (M : Md) (T : Tx) : (com M T).1.max = M.max := by
  unfold com
  split
  · rfl
  · split
    · rfl
    · split <;> rfl
theorem of_max (M : Md) (c : Cl) : (of M c).1.max = M.max := by
  unfold of
  split
  · rfl
  · split
    · rfl
    · split
      · rfl
      · split
        · split
          · rfl
          · split <;> rfl
        · split
          · rfl
          · exact com_max _ _
theorem step_max (M : Md) (c : Cl) : (step M c).1.max = M.max := by
  unfold step
  split
  · rfl
  · split
    · split <;> rfl
    · split
      · exact of_max M c
      · split
        · rfl
        · split <;> rfl
/-- How great an answer is. -/
theorem com_rep (M : Md) (T : Tx) (hs : T.start ≤ M.last) : (com M T).2.ts ≤ M.last + 1 ∧ (com M T).2.txn = 0 := by
  unfold com
  split
  · exact ⟨Nat.le_succ_of_le hs, rfl⟩
  · split
    · exact ⟨Nat.zero_le _, rfl⟩
    · split
      · exact ⟨Nat.zero_le _, rfl⟩
      · exact ⟨Nat.le_refl _, rfl⟩
theorem J.rep (h : J M B L) (hst : ∀ x ∈ M.live, x.2.start ≤ M.last) (c : Cl) : (P.step M c).2.ts ≤ M.last + 1 ∧ 0 ≤ (P.step M c).2.txn ∧ (P.step M c).2.txn ≤ M.count + 1 := by
  have z : ∀ (x : Nat), x ≤ M.last + 1 → x ≤ M.last + 1 ∧ (0 : Int) ≤ 0 ∧ (0 : Int) ≤ M.count + 1 := fun x hx => ⟨hx, Int.le_refl _, by omega⟩
  unfold P.step
  split
  · exact z 0 (Nat.zero_le _)
  · split
    · split
      · exact z 0 (Nat.zero_le _)
      · exact ⟨Nat.le_succ _, by show (0 : Int) ≤ (M.count : Int) + 1; omega, Int.le_refl _⟩
    · split
      · unfold P.of
        split
        · exact z 0 (Nat.zero_le _)
        · split
          · exact z 0 (Nat.zero_le _)
          · rename_i T hT
            have hTs : T.start ≤ M.last := hst _ (get_mem hT)
            split
            · split
              · exact z _ (Nat.le_succ_of_le hTs)
              · have := (h.rdok c.page hTs).lo.2
                exact z _ (by
                  have h2 : ((at' M c.page T.start).ts : Int) ≤ T.start := this
                  show (at' M c.page T.start).ts ≤ M.last + 1
                  omega)
            · split
              · split
                · exact z 0 (Nat.zero_le _)
                · split
                  · exact z 0 (Nat.zero_le _)
                  · exact z 0 (Nat.zero_le _)
              · split
                · exact z 0 (Nat.zero_le _)
                · obtain ⟨h1, h2⟩ := com_rep { M with live := Go.Proofs.Ytnemaolbmocncaa.del M.live c.txn } T hTs
                  exact ⟨h1, by rw [h2]; exact Int.le_refl _, by rw [h2]; omega⟩
      · split
        · exact z 0 (Nat.zero_le _)
        · split
          · exact z 0 (Nat.zero_le _)
          · exact z 0 (Nat.zero_le _)
end
end Go.Proofs.Ytnemaolbmocncaa.P
namespace Go.Proofs.Ytnemaolbmocncaa
open Go.RowKit Go.WideShapes Go.Deep Go.ChangeShapes
set_option linter.unusedSimpArgs false
set_option linter.unusedVariables false
def clL (c : P.Cl) : List Value := [.int .u8 c.kind, .int .u64 c.txn, .int .u16 c.page, .int .i64 c.off, .string c.s]
theorem size59' (c : P.Cl) : (Try.prog.info? 59).map (·.size) = some (clL c).length := by kernel_rfl
theorem wf64 {x : Int} (h : wU64 x) : 0 ≤ x := by
  unfold wU64 at h
  simp [Lit.wf, IntKind.min, IntKind.max, IntKind.bits, IntKind.signed] at h; omega
instance : Inhabited P.Cl := ⟨⟨0, 0, 0, 0, ⟨#[]⟩⟩⟩
section
variable {H : Type} {enc : TypeId × Value → H} {w : World}
theorem call_cells {fuel : Nat} {cs : List Value} {x : DataW H × List MemPlace} (h : DataW.trod enc Try.prog w 0 (fun _ => true) true fuel 59 cs = some x) :
    ∃ c : P.Cl, cs = clL c ∧ ClOk c ∧ wU64 c.txn := by
  have c59 : Try.prog.cellsOf 59 = 5 := by kernel_rfl
  have c5 : Try.prog.cellsOf 5 = 1 := by kernel_rfl
  have c52 : Try.prog.cellsOf 52 = 1 := by kernel_rfl
  have c3 : Try.prog.cellsOf 3 = 1 := by kernel_rfl
  have c9 : Try.prog.cellsOf 9 = 1 := by kernel_rfl
  obtain ⟨y0, y1, y2, y3, y4, n, hl, h0, h1, h2, h3, h4⟩ := trod_struct5 Try.underlying59 h
  rw [c59] at hl
  obtain ⟨v0, v1, v2, v3, v4, rfl⟩ := list5 hl
  simp [c5, c52, cells41, c3, c9] at h0 h1 h2 h3 h4
  obtain ⟨k, hk, _, wk⟩ := DataW.trod_int Try.underlying5 h0
  obtain ⟨t, ht, _, wt⟩ := DataW.trod_int Try.underlying52 h1
  obtain ⟨p, hp, _, wp⟩ := DataW.trod_int Try.underlying41 h2
  obtain ⟨o, ho, _, wo⟩ := DataW.trod_int Try.underlying3 h3
  obtain ⟨s, hs, _, ws⟩ := DataW.trod_string Try.underlying9 h4
  simp at hk ht hp ho hs
  exact ⟨⟨k, t, p, o, s⟩, by rw [hk, ht, hp, ho, hs]; rfl, ⟨wf_u8 wk, wf_u16 wp, wf64 wt, wo, ws⟩, wt⟩
theorem open_calls {r : Reach} {b0 : Nat} {v : Value} {d : DataW H} {p : List MemPlace} (hv : Value.okWide Try.prog w r b0 49 v) (h : DataW.Trod enc Try.prog w 0 (fun _ => true) true 49 v d p) :
    ∃ ao cap, ∃ C : List P.Cl, v = .slice ao C.length cap ∧ (RowAt w ao 5 clL C ∧ ∀ c ∈ C, ClOk c ∧ wU64 c.txn) ∧ (C.length ≤ cap ∧ (ao = none → cap = 0)) ∧ C.length ≤ maxLen := by
  obtain ⟨ao, n, cap, rfl⟩ := okWide_slice Try.underlying49 hv
  obtain ⟨fuel, hf⟩ := h
  obtain ⟨ao', cap', C, hc, hr, hok, hcap, hm⟩ := open_rows Try.underlying49 (show Try.prog.cellsOf 59 = 5 by kernel_rfl) (by decide) clL (fun c => ClOk c ∧ wU64 c.txn) (fun _ => rfl) call_cells hf
  have hc' : Value.slice ao n cap = .slice ao' C.length cap' := by simpa [Value.cells] using hc
  exact ⟨ao', cap', C, hc', ⟨hr, hok⟩, hcap, hm⟩
end
/-! ### What is told of a call -/
def trOf (c : P.Cl) (r : P.Rp) (i : Nat) : Tr := ⟨.int .i64 0, P.tdOf c r, .int .i64 c.off, .string c.s, .int .i64 i, .int .i64 i, fun j => bv (r.b j)⟩
theorem b61 (c : P.Cl) (r : P.Rp) (i : Nat) : Try.prog.built 61 [(1, .agg (clA c)), (3, .int .i64 i), (4, .int .i64 i), (6, .agg (rpA r))] = some (tdL (trOf c r i)).toArray := by kernel_rfl
theorem fill61 (x : Tr) : Instr.fill (fun i => some (i * 77, 77)) ((Array.range (1 * 77)).map ((Value.agg (tdA noT)).cells[· % (Value.agg (tdA noT)).cells.size]!)) [(0, .agg (tdL x).toArray)] = some (tdL x).toArray := by kernel_rfl
theorem info61m : (Try.prog.info? 61).map (fun i => (i.zero, i.size, i.bytes)) = some (some (.agg (tdA noT)), 77, 176) := by kernel_rfl
theorem w64 {x : Int} (h : 0 ≤ x ∧ x ≤ 1000000) : wU64 x := by unfold wU64; simp [Lit.wf, IntKind.min, IntKind.max, IntKind.bits, IntKind.signed]; omega
theorem w32m {x : Int} (h : 0 ≤ x ∧ x ≤ 4000000000) : wU32 x := by unfold wU32; simp [Lit.wf, IntKind.min, IntKind.max, IntKind.bits, IntKind.signed]; omega
theorem w16' {x : Int} (h : 0 ≤ x ∧ x ≤ 65535) : wU16 x := by unfold wU16; simp [Lit.wf, IntKind.min, IntKind.max, IntKind.bits, IntKind.signed]; omega
theorem trOf_ok {c : P.Cl} {r : P.Rp} (i : Nat) (hc : ClOk c) (ht : wU64 c.txn) (h1 : 0 ≤ r.txn ∧ r.txn ≤ 1000000) (h2 : (r.ts : Int) ≤ 4000000000) : TrOk (trOf c r i) where
  one := fun u hu => by
    unfold tdL trOf at hu
    simp only [List.mem_cons, List.mem_map] at hu
    rcases hu with rfl | rfl | rfl | rfl | rfl | rfl | rfl | rfl | rfl | rfl | rfl | rfl | rfl | ⟨j, _, rfl⟩
    all_goals rfl
  txn := ht
  page := w16' hc.page
  life := by show (Lit.int .i64 0).wf = true; decide
  rtxn := w64 h1
  rts := w32m ⟨by show (0 : Int) ≤ (r.ts : Int); omega, h2⟩
end Go.Proofs.Ytnemaolbmocncaa
