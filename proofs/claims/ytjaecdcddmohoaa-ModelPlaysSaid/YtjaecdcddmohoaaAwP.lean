/- Plain facts: what replies are; the fixed run at the statements' heads. -/
import Derived.Test.YtjaecdcddmohoaaSesW
namespace Go.Proofs.Ytjaecdcddmohoaa.P
open Go.Proofs.Ytjaecdcddmohoaa
theorem pick_cons (v : Vr) (l : List Vr) (ts : Nat) (u : Vr) : pick (v :: l) ts u = pick l ts (if v.ts ≤ ts then v else u) := rfl
theorem pick_mem (l : List Vr) (ts : Nat) (v : Vr) : pick l ts v = v ∨ (pick l ts v ∈ l ∧ (pick l ts v).ts ≤ ts) := by
  induction l generalizing v with
  | nil => exact .inl rfl
  | cons x l ih =>
    rw [pick_cons]
    by_cases h : x.ts ≤ ts
    · rw [if_pos h]
      rcases ih x with e | ⟨e, e2⟩
      · exact .inr ⟨by rw [e]; exact List.mem_cons_self, by rw [e]; exact h⟩
      · exact .inr ⟨List.mem_cons_of_mem _ e, e2⟩
    · rw [if_neg h]
      rcases ih v with e | ⟨e, e2⟩
      · exact .inl e
      · exact .inr ⟨List.mem_cons_of_mem _ e, e2⟩
theorem at_le {M : Md} {k : Nat} (ok : Ok M k) (p : Int) (ts : Nat) : (at' M p ts).ts ≤ M.last := by
  unfold at'
  rcases pick_mem (M.old p) ts ⟨0, zb⟩ with e | ⟨e, _⟩
  · rw [e]; exact Nat.zero_le _
  · exact ok.ver p _ e
/-- What a reply's numbers are. -/
structure RpB (M : Md) (r : Rp) : Prop where
  e : 0 ≤ r.e ∧ r.e ≤ 12
  txn : 0 ≤ r.txn ∧ r.txn ≤ M.count + 1
  ts : r.ts ≤ M.max
theorem rpb_err {M : Md} {e : Int} (h : 0 ≤ e ∧ e ≤ 12) : RpB M (err e) := ⟨h, ⟨Int.le_refl _, by show (0 : Int) ≤ _; omega⟩, Nat.zero_le _⟩
theorem rpb_ok {M : Md} {t : Nat} {b : Bd} (h : t ≤ M.max) : RpB M (ok t b) := ⟨by simp [P.ok], ⟨Int.le_refl _, by show (0 : Int) ≤ _; omega⟩, h⟩
theorem rpb_com {M : Md} {k : Nat} (ok : Ok M k) {t : Tx} (ht : t.start ≤ M.last) : RpB M (com M t).2 := by
  have := ok.lm
  unfold com
  split
  · exact rpb_ok (by omega)
  · split
    · exact rpb_err (by omega)
    · split
      · exact rpb_err (by omega)
      · rename_i h _
        exact rpb_ok (by omega)
theorem rpb_step {M : Md} {k : Nat} (ok : Ok M k) (c : Cl) : RpB M (step M c).2 := by
  have hl := ok.lm
  unfold step
  split
  · exact rpb_err (by omega)
  · split
    · split
      · exact rpb_err (by omega)
      · exact ⟨by simp, ⟨by show (0 : Int) ≤ M.count + 1; omega, Int.le_refl _⟩, hl⟩
    · split
      · unfold of
        split
        · exact rpb_err (by omega)
        · split
          · exact rpb_err (by omega)
          · rename_i t ht
            have hs := ok.start _ (get_mem ht)
            have hs' : t.start ≤ M.last := hs
            split
            · show RpB M (match get t.now c.page with | some b => P.ok t.start b | none => P.ok (at' M c.page t.start).ts (at' M c.page t.start).b)
              split
              · exact rpb_ok (by omega)
              · exact rpb_ok (by have := at_le ok c.page t.start; omega)
            · split
              · split
                · exact rpb_ok (Nat.zero_le _)
                · split
                  · exact rpb_err (by omega)
                  · exact rpb_ok (Nat.zero_le _)
              · split
                · exact rpb_ok (Nat.zero_le _)
                · have := rpb_com (ok_del ok c.txn) (t := t) hs'
                  exact ⟨this.e, this.txn, this.ts⟩
      · split
        · exact rpb_ok (Nat.zero_le _)
        · split
          · exact rpb_ok (Nat.zero_le _)
          · exact rpb_err (by omega)
def es : ByteArray := ⟨#[]⟩
def cB : Cl := ⟨0, 0, 0, 0, es⟩
def cW : Cl := ⟨2, 1, 2, 1, ⟨#[120]⟩⟩
def cC : Cl := ⟨3, 1, 0, 0, es⟩
def A1 : Md := ⟨3, 0, 9, 1, fun _ => [], [(1, ⟨0, []⟩)], false⟩
def xb : Bd := cpy zb 1 ⟨#[120]⟩
def A2 : Md := ⟨3, 0, 9, 1, fun _ => [], [(1, ⟨0, [(2, xb)]⟩)], false⟩
def A3 : Md := ⟨3, 1, 9, 1, fun p => if p = 2 then [⟨1, xb⟩] else [], [], false⟩
theorem aw1 : step (new 3 9) cB = (A1, ⟨0, 1, 0, zb⟩) := by
  simp [step, new, cB, A1, put]
theorem aw2 : step A1 cW = (A2, ok 0 zb) := by
  unfold step of
  rw [if_neg (by simp [A1]), if_neg (by simp [cW]), if_pos (by simp [cW]), if_neg (by
    rintro (⟨_, h⟩ | ⟨_, h | h | h⟩)
    · simp [A1, cW] at h
    · simp [cW] at h
    · simp [cW] at h
    · exact absurd h (by decide))]
  simp [A1, cW, get, at', pick, wr, put, A2, xb]
theorem aw3 : step A2 cC = (A3, ok 1 zb) := by
  unfold step of
  rw [if_neg (by simp [A2]), if_neg (by simp [cC]), if_pos (by simp [cC]), if_neg (by
    rintro (⟨h | h, _⟩ | ⟨h, _⟩) <;> simp [cC] at h)]
  simp [A2, cC, get, at', pick, com, del, A3]
  funext p
  by_cases h : p = 2
  · subst h; simp
  · rw [if_neg h, if_neg (fun e => h e.symm)]
theorem aw4 : at' A3 2 1 = ⟨1, xb⟩ := rfl
theorem aw5 : bv (xb 1) = .int .u8 120 := rfl
end Go.Proofs.Ytjaecdcddmohoaa.P
namespace Go.Proofs.Ytjaecdcddmohoaa
theorem wf_i64 {x : Int} (h : 0 ≤ x ∧ x ≤ 12) : (Lit.int .i64 x).wf = true := by
  simp [Lit.wf, IntKind.min, IntKind.max, IntKind.bits, IntKind.signed]; omega
theorem wf_u64' {x : Int} (h : 0 ≤ x ∧ x ≤ 100000) : (Lit.int .u64 x).wf = true := by
  simp [Lit.wf, IntKind.min, IntKind.max, IntKind.bits, IntKind.signed]; omega
theorem wf_u32 {x : Nat} (h : x < 4294967296) : (Lit.int .u32 (x : Int)).wf = true := by
  simp [Lit.wf, IntKind.min, IntKind.max, IntKind.bits, IntKind.signed]; omega
theorem RpOk.of {M : P.Md} {k : Nat} {r : P.Rp} (ok : P.Ok M k) (hk : k ≤ 1000) (h : P.RpB M r) : RpOk r :=
  ⟨wf_i64 h.e, wf_u64' ⟨h.txn.1, by have := h.txn.2; have := ok.cnt; omega⟩, wf_u32 (by have := h.ts; have := ok.mx; omega)⟩
theorem RpOk.err {e : Int} (h : 0 ≤ e ∧ e ≤ 12) : RpOk (P.err e) := ⟨wf_i64 h, wf_u64' ⟨by simp [P.err], by simp [P.err]⟩, wf_u32 (by simp [P.err])⟩
end Go.Proofs.Ytjaecdcddmohoaa
