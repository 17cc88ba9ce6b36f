/- The walks of New, Last and At. -/
import Derived.Test.YtnemaolbmocncaaMdMem
namespace Go.Proofs.Ytnemaolbmocncaa
open Go.RowKit
set_option linter.unusedSimpArgs false
set_option linter.unusedVariables false
theorem new_out (w : World) (p x : Int) (hp : p < 1 ∨ 16 < p) : Calls Try.prog 17 #[.int .i64 p, .int .u32 x] w fun e w' => e = .returned (.pointer none) ∧ w = w' := by
  rcases hp with hp | hp
  · go_enter Try.func17, Try.ntmps17
    go_wp2_with fail
    go_ret
    exact ⟨rfl, rfl⟩
  · have h1 : ¬ p < 1 := by omega
    have h2 : 1 ≤ p := by omega
    go_enter Try.func17, Try.ntmps17
    go_wp2_with fail
    go_ret
    exact ⟨rfl, rfl⟩
theorem new_in (w : World) (p : Int) (x : Nat) (hp : 1 ≤ p ∧ p ≤ 16) : Calls Try.prog 17 #[.int .i64 p, .int .u32 x] w fun e w' => ∃ m : MW, e = .returned (.pointer (some ⟨m.c, 0, none⟩)) ∧ MS w.heap.size w' m (P.new p x) ∧ Below w.heap.size w w' := by
  have h1 : ¬ p < 1 := by omega
  have h2 : 1 ≤ p := hp.1
  have h3 : ¬ 16 < p := by omega
  have h4 : p ≤ 16 := hp.2
  clear hp
  have hmm := @run_makeMap Try.prog
  go_enter Try.func17, Try.ntmps17
  go_wp2_with fail
  go_ret
  have e1 : (w.alloc (.map #[] 0)).heap.size = w.heap.size + 1 := by simp
  have e2 : ((w.alloc (.map #[] 0)).alloc (.map #[] 0)).heap.size = w.heap.size + 1 + 1 := by simp
  have k1 := MapAt.made w .u16
  have k2 := MapAt.made (w.alloc (.map #[] 0)) .u64
  have k3 := Blk.alloc_new ((w.alloc (.map #[] 0)).alloc (.map #[] 0)) #[.int .i64 p, .int .u32 0, .int .u32 x, .int .u64 0, .map (some w.heap.size), .map (some (w.heap.size + 1)), .bool false] 90
  rw [e1] at k2
  rw [e2] at k3
  have al : ∀ (w : World) o, Fr (fun _ => False) w (w.alloc o) := fun w o => (Fr.refl _ _).alloc o
  refine ⟨⟨w.heap.size + 1 + 1, w.heap.size, w.heap.size + 1, [], []⟩, ?_, ⟨k3, (k1.fr (al _ _) id).fr (al _ _) id, fun x hx => (by cases hx), fun p => rfl, k2.fr (al _ _) id, rfl, fun x hx => (by cases hx), ?_, ?_⟩, ?_⟩
  · simp
  · intro lb lb' b h1 h2
    cases lb <;> cases lb' <;> simp [MW.at] at h1 h2 <;> first | rfl | omega
  · intro lb b hb
    cases lb <;> simp [MW.at] at hb <;> omega
  · exact (((Below.refl _ _).alloc (Nat.le_refl _) _).alloc (by simp) _).alloc (by simp; omega) _
/-- At, at work: the block of the answer, the block of the choice so far. -/
structure AtS (w wr : World) (v : P.Vr) : Prop where
  below : Below w.heap.size w wr
  a : Blk wr w.heap.size (verA ⟨0, P.zb⟩) 99
  b : Blk wr (w.heap.size + 1) (verA v) 99
theorem AtS.skip {w wr w9 : World} {u : P.Vr} {o : Obj} (h : AtS w wr u) (hF9 : Fr (fun i => i = wr.heap.size) (wr.alloc o) w9) : AtS w w9 u := by
  have k : Fr (fun _ => False) wr w9 := ((Fr.refl (fun _ => False) wr).alloc o).trans hF9 fun i hi e => by omega
  exact ⟨h.below.trans ((Fr.none k).mono h.below.size), h.a.fr k id, h.b.fr k id⟩
theorem AtS.next {w wr w9 w8 : World} {u x : P.Vr} {o : Obj} (h : AtS w wr u) (hF9 : Fr (fun i => i = wr.heap.size) (wr.alloc o) w9) (hF8 : Fr (fun i => i = w.heap.size + 1) w9 w8) (hB8 : Blk w8 (w.heap.size + 1) (verA x) 99) : AtS w w8 x := by
  have h9 := h.skip hF9
  exact ⟨Fr.below h9.below hF8 (Nat.le_refl _) fun i hi => by omega, h9.a.fr hF8 (fun e => by omega), hB8⟩
set_option maxRecDepth 100000 in
set_option maxHeartbeats 4000000 in
theorem at_any {base : Nat} {w : World} {m : MW} {M : P.Md} (h : MS base w m M) (p : Int) (ts : Nat) :
    Calls Try.prog 36 #[.pointer (some ⟨m.c, 0, none⟩), .int .u16 p, .int .u32 ts] w fun e w' => e = .returned (.agg (verA (P.at' M p ts))) ∧ Below w.heap.size w w' := by
  have hz44 := zero44.1
  have h2 := (h.alloc (.cells (verA ⟨0, P.zb⟩) 99)).alloc (.cells (verA ⟨0, P.zb⟩) 99)
  have c4 := h2.c4
  have hlk := h2.look p
  obtain ⟨hown, hbl⟩ := h2.val p
  generalize m.val p = v at *
  have e1 : (w.alloc (.cells (verA ⟨0, P.zb⟩) 99)).heap.size = w.heap.size + 1 := by simp
  have hA := (Blk.alloc_new w (verA ⟨0, P.zb⟩) 99).alloc (.cells (verA ⟨0, P.zb⟩) 99)
  have hB := Blk.alloc_new (w.alloc (.cells (verA ⟨0, P.zb⟩) 99)) (verA ⟨0, P.zb⟩) 99
  rw [e1] at hB
  have hW : Below w.heap.size w ((w.alloc (.cells (verA ⟨0, P.zb⟩) 99)).alloc (.cells (verA ⟨0, P.zb⟩) 99)) := ((Below.refl _ _).alloc (Nat.le_refl _) _).alloc (by simp) _
  have hbl2 : ∀ b, v.ownBlock = some b → b < w.heap.size := fun b hb => h.lt b ⟨_, hbl b hb⟩
  have HAT : Hid (P.at' M p ts = P.pick (M.old p) ts ⟨0, P.zb⟩) := rfl
  generalize P.at' M p ts = R at *
  generalize M.old p = vs at *
  clear h h2 hbl
  have HS : Hid (AtS w ((w.alloc (.cells (verA ⟨0, P.zb⟩) 99)).alloc (.cells (verA ⟨0, P.zb⟩) 99)) ⟨0, P.zb⟩) := ⟨hW, hA, hB⟩
  rcases own_cases_n hown with ⟨rfl, h0, h1⟩ | ⟨g, cap, rfl, hcap, hm, hg, hlt, hc, _⟩
  · obtain rfl : vs = [] := List.eq_nil_of_length_eq_zero h0
    clear hown h0 h1
    go_enter Try.func36, Try.ntmps36
    go_wp2_with fail
    clear hlk hA hB hW
    generalize (w.alloc (.cells (verA ⟨0, P.zb⟩) 99)).alloc (.cells (verA ⟨0, P.zb⟩) 99) = W at *
    refine wp_loop_rounds 1 ?_
    rw [rounds_succ]
    go_wp2_with (first
      | (refine wpList_load_cs rfl 99 _ rfl (w.heap.size + 1) rfl 99 (verA ⟨0, P.zb⟩) HS.out.b _ Try.underlying99 rfl (size44 _) ?_)
      | (refine wpList_store_fr rfl 99 _ _ rfl w.heap.size (verA ⟨0, P.zb⟩) rfl rfl 99 _ HS.out.a (size44 _) (by simp only [verA_size]) (verA_one _) ?_; intro w9 hB9 hF9)
      | fail)
    refine bodyPost_ret (v := .agg (verA ⟨0, P.zb⟩)) ?_ rfl ⟨(by first | (rw [HAT.out] <;> rfl) | rfl), Fr.below HS.out.below hF9 (Nat.le_refl _) fun i hi => by omega⟩
    exact results_cell_row rfl _ _ w.heap.size 99 (verA ⟨0, P.zb⟩) (0, 0) _ rfl hB9 Try.underlying99 rfl (size44 _)
  · have HC : Hid (∀ j, j < vs.length * 65 → w.cell? ⟨g, j, none⟩ = (flatV vs)[j]?) := fun j hj => by rw [← hc j hj, hW.cell (hbl2 g rfl)]
    have hgl := hbl2 g rfl
    unfold maxLen at hm
    clear hc hown hlt hbl2
    go_enter Try.func36, Try.ntmps36
    go_wp2_with fail
    clear hlk hA hB hW c4
    generalize (w.alloc (.cells (verA ⟨0, P.zb⟩) 99)).alloc (.cells (verA ⟨0, P.zb⟩) 99) = W at *
    go_loopw [19] (fun i wr => ∃ k : Nat, i = .int .i64 k ∧ k ≤ vs.length ∧ AtS w wr (P.pick (vs.take k) ts ⟨0, P.zb⟩)) (fun i _ => vs.length - (intOf i).toNat)
    case atStart => exact ⟨0, rfl, by omega, HS.out⟩
    case round =>
      clear HS
      obtain ⟨k, rfl, hk, hS⟩ := hrel
      by_cases hlt : k < vs.length
      · obtain ⟨x, hx⟩ : ∃ x, vs[k]? = some x := ⟨_, List.getElem?_eq_getElem hlt⟩
        have hmid : wr.rangeAt g (k * 65) (verC x) := fun j v hv => by
          have hj : j < 65 := by have := (List.getElem?_eq_some_iff.1 hv).1; rw [verC_length] at this; exact this
          rw [hS.below.cell hgl, HC.out _ (by omega), flatV_get hx hj]
          exact hv
        have HP : Hid (P.pick (vs.take (k + 1)) ts ⟨0, P.zb⟩ = if x.ts ≤ ts then x else P.pick (vs.take k) ts ⟨0, P.zb⟩) := by
          unfold Hid P.pick
          rw [List.take_add_one, hx, List.foldl_append]
          rfl
        generalize P.pick (vs.take k) ts ⟨0, P.zb⟩ = u at *
        clear hx
        by_cases hle : x.ts ≤ ts
        · have hle' : (x.ts : Int) ≤ (ts : Int) := by omega
          rw [if_pos hle] at HP
          clear hle
          go_wp2_with (first
            | (refine wpList_load_mid rfl 99 _ rfl g (k * 65) rfl (verC x) _ hmid Try.underlying99 rfl (by rw [verC_length]; exact zero44.2) ?_)
            | (refine wpList_store_fr rfl 99 _ _ rfl wr.heap.size (verA x) rfl rfl 99 _ (Blk.alloc_new _ _ _) (size44 _) (by simp only [verA_size]) (verA_one _) ?_; intro w9 hB9 hF9; have d0 : w9.cell? ⟨wr.heap.size, 0, none⟩ = some (.int .u32 x.ts) := (by rw [hB9.cell]; rfl); have hb9 : Blk w9 (w.heap.size + 1) (verA u) 99 := (hS.b.alloc _).fr hF9 (fun e => by have := hS.b.lt; omega))
            | (refine wpList_load_cs rfl 99 _ rfl wr.heap.size rfl 99 (verA x) hB9 _ Try.underlying99 rfl (size44 _) ?_)
            | (refine wpList_store_fr rfl 99 _ _ rfl (w.heap.size + 1) (verA x) rfl rfl 99 _ hb9 (size44 _) (by simp only [verA_size]) (verA_one _) ?_; intro w8 hB8 hF8)
            | fail)
          go_roundw
          case rel => exact ⟨k + 1, by go_num, by omega, HP.out ▸ hS.next hF9 hF8 hB8⟩
          case measure => simp [intOf]; omega
        · have hle' : ¬ (x.ts : Int) ≤ (ts : Int) := by omega
          have hlt' : (ts : Int) < (x.ts : Int) := by omega
          rw [if_neg hle] at HP
          clear hle
          go_wp2_with (first
            | (refine wpList_load_mid rfl 99 _ rfl g (k * 65) rfl (verC x) _ hmid Try.underlying99 rfl (by rw [verC_length]; exact zero44.2) ?_)
            | (refine wpList_store_fr rfl 99 _ _ rfl wr.heap.size (verA x) rfl rfl 99 _ (Blk.alloc_new _ _ _) (size44 _) (by simp only [verA_size]) (verA_one _) ?_; intro w9 hB9 hF9; have d0 : w9.cell? ⟨wr.heap.size, 0, none⟩ = some (.int .u32 x.ts) := (by rw [hB9.cell]; rfl))
            | fail)
          go_roundw
          case rel => exact ⟨k + 1, by go_num, by omega, HP.out ▸ hS.skip hF9⟩
          case measure => simp [intOf]; omega
      · obtain rfl : k = vs.length := by omega
        rw [List.take_length] at hS
        have HS := Lib.hid hS
        clear hS
        go_wp2_with (first
          | (refine wpList_load_cs rfl 99 _ rfl (w.heap.size + 1) rfl 99 (verA (P.pick vs ts ⟨0, P.zb⟩)) HS.out.b _ Try.underlying99 rfl (size44 _) ?_)
          | (refine wpList_store_fr rfl 99 _ _ rfl w.heap.size (verA (P.pick vs ts ⟨0, P.zb⟩)) rfl rfl 99 _ HS.out.a (size44 _) (by simp only [verA_size]) (verA_one _) ?_; intro w9 hB9 hF9)
          | fail)
        refine bodyPost_ret (v := .agg (verA (P.pick vs ts ⟨0, P.zb⟩))) ?_ rfl ⟨(by first | (rw [HAT.out] <;> rfl) | rfl), Fr.below HS.out.below hF9 (Nat.le_refl _) fun i hi => by omega⟩
        exact results_cell_row rfl _ _ w.heap.size 99 (verA (P.pick vs ts ⟨0, P.zb⟩)) (0, 0) _ rfl hB9 Try.underlying99 rfl (size44 _)
set_option maxRecDepth 100000 in
set_option maxHeartbeats 4000000 in
theorem at_nil (w : World) (p : Int) (ts : Int) : Calls Try.prog 36 #[.pointer none, .int .u16 p, .int .u32 ts] w fun e w' => e = .returned (.agg (verA ⟨0, P.zb⟩)) ∧ Below w.heap.size w w' := by
  have hz44 := zero44.1
  have e1 : (w.alloc (.cells (verA ⟨0, P.zb⟩) 99)).heap.size = w.heap.size + 1 := by simp
  have hA := (Blk.alloc_new w (verA ⟨0, P.zb⟩) 99).alloc (.cells (verA ⟨0, P.zb⟩) 99)
  have hB := Blk.alloc_new (w.alloc (.cells (verA ⟨0, P.zb⟩) 99)) (verA ⟨0, P.zb⟩) 99
  rw [e1] at hB
  have hW : Below w.heap.size w ((w.alloc (.cells (verA ⟨0, P.zb⟩) 99)).alloc (.cells (verA ⟨0, P.zb⟩) 99)) := ((Below.refl _ _).alloc (Nat.le_refl _) _).alloc (by simp) _
  have HS : Hid (AtS w ((w.alloc (.cells (verA ⟨0, P.zb⟩) 99)).alloc (.cells (verA ⟨0, P.zb⟩) 99)) ⟨0, P.zb⟩) := ⟨hW, hA, hB⟩
  have HAT : Hid ((⟨0, P.zb⟩ : P.Vr) = ⟨0, P.zb⟩) := rfl
  clear hA hB hW
  go_enter Try.func36, Try.ntmps36
  go_wp2_with (first
    | (refine wpList_load_cs rfl 99 _ rfl (w.heap.size + 1) rfl 99 (verA ⟨0, P.zb⟩) HS.out.b _ Try.underlying99 rfl (size44 _) ?_)
    | (refine wpList_store_fr rfl 99 _ _ rfl w.heap.size (verA ⟨0, P.zb⟩) rfl rfl 99 _ HS.out.a (size44 _) (by simp only [verA_size]) (verA_one _) ?_; intro w9 hB9 hF9)
    | fail)
  refine bodyPost_ret (v := .agg (verA ⟨0, P.zb⟩)) ?_ rfl ⟨(by first | (rw [HAT.out] <;> rfl) | rfl), Fr.below HS.out.below hF9 (Nat.le_refl _) fun i hi => by omega⟩
  exact results_cell_row rfl _ _ w.heap.size 99 (verA ⟨0, P.zb⟩) (0, 0) _ rfl hB9 Try.underlying99 rfl (size44 _)
end Go.Proofs.Ytnemaolbmocncaa
