/- The walk of ModelRises. -/
import Derived.Test.YtjaecdcddmohoaaLoW
namespace Go.Proofs.Ytjaecdcddmohoaa.P
open Go.Proofs.Ytjaecdcddmohoaa
/-- L: the numbers of the transactions that were seen writing. -/
structure Rs (M : Md) (L : List Int) : Prop where
  max : M.max = 20
  cnt : ∀ x ∈ L, x ≤ M.count
  live : ∀ n T, get M.live n = some T → (n ∈ L ↔ T.now ≠ [])
theorem put_ne {β : Type} (l : List (Int × β)) (k : Int) (b : β) : put l k b ≠ [] := by
  cases l with
  | nil => simp [put]
  | cons x l =>
    unfold put
    split <;> simp
/-- What a call may show. -/
structure Rises (M : Md) (L : List Int) (c : Cl) (M' : Md) (r : Rp) : Prop where
  bad : r.e ≠ 0 → M'.last = M.last ∧ Rs M' L
  beg : r.e = 0 → c.kind = 0 → r.ts = M.last ∧ M'.last = M.last ∧ Rs M' L
  wr : r.e = 0 → c.kind = 2 → M'.last = M.last ∧ Rs M' (L ++ [c.txn])
  com : r.e = 0 → c.kind = 3 → Rs M' L ∧ (c.txn ∈ L → r.ts = M.last + 1 ∧ M'.last = M.last + 1) ∧ (c.txn ∉ L → r.ts ≤ M.last ∧ M'.last = M.last)
  oth : r.e = 0 → c.kind ≠ 0 → c.kind ≠ 2 → c.kind ≠ 3 → M'.last = M.last ∧ Rs M' L
theorem Rs.sub {M : Md} {L : List Int} (h : Rs M L) {M' : Md} (hm : M'.max = M.max) (hc : M'.count = M.count) (hl : ∀ n T, get M'.live n = some T → get M.live n = some T) : Rs M' L :=
  ⟨hm.trans h.max, fun x hx => by rw [hc]; exact h.cnt x hx, fun n T hg => h.live n T (hl n T hg)⟩
theorem rises_bad {M : Md} {L : List Int} {c : Cl} {e : Int} (h : Rs M L) (he : e ≠ 0) : Rises M L c M (err e) :=
  ⟨fun _ => ⟨rfl, h⟩, fun h0 => absurd h0 he, fun h0 => absurd h0 he, fun h0 => absurd h0 he, fun h0 => absurd h0 he⟩
theorem rises_bad' {M M' : Md} {L : List Int} {c : Cl} {e : Int} (hl : M'.last = M.last) (h : Rs M' L) (he : e ≠ 0) : Rises M L c M' (err e) :=
  ⟨fun _ => ⟨hl, h⟩, fun h0 => absurd h0 he, fun h0 => absurd h0 he, fun h0 => absurd h0 he, fun h0 => absurd h0 he⟩
theorem rises_step {M : Md} {m : Nat} {L : List Int} (ok : Ok M m) (h : Rs M L) (c : Cl) : Rises M L c (step M c).1 (step M c).2 := by
  unfold step
  split
  · exact rises_bad h (by decide)
  · split
    · rename_i hk
      split
      · exact rises_bad h (by decide)
      · have hR : Rs { M with count := M.count + 1, live := put M.live (M.count + 1) ⟨M.last, []⟩ } L := by
          refine ⟨h.max, fun x hx => by have := h.cnt x hx; show x ≤ ((M.count + 1 : Nat) : Int); omega, fun n T hg => ?_⟩
          have hg' : get (put M.live ((M.count : Int) + 1) ⟨M.last, []⟩) n = some T := hg
          rw [get_put] at hg'
          split at hg'
          · rename_i hn
            obtain rfl := Option.some.inj hg'
            refine ⟨fun hx => ?_, fun hx => absurd rfl hx⟩
            have := h.cnt n hx
            omega
          · exact h.live n T hg'
        exact ⟨fun h0 => absurd rfl h0, fun _ _ => ⟨rfl, rfl, hR⟩, fun _ h2 => by omega, fun _ h2 => by omega, fun _ h2 => absurd hk h2⟩
    · split
      · rename_i hk0 hk
        unfold of
        split
        · exact rises_bad h (by decide)
        · split
          · exact rises_bad h (by decide)
          · rename_i T hT
            split
            · rename_i h1
              have hR : ∀ r : Rp, r.e = 0 → Rises M L c M r := fun r he => ⟨fun h0 => absurd he h0, fun _ h2 => by omega, fun _ h2 => by omega, fun _ h2 => by omega, fun _ _ _ _ => ⟨rfl, h⟩⟩
              show Rises M L c M (match get T.now c.page with | some b => P.ok T.start b | none => P.ok (at' M c.page T.start).ts (at' M c.page T.start).b)
              split
              · exact hR _ rfl
              · exact hR _ rfl
            · split
              · rename_i h1 h2
                have hw : ∀ b, Rises M L c (wr M c T b).1 (wr M c T b).2 := fun b => by
                  refine ⟨fun h0 => absurd rfl h0, fun _ h3 => by omega, fun _ _ => ⟨rfl, h.max, ?_, ?_⟩, fun _ h3 => by omega, fun _ _ h3 _ => absurd h2 h3⟩
                  · intro x hx
                    rcases List.mem_append.1 hx with hx | hx
                    · exact h.cnt x hx
                    · obtain rfl : x = c.txn := by simpa using hx
                      exact (ok.key _ (get_mem hT)).2
                  · intro n T' hg
                    have hg' : get (put M.live c.txn { T with now := put T.now c.page (cpy b c.off.toNat c.s) }) n = some T' := hg
                    rw [get_put] at hg'
                    split at hg'
                    · rename_i hn
                      obtain rfl := Option.some.inj hg'
                      refine ⟨fun _ => put_ne _ _ _, fun _ => by rw [hn]; simp⟩
                    · rename_i hn
                      rw [List.mem_append]
                      have := h.live n T' hg'
                      constructor
                      · rintro (e | e)
                        · exact this.1 e
                        · exact absurd (by simpa using e) hn
                      · exact fun e => .inl (this.2 e)
                split
                · exact hw _
                · split
                  · exact rises_bad h (by decide)
                  · exact hw _
              · rename_i h1 h2
                have hdel : Rs { M with live := del M.live c.txn } L := h.sub rfl rfl fun n T' hg => by
                  have hg' : get (del M.live c.txn) n = some T' := hg
                  rw [get_del ok.keys] at hg'
                  split at hg'
                  · cases hg'
                  · exact hg'
                split
                · rename_i h4
                  exact ⟨fun h0 => absurd rfl h0, fun _ h3 => by omega, fun _ h3 => by omega, fun _ h3 => by omega, fun _ _ _ _ => ⟨rfl, hdel⟩⟩
                · rename_i h4
                  have hk3 : c.kind = 3 := by omega
                  have hL := h.live c.txn T hT
                  have hst := ok.start _ (get_mem hT)
                  have hst' : T.start ≤ M.last := hst
                  unfold com
                  split
                  · rename_i hn
                    refine ⟨fun h0 => absurd rfl h0, fun _ h3 => by omega, fun _ h3 => by omega, fun _ _ => ⟨hdel, fun e => absurd hn (hL.1 e), fun _ => ⟨hst', rfl⟩⟩, fun _ _ _ h3 => absurd hk3 h3⟩
                  · rename_i hn
                    have hin : c.txn ∈ L := hL.2 hn
                    split
                    · exact rises_bad' rfl hdel (by decide)
                    · split
                      · exact rises_bad' rfl hdel (by decide)
                      · exact ⟨fun h0 => absurd rfl h0, fun _ h3 => by omega, fun _ h3 => by omega, fun _ _ => ⟨⟨hdel.max, hdel.cnt, hdel.live⟩, fun _ => ⟨rfl, rfl⟩, fun e => absurd hin e⟩, fun _ _ _ h3 => absurd hk3 h3⟩
      · split
        · rename_i hk0 hk14 h56
          exact ⟨fun h0 => absurd rfl h0, fun _ h3 => by omega, fun _ h3 => by omega, fun _ h3 => by omega, fun _ _ _ _ => ⟨rfl, h⟩⟩
        · split
          · exact ⟨fun h0 => absurd rfl h0, fun _ h3 => by omega, fun _ h3 => by omega, fun _ h3 => by omega, fun _ _ _ _ => ⟨rfl, ⟨h.max, h.cnt, h.live⟩⟩⟩
          · exact rises_bad h (by decide)
end Go.Proofs.Ytjaecdcddmohoaa.P
namespace Go.Proofs.Ytjaecdcddmohoaa
open Go.RowKit
set_option linter.unusedSimpArgs false
set_option linter.unusedVariables false
theorem SS.grow {w0 w w' : World} {c : Nat} {M : P.Md} {k : Nat} {K : Nat → Prop} (h : SS w0 w c M k K) {S : Nat → Prop} (f : Fr S w w') (hS : ∀ b, S b → K b) : SS w0 w' c M k (fun b => K b ∨ (w.heap.size ≤ b ∧ b < w'.heap.size)) := by
  have h1 := h.fr f hS
  obtain ⟨m, hm, hms, hd⟩ := h.ex
  refine ⟨⟨m, hm, hms.fr f fun b hb hs => hd b hb (hS b hs), fun b hb e => ?_⟩, h.ok, h1.below, fun b hb => ?_⟩
  · rcases e with e | ⟨e, _⟩
    · exact hd b hb e
    · have := hms.lt b hb; omega
  · rcases hb with e | ⟨e, e2⟩
    · exact h1.kb b e
    · have := h.below.size; exact ⟨by omega, e2⟩
def RiL (w0 : World) (c N : Nat) (i v : Value) (wr : World) : Prop :=
  ∃ (k : Nat) (M : P.Md) (L : List Int), i = .int .i64 k ∧ k ≤ N ∧ SS w0 wr c M k (fun b => v.ownBlock = some b) ∧ P.Rs M L ∧ L.length ≤ k ∧ wr.ownsRow w0.heap.size 32 1 v L.length (NumC L)
theorem info32 : (Try.prog.info? 32).map (fun i => (i.zero, i.size, i.bytes)) = some (some (.int .u64 0), 1, 8) := by kernel_rfl
theorem NumC_one (L : List Int) : ∀ u ∈ NumC L, u.oneCell' = true := fun u hu => by
  obtain ⟨x, _, rfl⟩ := List.mem_map.1 hu
  rfl
theorem fill32 (x : Int) : Instr.fill (fun i => some (i * 1, 1)) ((Array.range (1 * 1)).map ((Value.int .u64 0).cells[· % (Value.int .u64 0).cells.size]!)) [(0, .int .u64 x)] = some #[.int .u64 x] := by kernel_rfl
set_option maxRecDepth 100000 in
set_option maxHeartbeats 8000000 in
theorem rise_walk (ao0 : Option Addr) (n0 cap0 : Nat) (C0 : Nat → P.Cl) (w : World) (hops0 : OpsAt w ao0 n0 C0) (hm : n0 ≤ maxLen) (hcap : n0 ≤ cap0) :
    Calls Try.prog 7 #[.slice ao0 n0 cap0] w fun e w' => e = .returned (.bool true) ∧ Below w.heap.size w w' := by
  have hz40 := zero40.1
  have hz35 := zero35.1
  have hao := hops0.some
  obtain ⟨i32, hi32, z32, s32, y32⟩ := info_parts info32
  replace hi32 := Lib.hid hi32
  replace z32 := Lib.hid z32
  replace s32 := Lib.hid s32
  replace y32 := Lib.hid y32
  go_enter Try.func7, Try.ntmps7
  go_upto_region 1 with (fail)
  refine wp_region_lit ?_
  refine wpl_call _ _ rfl (by go_simp) _ (new_in _ 8 20 (by omega)) ?_
  rintro e w1 ⟨m, rfl, hms, hb⟩
  refine ⟨_, rfl, ?_⟩
  have hS := SS.start hms hb (by omega) (by omega)
  have hL0 : RiL w m.c (min n0 40) (.int .i64 0) (.slice none 0 0) w1 := ⟨0, _, [], rfl, Nat.zero_le _, hS.more (fun b e => by cases e), ⟨rfl, fun x hx => (by cases hx), fun n T hg => (by cases hg)⟩, Nat.le_refl _, World.ownsRow_nil _ _ _ _⟩
  clear hS hms hb
  generalize m.c = c at *
  (try simp only [Act.put, List.getElem_toArray, List.getElem_cons_zero, List.getElem_cons_succ, List.setIfInBounds_toArray, List.set_cons_zero, List.set_cons_succ])
  refine wpl_val ?_ rfl ?_ ?_
  rotate_left
  · (go_simp; (try with_reducible rfl))
  (try simp only [Act.put, List.getElem_toArray, List.getElem_cons_zero, List.getElem_cons_succ, List.setIfInBounds_toArray, List.set_cons_zero, List.set_cons_succ])
  refine wpList_nil ?_
  have hN : min n0 40 ≤ n0 ∧ min n0 40 ≤ 40 := by omega
  have hops := Lib.hid (hops0.mono (Below.refl _ _) hN.1)
  replace hL0 := Lib.hid hL0
  clear hops0
  go_upto_region 5 with (fail)
  refine wp_region_lit ?_
  refine wpl_val ?_ rfl ?_ ?_
  rotate_left
  · (go_simp; (try with_reducible rfl))
  (try simp only [Act.put, List.getElem_toArray, List.getElem_cons_zero, List.setIfInBounds_toArray, List.set_cons_zero, List.set_cons_succ])
  refine wpl_call _ _ rfl (by go_simp) _ (small_any ao0 n0 cap0 _ hcap hao) ?_
  rintro e w' ⟨rfl, rfl⟩
  refine ⟨_, rfl, ?_⟩
  (try simp only [Act.put, List.getElem_toArray, List.getElem_cons_zero, List.getElem_cons_succ, List.setIfInBounds_toArray, List.set_cons_zero, List.set_cons_succ])
  refine wpl_val ?_ rfl ?_ ?_
  rotate_left
  · (go_simp; (try with_reducible rfl))
  (try simp only [Act.put, List.getElem_toArray, List.getElem_cons_zero, List.getElem_cons_succ, List.setIfInBounds_toArray, List.set_cons_zero, List.set_cons_succ])
  refine wpl_val ?_ rfl ?_ ?_
  rotate_left
  · (go_simp; (try with_reducible rfl))
  (try simp only [Act.put, List.getElem_toArray, List.getElem_cons_zero, List.getElem_cons_succ, List.setIfInBounds_toArray, List.set_cons_zero, List.set_cons_succ])
  refine wpList_nil ?_
  generalize min n0 40 = N at *
  have hN40 := hN.2
  clear hN hao
  go_wp2_with fail
  go_loopw [16, 4] (fun i v wr => RiL w c N i v wr) (fun i _ _ => N - (intOf i).toNat)
  case atStart => exact hL0.out
  case round =>
    obtain ⟨k, M, L, rfl, hk, hS, hRs, hLk, hown⟩ := hrel
    replace hRs := Lib.hid hRs
    replace hown := Lib.hid hown
    obtain ⟨v, rfl⟩ : ∃ v, v = u4 := ⟨_, rfl⟩
    have hlmx := hS.ok.lm
    have hl20 : M.last ≤ 20 := by have := hRs.out.max; omega
    clear hlmx
    by_cases hlt : k < N
    · have hlt' : (k : Int) < (N : Int) := by omega
      obtain ⟨sb, so, rfl, hr⟩ := hops.out.load hS.below hlt
      replace hr := Lib.hid hr
      have hok := Lib.hid (hops.out.ok k hlt)
      have hkb := Lib.hid hS.kb
      go_upto_region 7 with (fail)
      refine wp_region_lit ?_
      refine wpl_val ?_ rfl ?_ ?_
      rotate_left
      · (go_simp; (try with_reducible rfl))
      (try simp only [Act.put, List.getElem_toArray, List.getElem_cons_zero, List.setIfInBounds_toArray, List.set_cons_zero, List.set_cons_succ])
      refine wpList_load_mid rfl 35 _ rfl sb (so + k * 5) rfl (clL (C0 k)) _ hr.out Try.underlying35 rfl (size35 (C0 k)) ?_
      (try simp only [Act.put, List.getElem_toArray, List.getElem_cons_zero, List.getElem_cons_succ, List.setIfInBounds_toArray, List.set_cons_zero, List.set_cons_succ])
      refine wpl_alloc 35 (clA ⟨0, 0, 0, 0, P.es⟩) rfl rfl hz35 ?_
      (try simp only [Act.put, List.getElem_toArray, List.getElem_cons_zero, List.getElem_cons_succ, List.setIfInBounds_toArray, List.set_cons_zero, List.set_cons_succ])
      refine wpl_law rfl (wp_store_row 35 _ _ rfl wr.heap.size (clA (C0 k)) rfl rfl 35 _ (Blk.alloc_new _ _ _) (size35 _) rfl (clA_one _) ?_)
      (try simp only [Act.put, List.getElem_toArray, List.getElem_cons_zero, List.getElem_cons_succ, List.setIfInBounds_toArray, List.set_cons_zero, List.set_cons_succ])
      refine wpList_nil ?_
      obtain ⟨hS2, hB, hb⟩ := hS.box (clA ⟨0, 0, 0, 0, P.es⟩) (clA (C0 k)) 35
      have hown1 : World.ownsRow _ w.heap.size 32 1 v L.length (NumC L) := own_fr hown.out (Fr.of_below hb fun _ => False) (fun b _ e => e)
      replace hown := Lib.hid hown1
      clear hown1 hb hS
      generalize (wr.alloc (.cells (clA ⟨0, 0, 0, 0, P.es⟩) 35)).setRow wr.heap.size (clA (C0 k)) = V0 at *
      generalize wr.heap.size = bx at *
      have hE := hB
      have hS := hS2
      clear hB hS2 hr
      go_upto_region 8 with (fail)
      refine wp_region_lit ?_
      refine wpl_val ?_ rfl ?_ ?_
      rotate_left
      · (go_simp; (try with_reducible rfl))
      (try simp only [Act.put, List.getElem_toArray, List.getElem_cons_zero, List.setIfInBounds_toArray, List.set_cons_zero, List.set_cons_succ])
      refine wpl_call _ _ rfl (by go_simp) _ hS.last ?_
      rintro e w6 ⟨rfl, rfl⟩
      refine ⟨_, rfl, ?_⟩
      (try simp only [Act.put, List.getElem_toArray, List.getElem_cons_zero, List.getElem_cons_succ, List.setIfInBounds_toArray, List.set_cons_zero, List.set_cons_succ])
      refine wpl_val ?_ rfl ?_ ?_
      rotate_left
      · (go_simp; (try with_reducible rfl))
      (try simp only [Act.put, List.getElem_toArray, List.getElem_cons_zero, List.getElem_cons_succ, List.setIfInBounds_toArray, List.set_cons_zero, List.set_cons_succ])
      refine wpList_nil ?_
      go_upto_region 9 with (fail)
      refine wp_region_lit ?_
      refine wpl_val ?_ rfl ?_ ?_
      rotate_left
      · (go_simp; (try with_reducible rfl))
      (try simp only [Act.put, List.getElem_toArray, List.getElem_cons_zero, List.setIfInBounds_toArray, List.set_cons_zero, List.set_cons_succ])
      refine wpl_val (.agg (clA (C0 k))) rfl (cl_load hE rfl rfl) ?_
      (try simp only [Act.put, List.getElem_toArray, List.getElem_cons_zero, List.getElem_cons_succ, List.setIfInBounds_toArray, List.set_cons_zero, List.set_cons_succ])
      have hR := P.rises_step hS.ok hRs.out (C0 k)
      replace hR := Lib.hid hR
      refine wpl_call _ _ rfl (by go_simp) _ (hS.do_ (cl := (C0 k)) (by omega) hok.out.1) ?_
      rintro e w2 ⟨rfl, hS2, hf⟩
      refine ⟨_, rfl, ?_⟩
      clear hS
      (try simp only [Act.put, List.getElem_toArray, List.getElem_cons_zero, List.getElem_cons_succ, List.setIfInBounds_toArray, List.set_cons_zero, List.set_cons_succ])
      refine wpl_alloc 40 (rpA ⟨0, 0, 0, P.zb⟩) rfl rfl hz40 ?_
      (try simp only [Act.put, List.getElem_toArray, List.getElem_cons_zero, List.getElem_cons_succ, List.setIfInBounds_toArray, List.set_cons_zero, List.set_cons_succ])
      refine wpl_law rfl (wp_store_row 40 _ _ rfl w2.heap.size (rpA (P.step M (C0 k)).2) rfl rfl 40 _ (Blk.alloc_new _ _ _) (size40 _) (by simp only [rpA_size]) (rpA_one _) ?_)
      (try simp only [Act.put, List.getElem_toArray, List.getElem_cons_zero, List.getElem_cons_succ, List.setIfInBounds_toArray, List.set_cons_zero, List.set_cons_succ])
      refine wpList_nil ?_
      obtain ⟨hS, hB, hb⟩ := hS2.box (rpA ⟨0, 0, 0, P.zb⟩) (rpA (P.step M (C0 k)).2) 40
      have hx := hb.size
      have hx2 := hB.lt
      clear hS2
      generalize (w2.alloc (.cells (rpA ⟨0, 0, 0, P.zb⟩) 40)).setRow w2.heap.size (rpA (P.step M (C0 k)).2) = V at *
      replace hE := (hE.fr hf (fun e => e (by simp))).below hb
      have hown1 : World.ownsRow V w.heap.size 32 1 v L.length (NumC L) := own_fr (own_fr hown.out hf (fun b hb e => e (.inl hb))) (Fr.of_below hb fun _ => False) (fun b _ e => e)
      replace hown := Lib.hid hown1
      clear hown1 hf hb hx hx2 hRs
      generalize w2.heap.size = br at *
      generalize P.step M (C0 k) = R at *
      obtain ⟨M', r⟩ := R
      dsimp only at hS hB hR
      have hkt := Lib.hid hok.out.2
      by_cases he : r.e = 0
      · have hb0 : Hid (V.cell? ⟨br, 0, none⟩ = some (.int .i64 0)) := by
          unfold Hid
          rw [hB.cell]
          show some (Value.int .i64 r.e) = _
          rw [he]
        replace he := Lib.hid he
        go_upto_region 10 with (fail)
        refine wp_region_lit ?_
        refine wpl_val ?_ rfl ?_ ?_
        rotate_left
        · (go_simp; (try with_reducible rfl))
        (try simp only [Act.put, List.getElem_toArray, List.getElem_cons_zero, List.setIfInBounds_toArray, List.set_cons_zero, List.set_cons_succ])
        refine wpl_val ?_ rfl ?_ ?_
        rotate_left
        · (have c0 := hb0.out; go_simp; (try with_reducible rfl))
        (try simp only [Act.put, List.getElem_toArray, List.getElem_cons_zero, List.getElem_cons_succ, List.setIfInBounds_toArray, List.set_cons_zero, List.set_cons_succ])
        refine wpl_val ?_ rfl ?_ ?_
        rotate_left
        · (go_simp; (try with_reducible rfl))
        (try simp only [Act.put, List.getElem_toArray, List.getElem_cons_zero, List.getElem_cons_succ, List.setIfInBounds_toArray, List.set_cons_zero, List.set_cons_succ])
        refine wpl_val ?_ rfl ?_ ?_
        rotate_left
        · (go_simp; (try with_reducible rfl))
        (try simp only [Act.put, List.getElem_toArray, List.getElem_cons_zero, List.getElem_cons_succ, List.setIfInBounds_toArray, List.set_cons_zero, List.set_cons_succ])
        refine wpList_nil ?_
        by_cases hk0 : (C0 k).kind = 0
        · have hk0' : ((C0 k).kind == 0) = true := by simp [hk0]
          have hk3 : ((C0 k).kind != 3) = true := by simp [hk0]
          obtain ⟨hts, hl, hRs⟩ := hR.out.beg he.out hk0
          have hb2 : Hid (V.cell? ⟨br, 2, none⟩ = some (.int .u32 M.last)) := by
            unfold Hid
            rw [hB.cell]
            show some (Value.int .u32 r.ts) = _
            rw [hts]
          replace hl := Lib.hid hl
          replace hRs := Lib.hid hRs
          clear hk0 hts
          go_upto_region 11 with (fail)
          refine wp_region_lit ?_
          refine wpl_val ?_ rfl ?_ ?_
          rotate_left
          · (go_simp; (try with_reducible rfl))
          (try simp only [Act.put, List.getElem_toArray, List.getElem_cons_zero, List.setIfInBounds_toArray, List.set_cons_zero, List.set_cons_succ])
          refine wpl_val ?_ rfl ?_ ?_
          rotate_left
          · (have c0 := (show V.cell? ⟨bx, 0, none⟩ = some (.int .u8 (C0 k).kind) by rw [hE.cell]; rfl); go_simp; (try with_reducible rfl))
          (try simp only [Act.put, List.getElem_toArray, List.getElem_cons_zero, List.getElem_cons_succ, List.setIfInBounds_toArray, List.set_cons_zero, List.set_cons_succ])
          refine wpl_val ?_ rfl ?_ ?_
          rotate_left
          · (go_simp; (try with_reducible rfl))
          (try simp only [Act.put, List.getElem_toArray, List.getElem_cons_zero, List.getElem_cons_succ, List.setIfInBounds_toArray, List.set_cons_zero, List.set_cons_succ])
          refine wpl_val ?_ rfl ?_ ?_
          rotate_left
          · (go_simp; (try with_reducible rfl))
          (try simp only [Act.put, List.getElem_toArray, List.getElem_cons_zero, List.getElem_cons_succ, List.setIfInBounds_toArray, List.set_cons_zero, List.set_cons_succ])
          refine wpList_nil ?_
          go_upto_region 12 with (fail)
          refine wp_region_lit ?_
          refine wpl_val ?_ rfl ?_ ?_
          rotate_left
          · (go_simp; (try with_reducible rfl))
          (try simp only [Act.put, List.getElem_toArray, List.getElem_cons_zero, List.setIfInBounds_toArray, List.set_cons_zero, List.set_cons_succ])
          refine wpl_val ?_ rfl ?_ ?_
          rotate_left
          · (have c0 := hb2.out; go_simp; (try with_reducible rfl))
          (try simp only [Act.put, List.getElem_toArray, List.getElem_cons_zero, List.getElem_cons_succ, List.setIfInBounds_toArray, List.set_cons_zero, List.set_cons_succ])
          refine wpl_val ?_ rfl ?_ ?_
          rotate_left
          · (go_simp; (try with_reducible rfl))
          (try simp only [Act.put, List.getElem_toArray, List.getElem_cons_zero, List.getElem_cons_succ, List.setIfInBounds_toArray, List.set_cons_zero, List.set_cons_succ])
          refine wpl_val ?_ rfl ?_ ?_
          rotate_left
          · (go_simp; (try with_reducible rfl))
          (try simp only [Act.put, List.getElem_toArray, List.getElem_cons_zero, List.getElem_cons_succ, List.setIfInBounds_toArray, List.set_cons_zero, List.set_cons_succ])
          refine wpList_nil ?_
          have hd20 : decide ((20 : Int) < (M.last : Int)) = false := by simp; omega
          go_upto_region 20 with (fail)
          refine wp_region_lit ?_
          refine wpl_val ?_ rfl ?_ ?_
          rotate_left
          · (go_simp; (try with_reducible rfl))
          (try simp only [Act.put, List.getElem_toArray, List.getElem_cons_zero, List.setIfInBounds_toArray, List.set_cons_zero, List.set_cons_succ])
          refine wpl_val ?_ rfl ?_ ?_
          rotate_left
          · (have c0 := (show V.cell? ⟨bx, 0, none⟩ = some (.int .u8 (C0 k).kind) by rw [hE.cell]; rfl); go_simp; (try with_reducible rfl))
          (try simp only [Act.put, List.getElem_toArray, List.getElem_cons_zero, List.getElem_cons_succ, List.setIfInBounds_toArray, List.set_cons_zero, List.set_cons_succ])
          refine wpl_val ?_ rfl ?_ ?_
          rotate_left
          · (go_simp; (try with_reducible rfl))
          (try simp only [Act.put, List.getElem_toArray, List.getElem_cons_zero, List.getElem_cons_succ, List.setIfInBounds_toArray, List.set_cons_zero, List.set_cons_succ])
          refine wpl_val ?_ rfl ?_ ?_
          rotate_left
          · (go_simp; (try with_reducible rfl))
          (try simp only [Act.put, List.getElem_toArray, List.getElem_cons_zero, List.getElem_cons_succ, List.setIfInBounds_toArray, List.set_cons_zero, List.set_cons_succ])
          refine wpl_val ?_ rfl ?_ ?_
          rotate_left
          · (go_simp; (try with_reducible rfl))
          (try simp only [Act.put, List.getElem_toArray, List.getElem_cons_zero, List.getElem_cons_succ, List.setIfInBounds_toArray, List.set_cons_zero, List.set_cons_succ])
          have hla := hS.last
          rw [hl.out] at hla
          refine wpl_call _ _ rfl (by go_simp) _ hla ?_
          rintro e w6 ⟨rfl, rfl⟩
          refine ⟨_, rfl, ?_⟩
          (try simp only [Act.put, List.getElem_toArray, List.getElem_cons_zero, List.getElem_cons_succ, List.setIfInBounds_toArray, List.set_cons_zero, List.set_cons_succ])
          refine wpl_val ?_ rfl ?_ ?_
          rotate_left
          · (go_simp; (try with_reducible rfl))
          (try simp only [Act.put, List.getElem_toArray, List.getElem_cons_zero, List.getElem_cons_succ, List.setIfInBounds_toArray, List.set_cons_zero, List.set_cons_succ])
          refine wpl_val ?_ rfl ?_ ?_
          rotate_left
          · (go_simp; (try with_reducible rfl))
          (try simp only [Act.put, List.getElem_toArray, List.getElem_cons_zero, List.getElem_cons_succ, List.setIfInBounds_toArray, List.set_cons_zero, List.set_cons_succ])
          refine wpl_val ?_ rfl ?_ ?_
          rotate_left
          · (go_simp; (try with_reducible rfl))
          (try simp only [Act.put, List.getElem_toArray, List.getElem_cons_zero, List.getElem_cons_succ, List.setIfInBounds_toArray, List.set_cons_zero, List.set_cons_succ])
          refine wpl_val ?_ rfl ?_ ?_
          rotate_left
          · (go_simp; (try with_reducible rfl))
          (try simp only [Act.put, List.getElem_toArray, List.getElem_cons_zero, List.getElem_cons_succ, List.setIfInBounds_toArray, List.set_cons_zero, List.set_cons_succ])
          refine wpl_val ?_ rfl ?_ ?_
          rotate_left
          · (go_simp; (try with_reducible rfl))
          (try simp only [Act.put, List.getElem_toArray, List.getElem_cons_zero, List.getElem_cons_succ, List.setIfInBounds_toArray, List.set_cons_zero, List.set_cons_succ])
          refine wpl_call _ _ rfl (by go_simp) _ hla ?_
          rintro e w6 ⟨rfl, rfl⟩
          refine ⟨_, rfl, ?_⟩
          (try simp only [Act.put, List.getElem_toArray, List.getElem_cons_zero, List.getElem_cons_succ, List.setIfInBounds_toArray, List.set_cons_zero, List.set_cons_succ])
          clear hla
          refine wpl_val ?_ rfl ?_ ?_
          rotate_left
          · (go_simp; (try with_reducible rfl))
          (try simp only [Act.put, List.getElem_toArray, List.getElem_cons_zero, List.getElem_cons_succ, List.setIfInBounds_toArray, List.set_cons_zero, List.set_cons_succ])
          refine wpl_val ?_ rfl ?_ ?_
          rotate_left
          · (go_simp; (try with_reducible rfl))
          (try simp only [Act.put, List.getElem_toArray, List.getElem_cons_zero, List.getElem_cons_succ, List.setIfInBounds_toArray, List.set_cons_zero, List.set_cons_succ])
          refine wpList_nil ?_
          go_wp2_with fail
          go_roundw
          case rel => exact ⟨k + 1, M', L, by go_num, by omega, hS.more (fun b e => .inl (.inl e)), hRs.out, by omega, hown.out⟩
          case measure => simp [intOf]; omega
        · have hk0' : ((C0 k).kind == 0) = false := by simp [hk0]
          by_cases hk2 : (C0 k).kind = 2
          · have hk2' : ((C0 k).kind == 2) = true := by simp [hk2]
            have hk3 : ((C0 k).kind != 3) = true := by simp [hk2]
            obtain ⟨hl, hRs⟩ := hR.out.wr he.out hk2
            replace hl := Lib.hid hl
            replace hRs := Lib.hid hRs
            clear hk0 hk2
            go_upto_region 11 with (fail)
            refine wp_region_lit ?_
            refine wpl_val ?_ rfl ?_ ?_
            rotate_left
            · (go_simp; (try with_reducible rfl))
            (try simp only [Act.put, List.getElem_toArray, List.getElem_cons_zero, List.setIfInBounds_toArray, List.set_cons_zero, List.set_cons_succ])
            refine wpl_val ?_ rfl ?_ ?_
            rotate_left
            · (have c0 := (show V.cell? ⟨bx, 0, none⟩ = some (.int .u8 (C0 k).kind) by rw [hE.cell]; rfl); go_simp; (try with_reducible rfl))
            (try simp only [Act.put, List.getElem_toArray, List.getElem_cons_zero, List.getElem_cons_succ, List.setIfInBounds_toArray, List.set_cons_zero, List.set_cons_succ])
            refine wpl_val ?_ rfl ?_ ?_
            rotate_left
            · (go_simp; (try with_reducible rfl))
            (try simp only [Act.put, List.getElem_toArray, List.getElem_cons_zero, List.getElem_cons_succ, List.setIfInBounds_toArray, List.set_cons_zero, List.set_cons_succ])
            refine wpl_val ?_ rfl ?_ ?_
            rotate_left
            · (go_simp; (try with_reducible rfl))
            (try simp only [Act.put, List.getElem_toArray, List.getElem_cons_zero, List.getElem_cons_succ, List.setIfInBounds_toArray, List.set_cons_zero, List.set_cons_succ])
            refine wpList_nil ?_
            go_upto_region 14 with (fail)
            refine wp_region_lit ?_
            refine wpl_val ?_ rfl ?_ ?_
            rotate_left
            · (go_simp; (try with_reducible rfl))
            (try simp only [Act.put, List.getElem_toArray, List.getElem_cons_zero, List.setIfInBounds_toArray, List.set_cons_zero, List.set_cons_succ])
            refine wpl_val ?_ rfl ?_ ?_
            rotate_left
            · (have c0 := (show V.cell? ⟨bx, 0, none⟩ = some (.int .u8 (C0 k).kind) by rw [hE.cell]; rfl); go_simp; (try with_reducible rfl))
            (try simp only [Act.put, List.getElem_toArray, List.getElem_cons_zero, List.getElem_cons_succ, List.setIfInBounds_toArray, List.set_cons_zero, List.set_cons_succ])
            refine wpl_val ?_ rfl ?_ ?_
            rotate_left
            · (go_simp; (try with_reducible rfl))
            (try simp only [Act.put, List.getElem_toArray, List.getElem_cons_zero, List.getElem_cons_succ, List.setIfInBounds_toArray, List.set_cons_zero, List.set_cons_succ])
            refine wpl_val ?_ rfl ?_ ?_
            rotate_left
            · (go_simp; (try with_reducible rfl))
            (try simp only [Act.put, List.getElem_toArray, List.getElem_cons_zero, List.getElem_cons_succ, List.setIfInBounds_toArray, List.set_cons_zero, List.set_cons_succ])
            refine wpList_nil ?_
            go_upto_region 15 with (fail)
            refine wp_region_lit ?_
            refine wpl_val ?_ rfl ?_ ?_
            rotate_left
            · (go_simp; (try with_reducible rfl))
            (try simp only [Act.put, List.getElem_toArray, List.getElem_cons_zero, List.setIfInBounds_toArray, List.set_cons_zero, List.set_cons_succ])
            refine wpl_val ?_ rfl ?_ ?_
            rotate_left
            · (go_simp; (try with_reducible rfl))
            (try simp only [Act.put, List.getElem_toArray, List.getElem_cons_zero, List.getElem_cons_succ, List.setIfInBounds_toArray, List.set_cons_zero, List.set_cons_succ])
            refine wpl_val ?_ rfl ?_ ?_
            rotate_left
            · (have c0 := (show V.cell? ⟨bx, 1, none⟩ = some (.int .u64 (C0 k).txn) by rw [hE.cell]; rfl); go_simp; (try with_reducible rfl))
            (try simp only [Act.put, List.getElem_toArray, List.getElem_cons_zero, List.getElem_cons_succ, List.setIfInBounds_toArray, List.set_cons_zero, List.set_cons_succ])
            have hVs := hS.below.size
            refine wpl_law rfl (wp_buildSlice 51 32 1 _ rfl #[.int .u64 (C0 k).txn] i32 _ Try.underlying51 hi32.out z32.out (by rw [s32.out]; decide) (by rw [s32.out]; decide) (by simp only [s32.out, List.map_toArray, List.map_cons, List.map_nil]; exact fill32 _) ?_)
            have hlit := Blk.alloc_new V #[.int .u64 (C0 k).txn] 32
            have hS1 := hS.go ((Below.refl _ _).alloc (Nat.le_refl _) (.cells #[.int .u64 (C0 k).txn] 32))
            have hE1 := hE.alloc (.cells #[.int .u64 (C0 k).txn] 32)
            have hown1 : World.ownsRow _ w.heap.size 32 1 v L.length (NumC L) := own_fr hown.out (Fr.of_below ((Below.refl _ _).alloc (Nat.le_refl _) (.cells #[.int .u64 (C0 k).txn] 32)) fun _ => False) (fun b _ e => e)
            have hvb : ∀ b, v.ownBlock = some b → b < bx := fun b hb => (hkb.out b hb).2
            (try simp only [Act.put, List.getElem_toArray, List.getElem_cons_zero, List.getElem_cons_succ, List.setIfInBounds_toArray, List.set_cons_zero, List.set_cons_succ])
            clear hS hE hown
            generalize V.alloc (.cells #[.int .u64 (C0 k).txn] 32) = V1 at *
            refine wpl_law rfl (wp_append_src _ _ 51 rfl w.heap.size 32 i32 _ 1 8 Try.underlying51 hi32.out z32.out s32.out y32.out rfl (by decide) v L.length _ rfl hown1 _ 1 [.int .u64 (C0 k).txn] rfl (src_blk hlit) rfl (NumC_one [(C0 k).txn]) (by unfold maxLen; omega) (by omega) (by have := hlit.lt; omega) ?_)
            intro v' W2 hown2 hgr _ hloc
            have hS := (hS1.grow (Fr.of_grown hgr) (fun b e => .inl (.inl e)))
            have hE := hE1.fr (Fr.of_grown hgr) (fun e => by have := hvb bx e; omega)
            have hown3 : W2.ownsRow w.heap.size 32 1 v' (L ++ [(C0 k).txn]).length (NumC (L ++ [(C0 k).txn])) := by
              rw [List.length_append]; unfold NumC; rw [List.map_append]; exact hown2
            have hKn : ∀ b, v'.ownBlock = some b → (((v.ownBlock = some b ∨ b = bx) ∨ b = br) ∨ (V1.heap.size ≤ b ∧ b < W2.heap.size)) := fun b hb => by
              rcases hloc with e | e
              · exact .inl (.inl (.inl (by rw [← e]; exact hb)))
              · have e2 : V1.heap.size = b := by rw [hb] at e; exact (Option.some.inj e).symm
                exact .inr ⟨by omega, (hown2.lt b hb).2⟩
            have hown := Lib.hid hown3
            replace hKn := Lib.hid hKn
            clear hown1 hown2 hown3 hE1 hS1 hgr hloc hlit hvb hB hb0
            (try simp only [Act.put, List.getElem_toArray, List.getElem_cons_zero, List.getElem_cons_succ, List.setIfInBounds_toArray, List.set_cons_zero, List.set_cons_succ])
            refine wpl_val ?_ rfl ?_ ?_
            rotate_left
            · (go_simp; (try with_reducible rfl))
            (try simp only [Act.put, List.getElem_toArray, List.getElem_cons_zero, List.getElem_cons_succ, List.setIfInBounds_toArray, List.set_cons_zero, List.set_cons_succ])
            refine wpList_nil ?_
            obtain ⟨V, rfl⟩ : ∃ V, V = W2 := ⟨_, rfl⟩
            have hd20 : decide ((20 : Int) < (M.last : Int)) = false := by simp; omega
            go_upto_region 20 with (fail)
            refine wp_region_lit ?_
            refine wpl_val ?_ rfl ?_ ?_
            rotate_left
            · (go_simp; (try with_reducible rfl))
            (try simp only [Act.put, List.getElem_toArray, List.getElem_cons_zero, List.setIfInBounds_toArray, List.set_cons_zero, List.set_cons_succ])
            refine wpl_val ?_ rfl ?_ ?_
            rotate_left
            · (have c0 := (show V.cell? ⟨bx, 0, none⟩ = some (.int .u8 (C0 k).kind) by rw [hE.cell]; rfl); go_simp; (try with_reducible rfl))
            (try simp only [Act.put, List.getElem_toArray, List.getElem_cons_zero, List.getElem_cons_succ, List.setIfInBounds_toArray, List.set_cons_zero, List.set_cons_succ])
            refine wpl_val ?_ rfl ?_ ?_
            rotate_left
            · (go_simp; (try with_reducible rfl))
            (try simp only [Act.put, List.getElem_toArray, List.getElem_cons_zero, List.getElem_cons_succ, List.setIfInBounds_toArray, List.set_cons_zero, List.set_cons_succ])
            refine wpl_val ?_ rfl ?_ ?_
            rotate_left
            · (go_simp; (try with_reducible rfl))
            (try simp only [Act.put, List.getElem_toArray, List.getElem_cons_zero, List.getElem_cons_succ, List.setIfInBounds_toArray, List.set_cons_zero, List.set_cons_succ])
            refine wpl_val ?_ rfl ?_ ?_
            rotate_left
            · (go_simp; (try with_reducible rfl))
            (try simp only [Act.put, List.getElem_toArray, List.getElem_cons_zero, List.getElem_cons_succ, List.setIfInBounds_toArray, List.set_cons_zero, List.set_cons_succ])
            have hla := hS.last
            rw [hl.out] at hla
            refine wpl_call _ _ rfl (by go_simp) _ hla ?_
            rintro e w6 ⟨rfl, rfl⟩
            refine ⟨_, rfl, ?_⟩
            (try simp only [Act.put, List.getElem_toArray, List.getElem_cons_zero, List.getElem_cons_succ, List.setIfInBounds_toArray, List.set_cons_zero, List.set_cons_succ])
            refine wpl_val ?_ rfl ?_ ?_
            rotate_left
            · (go_simp; (try with_reducible rfl))
            (try simp only [Act.put, List.getElem_toArray, List.getElem_cons_zero, List.getElem_cons_succ, List.setIfInBounds_toArray, List.set_cons_zero, List.set_cons_succ])
            refine wpl_val ?_ rfl ?_ ?_
            rotate_left
            · (go_simp; (try with_reducible rfl))
            (try simp only [Act.put, List.getElem_toArray, List.getElem_cons_zero, List.getElem_cons_succ, List.setIfInBounds_toArray, List.set_cons_zero, List.set_cons_succ])
            refine wpl_val ?_ rfl ?_ ?_
            rotate_left
            · (go_simp; (try with_reducible rfl))
            (try simp only [Act.put, List.getElem_toArray, List.getElem_cons_zero, List.getElem_cons_succ, List.setIfInBounds_toArray, List.set_cons_zero, List.set_cons_succ])
            refine wpl_val ?_ rfl ?_ ?_
            rotate_left
            · (go_simp; (try with_reducible rfl))
            (try simp only [Act.put, List.getElem_toArray, List.getElem_cons_zero, List.getElem_cons_succ, List.setIfInBounds_toArray, List.set_cons_zero, List.set_cons_succ])
            refine wpl_val ?_ rfl ?_ ?_
            rotate_left
            · (go_simp; (try with_reducible rfl))
            (try simp only [Act.put, List.getElem_toArray, List.getElem_cons_zero, List.getElem_cons_succ, List.setIfInBounds_toArray, List.set_cons_zero, List.set_cons_succ])
            refine wpl_call _ _ rfl (by go_simp) _ hla ?_
            rintro e w6 ⟨rfl, rfl⟩
            refine ⟨_, rfl, ?_⟩
            (try simp only [Act.put, List.getElem_toArray, List.getElem_cons_zero, List.getElem_cons_succ, List.setIfInBounds_toArray, List.set_cons_zero, List.set_cons_succ])
            clear hla
            refine wpl_val ?_ rfl ?_ ?_
            rotate_left
            · (go_simp; (try with_reducible rfl))
            (try simp only [Act.put, List.getElem_toArray, List.getElem_cons_zero, List.getElem_cons_succ, List.setIfInBounds_toArray, List.set_cons_zero, List.set_cons_succ])
            refine wpl_val ?_ rfl ?_ ?_
            rotate_left
            · (go_simp; (try with_reducible rfl))
            (try simp only [Act.put, List.getElem_toArray, List.getElem_cons_zero, List.getElem_cons_succ, List.setIfInBounds_toArray, List.set_cons_zero, List.set_cons_succ])
            refine wpList_nil ?_
            go_wp2_with fail
            go_roundw
            case rel => exact ⟨k + 1, M', L ++ [(C0 k).txn], by go_num, by omega, hS.more hKn.out, hRs.out, by simp; omega, hown.out⟩
            case measure => simp [intOf]; omega
          · have hk2' : ((C0 k).kind == 2) = false := by simp [hk2]
            go_upto_region 11 with (fail)
            refine wp_region_lit ?_
            refine wpl_val ?_ rfl ?_ ?_
            rotate_left
            · (go_simp; (try with_reducible rfl))
            (try simp only [Act.put, List.getElem_toArray, List.getElem_cons_zero, List.setIfInBounds_toArray, List.set_cons_zero, List.set_cons_succ])
            refine wpl_val ?_ rfl ?_ ?_
            rotate_left
            · (have c0 := (show V.cell? ⟨bx, 0, none⟩ = some (.int .u8 (C0 k).kind) by rw [hE.cell]; rfl); go_simp; (try with_reducible rfl))
            (try simp only [Act.put, List.getElem_toArray, List.getElem_cons_zero, List.getElem_cons_succ, List.setIfInBounds_toArray, List.set_cons_zero, List.set_cons_succ])
            refine wpl_val ?_ rfl ?_ ?_
            rotate_left
            · (go_simp; (try with_reducible rfl))
            (try simp only [Act.put, List.getElem_toArray, List.getElem_cons_zero, List.getElem_cons_succ, List.setIfInBounds_toArray, List.set_cons_zero, List.set_cons_succ])
            refine wpl_val ?_ rfl ?_ ?_
            rotate_left
            · (go_simp; (try with_reducible rfl))
            (try simp only [Act.put, List.getElem_toArray, List.getElem_cons_zero, List.getElem_cons_succ, List.setIfInBounds_toArray, List.set_cons_zero, List.set_cons_succ])
            refine wpList_nil ?_
            go_upto_region 14 with (fail)
            refine wp_region_lit ?_
            refine wpl_val ?_ rfl ?_ ?_
            rotate_left
            · (go_simp; (try with_reducible rfl))
            (try simp only [Act.put, List.getElem_toArray, List.getElem_cons_zero, List.setIfInBounds_toArray, List.set_cons_zero, List.set_cons_succ])
            refine wpl_val ?_ rfl ?_ ?_
            rotate_left
            · (have c0 := (show V.cell? ⟨bx, 0, none⟩ = some (.int .u8 (C0 k).kind) by rw [hE.cell]; rfl); go_simp; (try with_reducible rfl))
            (try simp only [Act.put, List.getElem_toArray, List.getElem_cons_zero, List.getElem_cons_succ, List.setIfInBounds_toArray, List.set_cons_zero, List.set_cons_succ])
            refine wpl_val ?_ rfl ?_ ?_
            rotate_left
            · (go_simp; (try with_reducible rfl))
            (try simp only [Act.put, List.getElem_toArray, List.getElem_cons_zero, List.getElem_cons_succ, List.setIfInBounds_toArray, List.set_cons_zero, List.set_cons_succ])
            refine wpl_val ?_ rfl ?_ ?_
            rotate_left
            · (go_simp; (try with_reducible rfl))
            (try simp only [Act.put, List.getElem_toArray, List.getElem_cons_zero, List.getElem_cons_succ, List.setIfInBounds_toArray, List.set_cons_zero, List.set_cons_succ])
            refine wpList_nil ?_
            by_cases hk3 : (C0 k).kind = 3
            · have hk3' : ((C0 k).kind == 3) = true := by simp [hk3]
              obtain ⟨hRs, hin, hout⟩ := hR.out.com he.out hk3
              have hl20' : M'.last ≤ 20 := by have h1 := hS.ok.lm; have h2 := hRs.max; omega
              have hd20 : decide ((20 : Int) < (M'.last : Int)) = false := by simp; omega
              replace hRs := Lib.hid hRs
              replace hk3 := Lib.hid hk3
              clear hk0 hk2
              go_upto_region 16 with (fail)
              refine wp_region_lit ?_
              refine wpl_val ?_ rfl ?_ ?_
              rotate_left
              · (go_simp; (try with_reducible rfl))
              (try simp only [Act.put, List.getElem_toArray, List.getElem_cons_zero, List.setIfInBounds_toArray, List.set_cons_zero, List.set_cons_succ])
              refine wpl_val ?_ rfl ?_ ?_
              rotate_left
              · (have c0 := (show V.cell? ⟨bx, 0, none⟩ = some (.int .u8 (C0 k).kind) by rw [hE.cell]; rfl); go_simp; (try with_reducible rfl))
              (try simp only [Act.put, List.getElem_toArray, List.getElem_cons_zero, List.getElem_cons_succ, List.setIfInBounds_toArray, List.set_cons_zero, List.set_cons_succ])
              refine wpl_val ?_ rfl ?_ ?_
              rotate_left
              · (go_simp; (try with_reducible rfl))
              (try simp only [Act.put, List.getElem_toArray, List.getElem_cons_zero, List.getElem_cons_succ, List.setIfInBounds_toArray, List.set_cons_zero, List.set_cons_succ])
              refine wpl_val ?_ rfl ?_ ?_
              rotate_left
              · (go_simp; (try with_reducible rfl))
              (try simp only [Act.put, List.getElem_toArray, List.getElem_cons_zero, List.getElem_cons_succ, List.setIfInBounds_toArray, List.set_cons_zero, List.set_cons_succ])
              refine wpList_nil ?_
              go_upto_region 17 with (fail)
              refine wp_region_lit ?_
              refine wpl_val ?_ rfl ?_ ?_
              rotate_left
              · (go_simp; (try with_reducible rfl))
              (try simp only [Act.put, List.getElem_toArray, List.getElem_cons_zero, List.setIfInBounds_toArray, List.set_cons_zero, List.set_cons_succ])
              refine wpl_val ?_ rfl ?_ ?_
              rotate_left
              · (go_simp; (try with_reducible rfl))
              (try simp only [Act.put, List.getElem_toArray, List.getElem_cons_zero, List.getElem_cons_succ, List.setIfInBounds_toArray, List.set_cons_zero, List.set_cons_succ])
              refine wpl_val ?_ rfl ?_ ?_
              rotate_left
              · (have c0 := (show V.cell? ⟨bx, 1, none⟩ = some (.int .u64 (C0 k).txn) by rw [hE.cell]; rfl); go_simp; (try with_reducible rfl))
              (try simp only [Act.put, List.getElem_toArray, List.getElem_cons_zero, List.getElem_cons_succ, List.setIfInBounds_toArray, List.set_cons_zero, List.set_cons_succ])
              refine wpl_call _ _ rfl (by go_simp) _ (has_any w.heap.size v L (C0 k).txn _ hown.out) ?_
              rintro e w6 ⟨rfl, rfl⟩
              refine ⟨_, rfl, ?_⟩
              by_cases hx : (C0 k).txn ∈ L
              · obtain ⟨h1, h2⟩ := hin hx
                rw [decide_eq_true hx]
                have hwr : IntKind.u32.wrap ((M.last : Int) + 1) = ((M.last + 1 : Nat) : Int) := by rw [IntWalk.u32_in _ (by omega)]; rfl
                have hb2 : Hid (V.cell? ⟨br, 2, none⟩ = some (.int .u32 ((M.last + 1 : Nat) : Int))) := by
                  unfold Hid
                  rw [hB.cell]
                  show some (Value.int .u32 r.ts) = _
                  rw [h1]
                have hla := hS.last
                rw [h2] at hla
                replace hla := Lib.hid hla
                have hl2 := Lib.hid h2
                clear hx hin hout h1 h2
                (try simp only [Act.put, List.getElem_toArray, List.getElem_cons_zero, List.getElem_cons_succ, List.setIfInBounds_toArray, List.set_cons_zero, List.set_cons_succ])
                refine wpl_val ?_ rfl ?_ ?_
                rotate_left
                · (go_simp; (try with_reducible rfl))
                (try simp only [Act.put, List.getElem_toArray, List.getElem_cons_zero, List.getElem_cons_succ, List.setIfInBounds_toArray, List.set_cons_zero, List.set_cons_succ])
                refine wpList_nil ?_
                go_upto_region 18 with (fail)
                have hSd := hS.drew
                have hEd := hE.drew
                have hwd := Lib.hid (own_fr hown.out (Fr.refl (fun _ => False) V).drew (fun b _ e => e))
                refine wp_region_held (S := (fun w' => Hid (w' = V.drew))) (by kernel_rfl) ?_
                change wpAnyH _ _ _ _ _ _ _ _ (World.drew _)
                (try simp only [Act.put])
                obtain ⟨V1, hV1⟩ : ∃ V1, V.drew = V1 := ⟨_, rfl⟩
                rw [hV1] at hSd hEd hwd ⊢
                replace hV1 := Lib.hid hV1
                clear hS hE hown
                have hS : Hid (V1 = V1) := rfl
                have hbd : Hid (V1.cell? ⟨br, 2, none⟩ = some (.int .u32 ((M.last + 1 : Nat) : Int))) := by
                  unfold Hid
                  have h1 := hb2.out
                  rw [← hV1.out]
                  exact h1
                have hlad : Hid (Calls Try.prog 14 #[.pointer (some ⟨c, 0, none⟩)] V1 fun e w' => e = .returned (.int .u32 ((M.last + 1 : Nat) : Int)) ∧ Hid (w' = V1)) := by
                  have h1 := hSd.last
                  rw [hl2.out] at h1
                  exact h1.mono fun e w' ⟨a, b⟩ => ⟨a, b.symm⟩
                clear hb2 hla hV1 hl2
                refine anyH_pure 0 _ ?_ rfl (by kernel_rfl) (by kernel_rfl) (by kernel_rfl) (fun _ _ _ h => h) rfl ?_ hS ?_
                rotate_left
                · (intro w'; go_simp; (try with_reducible rfl))
                (try simp only [Act.put, List.getElem_toArray, List.getElem_cons_zero, List.setIfInBounds_toArray, List.set_cons_zero, List.set_cons_succ])
                refine anyH_pure 1 _ ?_ rfl (by kernel_rfl) (by kernel_rfl) (by kernel_rfl) (fun _ _ _ h => h) rfl ?_ hS ?_
                rotate_left
                · (intro w'; go_simp; (try with_reducible rfl))
                (try simp only [Act.put, List.getElem_toArray, List.getElem_cons_zero, List.getElem_cons_succ, List.setIfInBounds_toArray, List.set_cons_zero, List.set_cons_succ])
                refine anyH_pure 2 _ ?_ rfl (by kernel_rfl) (by kernel_rfl) (by kernel_rfl) (fun _ _ _ h => h) rfl ?_ hS ?_
                rotate_left
                · (intro w'; go_simp; (try with_reducible rfl))
                (try simp only [Act.put, List.getElem_toArray, List.getElem_cons_zero, List.getElem_cons_succ, List.setIfInBounds_toArray, List.set_cons_zero, List.set_cons_succ])
                refine anyH_if 3 _ ?_ rfl (by kernel_rfl) (by kernel_rfl) (by kernel_rfl) (fun _ _ _ h => h) rfl ?_ hS ?_
                rotate_left
                · (intro w' h; have c0 := (show w'.cell? ⟨br, 2, none⟩ = some (.int .u32 ((M.last + 1 : Nat) : Int)) by rw [h.out]; exact hbd.out); go_simp; (try with_reducible rfl))
                (try simp only [Act.put, List.getElem_toArray, List.getElem_cons_zero, List.getElem_cons_succ, List.setIfInBounds_toArray, List.set_cons_zero, List.set_cons_succ])
                refine anyH_pure 4 _ ?_ rfl (by kernel_rfl) (by kernel_rfl) (by kernel_rfl) (fun _ _ _ h => h) rfl ?_ hS ?_
                rotate_left
                · (intro w'; go_simp; (try with_reducible rfl))
                (try simp only [Act.put, List.getElem_toArray, List.getElem_cons_zero, List.getElem_cons_succ, List.setIfInBounds_toArray, List.set_cons_zero, List.set_cons_succ])
                refine anyH_pure 5 _ ?_ rfl (by kernel_rfl) (by kernel_rfl) (by kernel_rfl) (fun _ _ _ h => h) rfl ?_ hS ?_
                rotate_left
                · (intro w'; go_simp; (try with_reducible rfl))
                (try simp only [Act.put, List.getElem_toArray, List.getElem_cons_zero, List.getElem_cons_succ, List.setIfInBounds_toArray, List.set_cons_zero, List.set_cons_succ])
                refine anyH_pure 6 _ ?_ rfl (by kernel_rfl) (by kernel_rfl) (by kernel_rfl) (fun _ _ _ h => h) rfl ?_ hS ?_
                rotate_left
                · (intro w'; go_simp; (try with_reducible rfl))
                (try simp only [Act.put, List.getElem_toArray, List.getElem_cons_zero, List.getElem_cons_succ, List.setIfInBounds_toArray, List.set_cons_zero, List.set_cons_succ])
                refine anyH_pure 7 _ ?_ rfl (by kernel_rfl) (by kernel_rfl) (by kernel_rfl) (fun _ _ _ h => h) rfl ?_ hS ?_
                rotate_left
                · (intro w'; go_simp; (try with_reducible rfl))
                (try simp only [Act.put, List.getElem_toArray, List.getElem_cons_zero, List.getElem_cons_succ, List.setIfInBounds_toArray, List.set_cons_zero, List.set_cons_succ])
                refine anyH_pure 8 _ ?_ rfl (by kernel_rfl) (by kernel_rfl) (by kernel_rfl) (fun _ _ _ h => h) rfl ?_ hS ?_
                rotate_left
                · (intro w'; go_simp; (try with_reducible rfl))
                (try simp only [Act.put, List.getElem_toArray, List.getElem_cons_zero, List.getElem_cons_succ, List.setIfInBounds_toArray, List.set_cons_zero, List.set_cons_succ])
                refine anyH_pure 10 _ ?_ rfl (by kernel_rfl) (by kernel_rfl) (by kernel_rfl) (fun _ _ _ h => h) rfl ?_ hS ?_
                rotate_left
                · (intro w'; go_simp; (try with_reducible rfl))
                (try simp only [Act.put, List.getElem_toArray, List.getElem_cons_zero, List.getElem_cons_succ, List.setIfInBounds_toArray, List.set_cons_zero, List.set_cons_succ])
                refine anyH_if 11 _ ?_ rfl (by kernel_rfl) (by kernel_rfl) (by kernel_rfl) (fun _ _ _ h => h) rfl ?_ hS ?_
                rotate_left
                · (intro w' h; have c0 := (show w'.cell? ⟨br, 2, none⟩ = some (.int .u32 ((M.last + 1 : Nat) : Int)) by rw [h.out]; exact hbd.out); go_simp; (try with_reducible rfl))
                (try simp only [Act.put, List.getElem_toArray, List.getElem_cons_zero, List.getElem_cons_succ, List.setIfInBounds_toArray, List.set_cons_zero, List.set_cons_succ])
                refine anyH_call 9 _ _ _ _ (by kernel_rfl) rfl rfl (by go_simp) (hlad.out) (fun w' hS => ?_)
                (try simp only [Act.put, List.getElem_toArray, List.getElem_cons_zero, List.getElem_cons_succ, List.setIfInBounds_toArray, List.set_cons_zero, List.set_cons_succ])
                refine anyH_pure 12 _ ?_ rfl (by kernel_rfl) (by kernel_rfl) (by kernel_rfl) (fun _ _ _ h => h) rfl ?_ hS ?_
                rotate_left
                · (intro w'; go_simp; (try with_reducible rfl))
                (try simp only [Act.put, List.getElem_toArray, List.getElem_cons_zero, List.getElem_cons_succ, List.setIfInBounds_toArray, List.set_cons_zero, List.set_cons_succ])
                refine anyH_pure 13 _ ?_ rfl (by kernel_rfl) (by kernel_rfl) (by kernel_rfl) (fun _ _ _ h => h) rfl ?_ hS ?_
                rotate_left
                · (intro w'; go_simp; (try with_reducible rfl))
                (try simp only [Act.put, List.getElem_toArray, List.getElem_cons_zero, List.getElem_cons_succ, List.setIfInBounds_toArray, List.set_cons_zero, List.set_cons_succ])
                refine anyH_pure 14 _ ?_ rfl (by kernel_rfl) (by kernel_rfl) (by kernel_rfl) (fun _ _ _ h => h) rfl ?_ hS ?_
                rotate_left
                · (intro w'; go_simp; (try with_reducible rfl))
                (try simp only [Act.put, List.getElem_toArray, List.getElem_cons_zero, List.getElem_cons_succ, List.setIfInBounds_toArray, List.set_cons_zero, List.set_cons_succ])
                refine anyH_pure 15 _ ?_ rfl (by kernel_rfl) (by kernel_rfl) (by kernel_rfl) (fun _ _ _ h => h) rfl ?_ hS ?_
                rotate_left
                · (intro w'; go_simp; (try with_reducible rfl))
                (try simp only [Act.put, List.getElem_toArray, List.getElem_cons_zero, List.getElem_cons_succ, List.setIfInBounds_toArray, List.set_cons_zero, List.set_cons_succ])
                refine anyH_pure 16 _ ?_ rfl (by kernel_rfl) (by kernel_rfl) (by kernel_rfl) (fun _ _ _ h => h) rfl ?_ hS ?_
                rotate_left
                · (intro w'; go_simp; (try with_reducible rfl))
                (try simp only [Act.put, List.getElem_toArray, List.getElem_cons_zero, List.getElem_cons_succ, List.setIfInBounds_toArray, List.set_cons_zero, List.set_cons_succ])
                refine anyH_pure 17 _ ?_ rfl (by kernel_rfl) (by kernel_rfl) (by kernel_rfl) (fun _ _ _ h => h) rfl ?_ hS ?_
                rotate_left
                · (intro w'; go_simp; (try with_reducible rfl))
                (try simp only [Act.put, List.getElem_toArray, List.getElem_cons_zero, List.getElem_cons_succ, List.setIfInBounds_toArray, List.set_cons_zero, List.set_cons_succ])
                refine anyH_pure 18 _ ?_ rfl (by kernel_rfl) (by kernel_rfl) (by kernel_rfl) (fun _ _ _ h => h) rfl ?_ hS ?_
                rotate_left
                · (intro w'; go_simp; (try with_reducible rfl))
                (try simp only [Act.put, List.getElem_toArray, List.getElem_cons_zero, List.getElem_cons_succ, List.setIfInBounds_toArray, List.set_cons_zero, List.set_cons_succ])
                refine anyH_skip 19 _ rfl (by kernel_rfl) (by kernel_rfl) (by kernel_rfl) (fun _ _ _ h => h) rfl hS ?_
                (try simp only [Act.put, List.getElem_toArray, List.getElem_cons_zero, List.getElem_cons_succ, List.setIfInBounds_toArray, List.set_cons_zero, List.set_cons_succ])
                refine anyH_skip 20 _ rfl (by kernel_rfl) (by kernel_rfl) (by kernel_rfl) (fun _ _ _ h => h) rfl hS ?_
                (try simp only [Act.put, List.getElem_toArray, List.getElem_cons_zero, List.getElem_cons_succ, List.setIfInBounds_toArray, List.set_cons_zero, List.set_cons_succ])
                refine anyH_skip 21 _ rfl (by kernel_rfl) (by kernel_rfl) (by kernel_rfl) (fun _ _ _ h => h) rfl hS ?_
                (try simp only [Act.put, List.getElem_toArray, List.getElem_cons_zero, List.getElem_cons_succ, List.setIfInBounds_toArray, List.set_cons_zero, List.set_cons_succ])
                refine anyH_skip 22 _ rfl (by kernel_rfl) (by kernel_rfl) (by kernel_rfl) (fun _ _ _ h => h) rfl hS ?_
                (try simp only [Act.put, List.getElem_toArray, List.getElem_cons_zero, List.getElem_cons_succ, List.setIfInBounds_toArray, List.set_cons_zero, List.set_cons_succ])
                refine anyH_skip 23 _ rfl (by kernel_rfl) (by kernel_rfl) (by kernel_rfl) (fun _ _ _ h => h) rfl hS ?_
                (try simp only [Act.put, List.getElem_toArray, List.getElem_cons_zero, List.getElem_cons_succ, List.setIfInBounds_toArray, List.set_cons_zero, List.set_cons_succ])
                refine anyH_skip 24 _ rfl (by kernel_rfl) (by kernel_rfl) (by kernel_rfl) (fun _ _ _ h => h) rfl hS ?_
                (try simp only [Act.put, List.getElem_toArray, List.getElem_cons_zero, List.getElem_cons_succ, List.setIfInBounds_toArray, List.set_cons_zero, List.set_cons_succ])
                refine anyH_skip 25 _ rfl (by kernel_rfl) (by kernel_rfl) (by kernel_rfl) (fun _ _ _ h => h) rfl hS ?_
                (try simp only [Act.put, List.getElem_toArray, List.getElem_cons_zero, List.getElem_cons_succ, List.setIfInBounds_toArray, List.set_cons_zero, List.set_cons_succ])
                refine anyH_skip 26 _ rfl (by kernel_rfl) (by kernel_rfl) (by kernel_rfl) (fun _ _ _ h => h) rfl hS ?_
                (try simp only [Act.put, List.getElem_toArray, List.getElem_cons_zero, List.getElem_cons_succ, List.setIfInBounds_toArray, List.set_cons_zero, List.set_cons_succ])
                refine anyH_skip 27 _ rfl (by kernel_rfl) (by kernel_rfl) (by kernel_rfl) (fun _ _ _ h => h) rfl hS ?_
                (try simp only [Act.put, List.getElem_toArray, List.getElem_cons_zero, List.getElem_cons_succ, List.setIfInBounds_toArray, List.set_cons_zero, List.set_cons_succ])
                refine anyH_skip 28 _ rfl (by kernel_rfl) (by kernel_rfl) (by kernel_rfl) (fun _ _ _ h => h) rfl hS ?_
                (try simp only [Act.put, List.getElem_toArray, List.getElem_cons_zero, List.getElem_cons_succ, List.setIfInBounds_toArray, List.set_cons_zero, List.set_cons_succ])
                refine anyH_pure 29 _ ?_ rfl (by kernel_rfl) (by kernel_rfl) (by kernel_rfl) (fun _ _ _ h => h) rfl ?_ hS ?_
                rotate_left
                · (intro w'; go_simp; (try with_reducible rfl))
                (try simp only [Act.put, List.getElem_toArray, List.getElem_cons_zero, List.getElem_cons_succ, List.setIfInBounds_toArray, List.set_cons_zero, List.set_cons_succ])
                refine anyH_pure 30 _ ?_ rfl (by kernel_rfl) (by kernel_rfl) (by kernel_rfl) (fun _ _ _ h => h) rfl ?_ hS ?_
                rotate_left
                · (intro w'; go_simp; (try with_reducible rfl))
                (try simp only [Act.put, List.getElem_toArray, List.getElem_cons_zero, List.getElem_cons_succ, List.setIfInBounds_toArray, List.set_cons_zero, List.set_cons_succ])
                refine wpAnyH_done (by kernel_rfl) ?_ _
                obtain rfl := hS.out
                clear hlad hbd
                obtain ⟨V, rfl⟩ : ∃ V, V = w' := ⟨_, rfl⟩
                have hS := hSd
                have hE := hEd
                go_upto_region 20 with (fail)
                refine wp_region_lit ?_
                refine wpl_val ?_ rfl ?_ ?_
                rotate_left
                · (go_simp; (try with_reducible rfl))
                (try simp only [Act.put, List.getElem_toArray, List.getElem_cons_zero, List.setIfInBounds_toArray, List.set_cons_zero, List.set_cons_succ])
                refine wpl_val ?_ rfl ?_ ?_
                rotate_left
                · (have c0 := (show V.cell? ⟨bx, 0, none⟩ = some (.int .u8 3) by rw [hE.cell]; show some (Value.int .u8 (C0 k).kind) = _; rw [hk3.out]); go_simp; (try with_reducible rfl))
                (try simp only [Act.put, List.getElem_toArray, List.getElem_cons_zero, List.getElem_cons_succ, List.setIfInBounds_toArray, List.set_cons_zero, List.set_cons_succ])
                refine wpl_val ?_ rfl ?_ ?_
                rotate_left
                · (go_simp; (try with_reducible rfl))
                (try simp only [Act.put, List.getElem_toArray, List.getElem_cons_zero, List.getElem_cons_succ, List.setIfInBounds_toArray, List.set_cons_zero, List.set_cons_succ])
                refine wpl_val ?_ rfl ?_ ?_
                rotate_left
                · (go_simp; (try with_reducible rfl))
                (try simp only [Act.put, List.getElem_toArray, List.getElem_cons_zero, List.getElem_cons_succ, List.setIfInBounds_toArray, List.set_cons_zero, List.set_cons_succ])
                refine wpl_skip rfl ?_
                (try simp only [Act.put, List.getElem_toArray, List.getElem_cons_zero, List.getElem_cons_succ, List.setIfInBounds_toArray, List.set_cons_zero, List.set_cons_succ])
                refine wpl_skip rfl ?_
                (try simp only [Act.put, List.getElem_toArray, List.getElem_cons_zero, List.getElem_cons_succ, List.setIfInBounds_toArray, List.set_cons_zero, List.set_cons_succ])
                refine wpl_skip rfl ?_
                (try simp only [Act.put, List.getElem_toArray, List.getElem_cons_zero, List.getElem_cons_succ, List.setIfInBounds_toArray, List.set_cons_zero, List.set_cons_succ])
                refine wpl_skip rfl ?_
                (try simp only [Act.put, List.getElem_toArray, List.getElem_cons_zero, List.getElem_cons_succ, List.setIfInBounds_toArray, List.set_cons_zero, List.set_cons_succ])
                refine wpl_val ?_ rfl ?_ ?_
                rotate_left
                · (go_simp; (try with_reducible rfl))
                (try simp only [Act.put, List.getElem_toArray, List.getElem_cons_zero, List.getElem_cons_succ, List.setIfInBounds_toArray, List.set_cons_zero, List.set_cons_succ])
                refine wpl_val ?_ rfl ?_ ?_
                rotate_left
                · (go_simp; (try with_reducible rfl))
                (try simp only [Act.put, List.getElem_toArray, List.getElem_cons_zero, List.getElem_cons_succ, List.setIfInBounds_toArray, List.set_cons_zero, List.set_cons_succ])
                refine wpl_val ?_ rfl ?_ ?_
                rotate_left
                · (go_simp; (try with_reducible rfl))
                (try simp only [Act.put, List.getElem_toArray, List.getElem_cons_zero, List.getElem_cons_succ, List.setIfInBounds_toArray, List.set_cons_zero, List.set_cons_succ])
                refine wpl_call _ _ rfl (by go_simp) _ hS.last ?_
                rintro e w6 ⟨rfl, rfl⟩
                refine ⟨_, rfl, ?_⟩
                (try simp only [Act.put, List.getElem_toArray, List.getElem_cons_zero, List.getElem_cons_succ, List.setIfInBounds_toArray, List.set_cons_zero, List.set_cons_succ])
                refine wpl_val ?_ rfl ?_ ?_
                rotate_left
                · (go_simp; (try with_reducible rfl))
                (try simp only [Act.put, List.getElem_toArray, List.getElem_cons_zero, List.getElem_cons_succ, List.setIfInBounds_toArray, List.set_cons_zero, List.set_cons_succ])
                refine wpl_val ?_ rfl ?_ ?_
                rotate_left
                · (go_simp; (try with_reducible rfl))
                (try simp only [Act.put, List.getElem_toArray, List.getElem_cons_zero, List.getElem_cons_succ, List.setIfInBounds_toArray, List.set_cons_zero, List.set_cons_succ])
                refine wpList_nil ?_
                go_wp2_with fail
                go_roundw
                case rel => exact ⟨k + 1, M', L, by go_num, by omega, hS.more (fun b e => .inl (.inl e)), hRs.out, by omega, hwd.out⟩
                case measure => simp [intOf]; omega
              · obtain ⟨h1, h2⟩ := hout hx
                rw [decide_eq_false hx]
                have hb2 : Hid (V.cell? ⟨br, 2, none⟩ = some (.int .u32 r.ts)) := by
                  unfold Hid
                  rw [hB.cell]
                  rfl
                have hdl : decide (M.last < r.ts) = false := by simp; omega
                have hl2 := Lib.hid h2
                clear hx hin hout h1 h2
                (try simp only [Act.put, List.getElem_toArray, List.getElem_cons_zero, List.getElem_cons_succ, List.setIfInBounds_toArray, List.set_cons_zero, List.set_cons_succ])
                refine wpl_val ?_ rfl ?_ ?_
                rotate_left
                · (go_simp; (try with_reducible rfl))
                (try simp only [Act.put, List.getElem_toArray, List.getElem_cons_zero, List.getElem_cons_succ, List.setIfInBounds_toArray, List.set_cons_zero, List.set_cons_succ])
                refine wpList_nil ?_
                go_upto_region 18 with (fail)
                have hSd := hS.drew
                have hEd := hE.drew
                have hwd := Lib.hid (own_fr hown.out (Fr.refl (fun _ => False) V).drew (fun b _ e => e))
                refine wp_region_held (S := (fun w' => Hid (w' = V.drew))) (by kernel_rfl) ?_
                change wpAnyH _ _ _ _ _ _ _ _ (World.drew _)
                (try simp only [Act.put])
                obtain ⟨V1, hV1⟩ : ∃ V1, V.drew = V1 := ⟨_, rfl⟩
                rw [hV1] at hSd hEd hwd ⊢
                replace hV1 := Lib.hid hV1
                clear hS hE hown
                have hS : Hid (V1 = V1) := rfl
                have hbd : Hid (V1.cell? ⟨br, 2, none⟩ = some (.int .u32 r.ts)) := by
                  unfold Hid
                  have h1 := hb2.out
                  rw [← hV1.out]
                  exact h1
                have hlad : Hid (Calls Try.prog 14 #[.pointer (some ⟨c, 0, none⟩)] V1 fun e w' => e = .returned (.int .u32 M.last) ∧ Hid (w' = V1)) := by
                  have h1 := hSd.last
                  rw [hl2.out] at h1
                  exact h1.mono fun e w' ⟨a, b⟩ => ⟨a, b.symm⟩
                clear hb2 hV1 hl2
                refine anyH_pure 0 _ ?_ rfl (by kernel_rfl) (by kernel_rfl) (by kernel_rfl) (fun _ _ _ h => h) rfl ?_ hS ?_
                rotate_left
                · (intro w'; go_simp; (try with_reducible rfl))
                (try simp only [Act.put, List.getElem_toArray, List.getElem_cons_zero, List.setIfInBounds_toArray, List.set_cons_zero, List.set_cons_succ])
                refine anyH_pure 1 _ ?_ rfl (by kernel_rfl) (by kernel_rfl) (by kernel_rfl) (fun _ _ _ h => h) rfl ?_ hS ?_
                rotate_left
                · (intro w'; go_simp; (try with_reducible rfl))
                (try simp only [Act.put, List.getElem_toArray, List.getElem_cons_zero, List.getElem_cons_succ, List.setIfInBounds_toArray, List.set_cons_zero, List.set_cons_succ])
                refine anyH_skip 2 _ rfl (by kernel_rfl) (by kernel_rfl) (by kernel_rfl) (fun _ _ _ h => h) rfl hS ?_
                (try simp only [Act.put, List.getElem_toArray, List.getElem_cons_zero, List.getElem_cons_succ, List.setIfInBounds_toArray, List.set_cons_zero, List.set_cons_succ])
                refine anyH_skip 3 _ rfl (by kernel_rfl) (by kernel_rfl) (by kernel_rfl) (fun _ _ _ h => h) rfl hS ?_
                (try simp only [Act.put, List.getElem_toArray, List.getElem_cons_zero, List.getElem_cons_succ, List.setIfInBounds_toArray, List.set_cons_zero, List.set_cons_succ])
                refine anyH_skip 4 _ rfl (by kernel_rfl) (by kernel_rfl) (by kernel_rfl) (fun _ _ _ h => h) rfl hS ?_
                (try simp only [Act.put, List.getElem_toArray, List.getElem_cons_zero, List.getElem_cons_succ, List.setIfInBounds_toArray, List.set_cons_zero, List.set_cons_succ])
                refine anyH_skip 5 _ rfl (by kernel_rfl) (by kernel_rfl) (by kernel_rfl) (fun _ _ _ h => h) rfl hS ?_
                (try simp only [Act.put, List.getElem_toArray, List.getElem_cons_zero, List.getElem_cons_succ, List.setIfInBounds_toArray, List.set_cons_zero, List.set_cons_succ])
                refine anyH_skip 6 _ rfl (by kernel_rfl) (by kernel_rfl) (by kernel_rfl) (fun _ _ _ h => h) rfl hS ?_
                (try simp only [Act.put, List.getElem_toArray, List.getElem_cons_zero, List.getElem_cons_succ, List.setIfInBounds_toArray, List.set_cons_zero, List.set_cons_succ])
                refine anyH_skip 7 _ rfl (by kernel_rfl) (by kernel_rfl) (by kernel_rfl) (fun _ _ _ h => h) rfl hS ?_
                (try simp only [Act.put, List.getElem_toArray, List.getElem_cons_zero, List.getElem_cons_succ, List.setIfInBounds_toArray, List.set_cons_zero, List.set_cons_succ])
                refine anyH_skip 8 _ rfl (by kernel_rfl) (by kernel_rfl) (by kernel_rfl) (fun _ _ _ h => h) rfl hS ?_
                (try simp only [Act.put, List.getElem_toArray, List.getElem_cons_zero, List.getElem_cons_succ, List.setIfInBounds_toArray, List.set_cons_zero, List.set_cons_succ])
                refine anyH_skip 9 _ rfl (by kernel_rfl) (by kernel_rfl) (by kernel_rfl) (fun _ _ _ h => h) rfl hS ?_
                (try simp only [Act.put, List.getElem_toArray, List.getElem_cons_zero, List.getElem_cons_succ, List.setIfInBounds_toArray, List.set_cons_zero, List.set_cons_succ])
                refine anyH_skip 10 _ rfl (by kernel_rfl) (by kernel_rfl) (by kernel_rfl) (fun _ _ _ h => h) rfl hS ?_
                (try simp only [Act.put, List.getElem_toArray, List.getElem_cons_zero, List.getElem_cons_succ, List.setIfInBounds_toArray, List.set_cons_zero, List.set_cons_succ])
                refine anyH_skip 11 _ rfl (by kernel_rfl) (by kernel_rfl) (by kernel_rfl) (fun _ _ _ h => h) rfl hS ?_
                (try simp only [Act.put, List.getElem_toArray, List.getElem_cons_zero, List.getElem_cons_succ, List.setIfInBounds_toArray, List.set_cons_zero, List.set_cons_succ])
                refine anyH_skip 12 _ rfl (by kernel_rfl) (by kernel_rfl) (by kernel_rfl) (fun _ _ _ h => h) rfl hS ?_
                (try simp only [Act.put, List.getElem_toArray, List.getElem_cons_zero, List.getElem_cons_succ, List.setIfInBounds_toArray, List.set_cons_zero, List.set_cons_succ])
                refine anyH_skip 13 _ rfl (by kernel_rfl) (by kernel_rfl) (by kernel_rfl) (fun _ _ _ h => h) rfl hS ?_
                (try simp only [Act.put, List.getElem_toArray, List.getElem_cons_zero, List.getElem_cons_succ, List.setIfInBounds_toArray, List.set_cons_zero, List.set_cons_succ])
                refine anyH_pure 14 _ ?_ rfl (by kernel_rfl) (by kernel_rfl) (by kernel_rfl) (fun _ _ _ h => h) rfl ?_ hS ?_
                rotate_left
                · (intro w'; go_simp; (try with_reducible rfl))
                (try simp only [Act.put, List.getElem_toArray, List.getElem_cons_zero, List.getElem_cons_succ, List.setIfInBounds_toArray, List.set_cons_zero, List.set_cons_succ])
                refine anyH_pure 15 _ ?_ rfl (by kernel_rfl) (by kernel_rfl) (by kernel_rfl) (fun _ _ _ h => h) rfl ?_ hS ?_
                rotate_left
                · (intro w'; go_simp; (try with_reducible rfl))
                (try simp only [Act.put, List.getElem_toArray, List.getElem_cons_zero, List.getElem_cons_succ, List.setIfInBounds_toArray, List.set_cons_zero, List.set_cons_succ])
                refine anyH_pure 16 _ ?_ rfl (by kernel_rfl) (by kernel_rfl) (by kernel_rfl) (fun _ _ _ h => h) rfl ?_ hS ?_
                rotate_left
                · (intro w'; go_simp; (try with_reducible rfl))
                (try simp only [Act.put, List.getElem_toArray, List.getElem_cons_zero, List.getElem_cons_succ, List.setIfInBounds_toArray, List.set_cons_zero, List.set_cons_succ])
                refine anyH_pure 17 _ ?_ rfl (by kernel_rfl) (by kernel_rfl) (by kernel_rfl) (fun _ _ _ h => h) rfl ?_ hS ?_
                rotate_left
                · (intro w'; go_simp; (try with_reducible rfl))
                (try simp only [Act.put, List.getElem_toArray, List.getElem_cons_zero, List.getElem_cons_succ, List.setIfInBounds_toArray, List.set_cons_zero, List.set_cons_succ])
                refine anyH_pure 18 _ ?_ rfl (by kernel_rfl) (by kernel_rfl) (by kernel_rfl) (fun _ _ _ h => h) rfl ?_ hS ?_
                rotate_left
                · (intro w'; go_simp; (try with_reducible rfl))
                (try simp only [Act.put, List.getElem_toArray, List.getElem_cons_zero, List.getElem_cons_succ, List.setIfInBounds_toArray, List.set_cons_zero, List.set_cons_succ])
                refine anyH_pure 19 _ ?_ rfl (by kernel_rfl) (by kernel_rfl) (by kernel_rfl) (fun _ _ _ h => h) rfl ?_ hS ?_
                rotate_left
                · (intro w'; go_simp; (try with_reducible rfl))
                (try simp only [Act.put, List.getElem_toArray, List.getElem_cons_zero, List.getElem_cons_succ, List.setIfInBounds_toArray, List.set_cons_zero, List.set_cons_succ])
                refine anyH_if 20 _ ?_ rfl (by kernel_rfl) (by kernel_rfl) (by kernel_rfl) (fun _ _ _ h => h) rfl ?_ hS ?_
                rotate_left
                · (intro w' h; have c0 := (show w'.cell? ⟨br, 2, none⟩ = some (.int .u32 r.ts) by rw [h.out]; exact hbd.out); go_simp; (try with_reducible rfl))
                (try simp only [Act.put, List.getElem_toArray, List.getElem_cons_zero, List.getElem_cons_succ, List.setIfInBounds_toArray, List.set_cons_zero, List.set_cons_succ])
                refine anyH_pure 21 _ ?_ rfl (by kernel_rfl) (by kernel_rfl) (by kernel_rfl) (fun _ _ _ h => h) rfl ?_ hS ?_
                rotate_left
                · (intro w'; go_simp; (try with_reducible rfl))
                (try simp only [Act.put, List.getElem_toArray, List.getElem_cons_zero, List.getElem_cons_succ, List.setIfInBounds_toArray, List.set_cons_zero, List.set_cons_succ])
                refine anyH_pure 22 _ ?_ rfl (by kernel_rfl) (by kernel_rfl) (by kernel_rfl) (fun _ _ _ h => h) rfl ?_ hS ?_
                rotate_left
                · (intro w'; go_simp; (try with_reducible rfl))
                (try simp only [Act.put, List.getElem_toArray, List.getElem_cons_zero, List.getElem_cons_succ, List.setIfInBounds_toArray, List.set_cons_zero, List.set_cons_succ])
                refine anyH_pure 23 _ ?_ rfl (by kernel_rfl) (by kernel_rfl) (by kernel_rfl) (fun _ _ _ h => h) rfl ?_ hS ?_
                rotate_left
                · (intro w'; go_simp; (try with_reducible rfl))
                (try simp only [Act.put, List.getElem_toArray, List.getElem_cons_zero, List.getElem_cons_succ, List.setIfInBounds_toArray, List.set_cons_zero, List.set_cons_succ])
                refine anyH_pure 24 _ ?_ rfl (by kernel_rfl) (by kernel_rfl) (by kernel_rfl) (fun _ _ _ h => h) rfl ?_ hS ?_
                rotate_left
                · (intro w'; go_simp; (try with_reducible rfl))
                (try simp only [Act.put, List.getElem_toArray, List.getElem_cons_zero, List.getElem_cons_succ, List.setIfInBounds_toArray, List.set_cons_zero, List.set_cons_succ])
                refine anyH_pure 26 _ ?_ rfl (by kernel_rfl) (by kernel_rfl) (by kernel_rfl) (fun _ _ _ h => h) rfl ?_ hS ?_
                rotate_left
                · (intro w'; go_simp; (try with_reducible rfl))
                (try simp only [Act.put, List.getElem_toArray, List.getElem_cons_zero, List.getElem_cons_succ, List.setIfInBounds_toArray, List.set_cons_zero, List.set_cons_succ])
                refine anyH_call 25 _ _ _ _ (by kernel_rfl) rfl rfl (by go_simp) (hlad.out) (fun w' hS => ?_)
                (try simp only [Act.put, List.getElem_toArray, List.getElem_cons_zero, List.getElem_cons_succ, List.setIfInBounds_toArray, List.set_cons_zero, List.set_cons_succ])
                refine anyH_pure 27 _ ?_ rfl (by kernel_rfl) (by kernel_rfl) (by kernel_rfl) (fun _ _ _ h => h) rfl ?_ hS ?_
                rotate_left
                · (intro w'; go_simp; (try with_reducible rfl))
                (try simp only [Act.put, List.getElem_toArray, List.getElem_cons_zero, List.getElem_cons_succ, List.setIfInBounds_toArray, List.set_cons_zero, List.set_cons_succ])
                refine anyH_pure 28 _ ?_ rfl (by kernel_rfl) (by kernel_rfl) (by kernel_rfl) (fun _ _ _ h => h) rfl ?_ hS ?_
                rotate_left
                · (intro w'; go_simp; (try with_reducible rfl))
                (try simp only [Act.put, List.getElem_toArray, List.getElem_cons_zero, List.getElem_cons_succ, List.setIfInBounds_toArray, List.set_cons_zero, List.set_cons_succ])
                refine anyH_pure 29 _ ?_ rfl (by kernel_rfl) (by kernel_rfl) (by kernel_rfl) (fun _ _ _ h => h) rfl ?_ hS ?_
                rotate_left
                · (intro w'; go_simp; (try with_reducible rfl))
                (try simp only [Act.put, List.getElem_toArray, List.getElem_cons_zero, List.getElem_cons_succ, List.setIfInBounds_toArray, List.set_cons_zero, List.set_cons_succ])
                refine anyH_pure 30 _ ?_ rfl (by kernel_rfl) (by kernel_rfl) (by kernel_rfl) (fun _ _ _ h => h) rfl ?_ hS ?_
                rotate_left
                · (intro w'; go_simp; (try with_reducible rfl))
                (try simp only [Act.put, List.getElem_toArray, List.getElem_cons_zero, List.getElem_cons_succ, List.setIfInBounds_toArray, List.set_cons_zero, List.set_cons_succ])
                refine wpAnyH_done (by kernel_rfl) ?_ _
                obtain rfl := hS.out
                clear hlad hbd
                obtain ⟨V, rfl⟩ : ∃ V, V = w' := ⟨_, rfl⟩
                have hS := hSd
                have hE := hEd
                go_upto_region 20 with (fail)
                refine wp_region_lit ?_
                refine wpl_val ?_ rfl ?_ ?_
                rotate_left
                · (go_simp; (try with_reducible rfl))
                (try simp only [Act.put, List.getElem_toArray, List.getElem_cons_zero, List.setIfInBounds_toArray, List.set_cons_zero, List.set_cons_succ])
                refine wpl_val ?_ rfl ?_ ?_
                rotate_left
                · (have c0 := (show V.cell? ⟨bx, 0, none⟩ = some (.int .u8 3) by rw [hE.cell]; show some (Value.int .u8 (C0 k).kind) = _; rw [hk3.out]); go_simp; (try with_reducible rfl))
                (try simp only [Act.put, List.getElem_toArray, List.getElem_cons_zero, List.getElem_cons_succ, List.setIfInBounds_toArray, List.set_cons_zero, List.set_cons_succ])
                refine wpl_val ?_ rfl ?_ ?_
                rotate_left
                · (go_simp; (try with_reducible rfl))
                (try simp only [Act.put, List.getElem_toArray, List.getElem_cons_zero, List.getElem_cons_succ, List.setIfInBounds_toArray, List.set_cons_zero, List.set_cons_succ])
                refine wpl_val ?_ rfl ?_ ?_
                rotate_left
                · (go_simp; (try with_reducible rfl))
                (try simp only [Act.put, List.getElem_toArray, List.getElem_cons_zero, List.getElem_cons_succ, List.setIfInBounds_toArray, List.set_cons_zero, List.set_cons_succ])
                refine wpl_skip rfl ?_
                (try simp only [Act.put, List.getElem_toArray, List.getElem_cons_zero, List.getElem_cons_succ, List.setIfInBounds_toArray, List.set_cons_zero, List.set_cons_succ])
                refine wpl_skip rfl ?_
                (try simp only [Act.put, List.getElem_toArray, List.getElem_cons_zero, List.getElem_cons_succ, List.setIfInBounds_toArray, List.set_cons_zero, List.set_cons_succ])
                refine wpl_skip rfl ?_
                (try simp only [Act.put, List.getElem_toArray, List.getElem_cons_zero, List.getElem_cons_succ, List.setIfInBounds_toArray, List.set_cons_zero, List.set_cons_succ])
                refine wpl_skip rfl ?_
                (try simp only [Act.put, List.getElem_toArray, List.getElem_cons_zero, List.getElem_cons_succ, List.setIfInBounds_toArray, List.set_cons_zero, List.set_cons_succ])
                refine wpl_val ?_ rfl ?_ ?_
                rotate_left
                · (go_simp; (try with_reducible rfl))
                (try simp only [Act.put, List.getElem_toArray, List.getElem_cons_zero, List.getElem_cons_succ, List.setIfInBounds_toArray, List.set_cons_zero, List.set_cons_succ])
                refine wpl_val ?_ rfl ?_ ?_
                rotate_left
                · (go_simp; (try with_reducible rfl))
                (try simp only [Act.put, List.getElem_toArray, List.getElem_cons_zero, List.getElem_cons_succ, List.setIfInBounds_toArray, List.set_cons_zero, List.set_cons_succ])
                refine wpl_val ?_ rfl ?_ ?_
                rotate_left
                · (go_simp; (try with_reducible rfl))
                (try simp only [Act.put, List.getElem_toArray, List.getElem_cons_zero, List.getElem_cons_succ, List.setIfInBounds_toArray, List.set_cons_zero, List.set_cons_succ])
                refine wpl_call _ _ rfl (by go_simp) _ hS.last ?_
                rintro e w6 ⟨rfl, rfl⟩
                refine ⟨_, rfl, ?_⟩
                (try simp only [Act.put, List.getElem_toArray, List.getElem_cons_zero, List.getElem_cons_succ, List.setIfInBounds_toArray, List.set_cons_zero, List.set_cons_succ])
                refine wpl_val ?_ rfl ?_ ?_
                rotate_left
                · (go_simp; (try with_reducible rfl))
                (try simp only [Act.put, List.getElem_toArray, List.getElem_cons_zero, List.getElem_cons_succ, List.setIfInBounds_toArray, List.set_cons_zero, List.set_cons_succ])
                refine wpl_val ?_ rfl ?_ ?_
                rotate_left
                · (go_simp; (try with_reducible rfl))
                (try simp only [Act.put, List.getElem_toArray, List.getElem_cons_zero, List.getElem_cons_succ, List.setIfInBounds_toArray, List.set_cons_zero, List.set_cons_succ])
                refine wpList_nil ?_
                go_wp2_with fail
                go_roundw
                case rel => exact ⟨k + 1, M', L, by go_num, by omega, hS.more (fun b e => .inl (.inl e)), hRs.out, by omega, hwd.out⟩
                case measure => simp [intOf]; omega
            · have hk3' : ((C0 k).kind == 3) = false := by simp [hk3]
              have hk3b : ((C0 k).kind != 3) = true := by simp [hk3]
              obtain ⟨hl, hRs⟩ := hR.out.oth he.out hk0 hk2 hk3
              replace hl := Lib.hid hl
              replace hRs := Lib.hid hRs
              clear hk0 hk2 hk3
              go_upto_region 16 with (fail)
              refine wp_region_lit ?_
              refine wpl_val ?_ rfl ?_ ?_
              rotate_left
              · (go_simp; (try with_reducible rfl))
              (try simp only [Act.put, List.getElem_toArray, List.getElem_cons_zero, List.setIfInBounds_toArray, List.set_cons_zero, List.set_cons_succ])
              refine wpl_val ?_ rfl ?_ ?_
              rotate_left
              · (have c0 := (show V.cell? ⟨bx, 0, none⟩ = some (.int .u8 (C0 k).kind) by rw [hE.cell]; rfl); go_simp; (try with_reducible rfl))
              (try simp only [Act.put, List.getElem_toArray, List.getElem_cons_zero, List.getElem_cons_succ, List.setIfInBounds_toArray, List.set_cons_zero, List.set_cons_succ])
              refine wpl_val ?_ rfl ?_ ?_
              rotate_left
              · (go_simp; (try with_reducible rfl))
              (try simp only [Act.put, List.getElem_toArray, List.getElem_cons_zero, List.getElem_cons_succ, List.setIfInBounds_toArray, List.set_cons_zero, List.set_cons_succ])
              refine wpl_val ?_ rfl ?_ ?_
              rotate_left
              · (go_simp; (try with_reducible rfl))
              (try simp only [Act.put, List.getElem_toArray, List.getElem_cons_zero, List.getElem_cons_succ, List.setIfInBounds_toArray, List.set_cons_zero, List.set_cons_succ])
              refine wpList_nil ?_
              have hd20 : decide ((20 : Int) < (M.last : Int)) = false := by simp; omega
              go_upto_region 20 with (fail)
              refine wp_region_lit ?_
              refine wpl_val ?_ rfl ?_ ?_
              rotate_left
              · (go_simp; (try with_reducible rfl))
              (try simp only [Act.put, List.getElem_toArray, List.getElem_cons_zero, List.setIfInBounds_toArray, List.set_cons_zero, List.set_cons_succ])
              refine wpl_val ?_ rfl ?_ ?_
              rotate_left
              · (have c0 := (show V.cell? ⟨bx, 0, none⟩ = some (.int .u8 (C0 k).kind) by rw [hE.cell]; rfl); go_simp; (try with_reducible rfl))
              (try simp only [Act.put, List.getElem_toArray, List.getElem_cons_zero, List.getElem_cons_succ, List.setIfInBounds_toArray, List.set_cons_zero, List.set_cons_succ])
              refine wpl_val ?_ rfl ?_ ?_
              rotate_left
              · (go_simp; (try with_reducible rfl))
              (try simp only [Act.put, List.getElem_toArray, List.getElem_cons_zero, List.getElem_cons_succ, List.setIfInBounds_toArray, List.set_cons_zero, List.set_cons_succ])
              refine wpl_val ?_ rfl ?_ ?_
              rotate_left
              · (go_simp; (try with_reducible rfl))
              (try simp only [Act.put, List.getElem_toArray, List.getElem_cons_zero, List.getElem_cons_succ, List.setIfInBounds_toArray, List.set_cons_zero, List.set_cons_succ])
              refine wpl_val ?_ rfl ?_ ?_
              rotate_left
              · (go_simp; (try with_reducible rfl))
              (try simp only [Act.put, List.getElem_toArray, List.getElem_cons_zero, List.getElem_cons_succ, List.setIfInBounds_toArray, List.set_cons_zero, List.set_cons_succ])
              have hla := hS.last
              rw [hl.out] at hla
              refine wpl_call _ _ rfl (by go_simp) _ hla ?_
              rintro e w6 ⟨rfl, rfl⟩
              refine ⟨_, rfl, ?_⟩
              (try simp only [Act.put, List.getElem_toArray, List.getElem_cons_zero, List.getElem_cons_succ, List.setIfInBounds_toArray, List.set_cons_zero, List.set_cons_succ])
              refine wpl_val ?_ rfl ?_ ?_
              rotate_left
              · (go_simp; (try with_reducible rfl))
              (try simp only [Act.put, List.getElem_toArray, List.getElem_cons_zero, List.getElem_cons_succ, List.setIfInBounds_toArray, List.set_cons_zero, List.set_cons_succ])
              refine wpl_val ?_ rfl ?_ ?_
              rotate_left
              · (go_simp; (try with_reducible rfl))
              (try simp only [Act.put, List.getElem_toArray, List.getElem_cons_zero, List.getElem_cons_succ, List.setIfInBounds_toArray, List.set_cons_zero, List.set_cons_succ])
              refine wpl_val ?_ rfl ?_ ?_
              rotate_left
              · (go_simp; (try with_reducible rfl))
              (try simp only [Act.put, List.getElem_toArray, List.getElem_cons_zero, List.getElem_cons_succ, List.setIfInBounds_toArray, List.set_cons_zero, List.set_cons_succ])
              refine wpl_val ?_ rfl ?_ ?_
              rotate_left
              · (go_simp; (try with_reducible rfl))
              (try simp only [Act.put, List.getElem_toArray, List.getElem_cons_zero, List.getElem_cons_succ, List.setIfInBounds_toArray, List.set_cons_zero, List.set_cons_succ])
              refine wpl_val ?_ rfl ?_ ?_
              rotate_left
              · (go_simp; (try with_reducible rfl))
              (try simp only [Act.put, List.getElem_toArray, List.getElem_cons_zero, List.getElem_cons_succ, List.setIfInBounds_toArray, List.set_cons_zero, List.set_cons_succ])
              refine wpl_call _ _ rfl (by go_simp) _ hla ?_
              rintro e w6 ⟨rfl, rfl⟩
              refine ⟨_, rfl, ?_⟩
              (try simp only [Act.put, List.getElem_toArray, List.getElem_cons_zero, List.getElem_cons_succ, List.setIfInBounds_toArray, List.set_cons_zero, List.set_cons_succ])
              clear hla
              refine wpl_val ?_ rfl ?_ ?_
              rotate_left
              · (go_simp; (try with_reducible rfl))
              (try simp only [Act.put, List.getElem_toArray, List.getElem_cons_zero, List.getElem_cons_succ, List.setIfInBounds_toArray, List.set_cons_zero, List.set_cons_succ])
              refine wpl_val ?_ rfl ?_ ?_
              rotate_left
              · (go_simp; (try with_reducible rfl))
              (try simp only [Act.put, List.getElem_toArray, List.getElem_cons_zero, List.getElem_cons_succ, List.setIfInBounds_toArray, List.set_cons_zero, List.set_cons_succ])
              refine wpList_nil ?_
              go_wp2_with fail
              go_roundw
              case rel => exact ⟨k + 1, M', L, by go_num, by omega, hS.more (fun b e => .inl (.inl e)), hRs.out, by omega, hown.out⟩
              case measure => simp [intOf]; omega
      · have hb0 : Hid (V.cell? ⟨br, 0, none⟩ = some (.int .i64 r.e)) := by
          unfold Hid
          rw [hB.cell]
          rfl
        have hen : (r.e != 0) = true := by simp [he]
        obtain ⟨hl, hRs⟩ := hR.out.bad he
        have hl20' : M'.last ≤ 20 := by omega
        replace hl := Lib.hid hl
        replace hRs := Lib.hid hRs
        clear he
        go_upto_region 10 with (fail)
        refine wp_region_lit ?_
        refine wpl_val ?_ rfl ?_ ?_
        rotate_left
        · (go_simp; (try with_reducible rfl))
        (try simp only [Act.put, List.getElem_toArray, List.getElem_cons_zero, List.setIfInBounds_toArray, List.set_cons_zero, List.set_cons_succ])
        refine wpl_val ?_ rfl ?_ ?_
        rotate_left
        · (have c0 := hb0.out; go_simp; (try with_reducible rfl))
        (try simp only [Act.put, List.getElem_toArray, List.getElem_cons_zero, List.getElem_cons_succ, List.setIfInBounds_toArray, List.set_cons_zero, List.set_cons_succ])
        refine wpl_val ?_ rfl ?_ ?_
        rotate_left
        · (go_simp; (try with_reducible rfl))
        (try simp only [Act.put, List.getElem_toArray, List.getElem_cons_zero, List.getElem_cons_succ, List.setIfInBounds_toArray, List.set_cons_zero, List.set_cons_succ])
        refine wpl_val ?_ rfl ?_ ?_
        rotate_left
        · (go_simp; (try with_reducible rfl))
        (try simp only [Act.put, List.getElem_toArray, List.getElem_cons_zero, List.getElem_cons_succ, List.setIfInBounds_toArray, List.set_cons_zero, List.set_cons_succ])
        refine wpList_nil ?_
        by_cases hk3 : (C0 k).kind = 3
        · have hd20 : decide ((20 : Int) < (M'.last : Int)) = false := by simp; omega
          replace hk3 := Lib.hid hk3
          go_upto_region 20 with (fail)
          refine wp_region_lit ?_
          refine wpl_val ?_ rfl ?_ ?_
          rotate_left
          · (go_simp; (try with_reducible rfl))
          (try simp only [Act.put, List.getElem_toArray, List.getElem_cons_zero, List.setIfInBounds_toArray, List.set_cons_zero, List.set_cons_succ])
          refine wpl_val ?_ rfl ?_ ?_
          rotate_left
          · (have c0 := (show V.cell? ⟨bx, 0, none⟩ = some (.int .u8 3) by rw [hE.cell]; show some (Value.int .u8 (C0 k).kind) = _; rw [hk3.out]); go_simp; (try with_reducible rfl))
          (try simp only [Act.put, List.getElem_toArray, List.getElem_cons_zero, List.getElem_cons_succ, List.setIfInBounds_toArray, List.set_cons_zero, List.set_cons_succ])
          refine wpl_val ?_ rfl ?_ ?_
          rotate_left
          · (go_simp; (try with_reducible rfl))
          (try simp only [Act.put, List.getElem_toArray, List.getElem_cons_zero, List.getElem_cons_succ, List.setIfInBounds_toArray, List.set_cons_zero, List.set_cons_succ])
          refine wpl_val ?_ rfl ?_ ?_
          rotate_left
          · (go_simp; (try with_reducible rfl))
          (try simp only [Act.put, List.getElem_toArray, List.getElem_cons_zero, List.getElem_cons_succ, List.setIfInBounds_toArray, List.set_cons_zero, List.set_cons_succ])
          refine wpl_skip rfl ?_
          (try simp only [Act.put, List.getElem_toArray, List.getElem_cons_zero, List.getElem_cons_succ, List.setIfInBounds_toArray, List.set_cons_zero, List.set_cons_succ])
          refine wpl_skip rfl ?_
          (try simp only [Act.put, List.getElem_toArray, List.getElem_cons_zero, List.getElem_cons_succ, List.setIfInBounds_toArray, List.set_cons_zero, List.set_cons_succ])
          refine wpl_skip rfl ?_
          (try simp only [Act.put, List.getElem_toArray, List.getElem_cons_zero, List.getElem_cons_succ, List.setIfInBounds_toArray, List.set_cons_zero, List.set_cons_succ])
          refine wpl_skip rfl ?_
          (try simp only [Act.put, List.getElem_toArray, List.getElem_cons_zero, List.getElem_cons_succ, List.setIfInBounds_toArray, List.set_cons_zero, List.set_cons_succ])
          refine wpl_val ?_ rfl ?_ ?_
          rotate_left
          · (go_simp; (try with_reducible rfl))
          (try simp only [Act.put, List.getElem_toArray, List.getElem_cons_zero, List.getElem_cons_succ, List.setIfInBounds_toArray, List.set_cons_zero, List.set_cons_succ])
          refine wpl_val ?_ rfl ?_ ?_
          rotate_left
          · (go_simp; (try with_reducible rfl))
          (try simp only [Act.put, List.getElem_toArray, List.getElem_cons_zero, List.getElem_cons_succ, List.setIfInBounds_toArray, List.set_cons_zero, List.set_cons_succ])
          refine wpl_val ?_ rfl ?_ ?_
          rotate_left
          · (go_simp; (try with_reducible rfl))
          (try simp only [Act.put, List.getElem_toArray, List.getElem_cons_zero, List.getElem_cons_succ, List.setIfInBounds_toArray, List.set_cons_zero, List.set_cons_succ])
          refine wpl_call _ _ rfl (by go_simp) _ hS.last ?_
          rintro e w6 ⟨rfl, rfl⟩
          refine ⟨_, rfl, ?_⟩
          (try simp only [Act.put, List.getElem_toArray, List.getElem_cons_zero, List.getElem_cons_succ, List.setIfInBounds_toArray, List.set_cons_zero, List.set_cons_succ])
          refine wpl_val ?_ rfl ?_ ?_
          rotate_left
          · (go_simp; (try with_reducible rfl))
          (try simp only [Act.put, List.getElem_toArray, List.getElem_cons_zero, List.getElem_cons_succ, List.setIfInBounds_toArray, List.set_cons_zero, List.set_cons_succ])
          refine wpl_val ?_ rfl ?_ ?_
          rotate_left
          · (go_simp; (try with_reducible rfl))
          (try simp only [Act.put, List.getElem_toArray, List.getElem_cons_zero, List.getElem_cons_succ, List.setIfInBounds_toArray, List.set_cons_zero, List.set_cons_succ])
          refine wpList_nil ?_
          go_wp2_with fail
          go_roundw
          case rel => exact ⟨k + 1, M', L, by go_num, by omega, hS.more (fun b e => .inl (.inl e)), hRs.out, by omega, hown.out⟩
          case measure => simp [intOf]; omega
        · have hk3b : ((C0 k).kind != 3) = true := by simp [hk3]
          clear hk3
          have hd20 : decide ((20 : Int) < (M.last : Int)) = false := by simp; omega
          go_upto_region 20 with (fail)
          refine wp_region_lit ?_
          refine wpl_val ?_ rfl ?_ ?_
          rotate_left
          · (go_simp; (try with_reducible rfl))
          (try simp only [Act.put, List.getElem_toArray, List.getElem_cons_zero, List.setIfInBounds_toArray, List.set_cons_zero, List.set_cons_succ])
          refine wpl_val ?_ rfl ?_ ?_
          rotate_left
          · (have c0 := (show V.cell? ⟨bx, 0, none⟩ = some (.int .u8 (C0 k).kind) by rw [hE.cell]; rfl); go_simp; (try with_reducible rfl))
          (try simp only [Act.put, List.getElem_toArray, List.getElem_cons_zero, List.getElem_cons_succ, List.setIfInBounds_toArray, List.set_cons_zero, List.set_cons_succ])
          refine wpl_val ?_ rfl ?_ ?_
          rotate_left
          · (go_simp; (try with_reducible rfl))
          (try simp only [Act.put, List.getElem_toArray, List.getElem_cons_zero, List.getElem_cons_succ, List.setIfInBounds_toArray, List.set_cons_zero, List.set_cons_succ])
          refine wpl_val ?_ rfl ?_ ?_
          rotate_left
          · (go_simp; (try with_reducible rfl))
          (try simp only [Act.put, List.getElem_toArray, List.getElem_cons_zero, List.getElem_cons_succ, List.setIfInBounds_toArray, List.set_cons_zero, List.set_cons_succ])
          refine wpl_val ?_ rfl ?_ ?_
          rotate_left
          · (go_simp; (try with_reducible rfl))
          (try simp only [Act.put, List.getElem_toArray, List.getElem_cons_zero, List.getElem_cons_succ, List.setIfInBounds_toArray, List.set_cons_zero, List.set_cons_succ])
          have hla := hS.last
          rw [hl.out] at hla
          refine wpl_call _ _ rfl (by go_simp) _ hla ?_
          rintro e w6 ⟨rfl, rfl⟩
          refine ⟨_, rfl, ?_⟩
          (try simp only [Act.put, List.getElem_toArray, List.getElem_cons_zero, List.getElem_cons_succ, List.setIfInBounds_toArray, List.set_cons_zero, List.set_cons_succ])
          refine wpl_val ?_ rfl ?_ ?_
          rotate_left
          · (go_simp; (try with_reducible rfl))
          (try simp only [Act.put, List.getElem_toArray, List.getElem_cons_zero, List.getElem_cons_succ, List.setIfInBounds_toArray, List.set_cons_zero, List.set_cons_succ])
          refine wpl_val ?_ rfl ?_ ?_
          rotate_left
          · (go_simp; (try with_reducible rfl))
          (try simp only [Act.put, List.getElem_toArray, List.getElem_cons_zero, List.getElem_cons_succ, List.setIfInBounds_toArray, List.set_cons_zero, List.set_cons_succ])
          refine wpl_val ?_ rfl ?_ ?_
          rotate_left
          · (go_simp; (try with_reducible rfl))
          (try simp only [Act.put, List.getElem_toArray, List.getElem_cons_zero, List.getElem_cons_succ, List.setIfInBounds_toArray, List.set_cons_zero, List.set_cons_succ])
          refine wpl_val ?_ rfl ?_ ?_
          rotate_left
          · (go_simp; (try with_reducible rfl))
          (try simp only [Act.put, List.getElem_toArray, List.getElem_cons_zero, List.getElem_cons_succ, List.setIfInBounds_toArray, List.set_cons_zero, List.set_cons_succ])
          refine wpl_val ?_ rfl ?_ ?_
          rotate_left
          · (go_simp; (try with_reducible rfl))
          (try simp only [Act.put, List.getElem_toArray, List.getElem_cons_zero, List.getElem_cons_succ, List.setIfInBounds_toArray, List.set_cons_zero, List.set_cons_succ])
          refine wpl_call _ _ rfl (by go_simp) _ hla ?_
          rintro e w6 ⟨rfl, rfl⟩
          refine ⟨_, rfl, ?_⟩
          (try simp only [Act.put, List.getElem_toArray, List.getElem_cons_zero, List.getElem_cons_succ, List.setIfInBounds_toArray, List.set_cons_zero, List.set_cons_succ])
          clear hla
          refine wpl_val ?_ rfl ?_ ?_
          rotate_left
          · (go_simp; (try with_reducible rfl))
          (try simp only [Act.put, List.getElem_toArray, List.getElem_cons_zero, List.getElem_cons_succ, List.setIfInBounds_toArray, List.set_cons_zero, List.set_cons_succ])
          refine wpl_val ?_ rfl ?_ ?_
          rotate_left
          · (go_simp; (try with_reducible rfl))
          (try simp only [Act.put, List.getElem_toArray, List.getElem_cons_zero, List.getElem_cons_succ, List.setIfInBounds_toArray, List.set_cons_zero, List.set_cons_succ])
          refine wpList_nil ?_
          go_wp2_with fail
          go_roundw
          case rel => exact ⟨k + 1, M', L, by go_num, by omega, hS.more (fun b e => .inl (.inl e)), hRs.out, by omega, hown.out⟩
          case measure => simp [intOf]; omega
    · obtain rfl : k = N := by omega
      clear hlt hops hL0
      go_upto_region 23 with (fail)
      refine wp_region_lit ?_
      refine wpl_call _ _ rfl (by go_simp) _ (awake_any _) ?_
      rintro e w9 ⟨rfl, hb9⟩
      refine ⟨_, rfl, ?_⟩
      (try simp only [Act.put, List.getElem_toArray, List.getElem_cons_zero, List.getElem_cons_succ, List.setIfInBounds_toArray, List.set_cons_zero, List.set_cons_succ])
      refine wpl_val ?_ rfl ?_ ?_
      rotate_left
      · (go_simp; (try with_reducible rfl))
      (try simp only [Act.put, List.getElem_toArray, List.getElem_cons_zero, List.getElem_cons_succ, List.setIfInBounds_toArray, List.set_cons_zero, List.set_cons_succ])
      refine wpList_nil ?_
      go_wp2_with fail
      go_ret
      exact ⟨rfl, (hS.go hb9).below⟩
end Go.Proofs.Ytjaecdcddmohoaa
