/- The walk of commit. -/
import Derived.Test.YtnemaolbmocncaaMdAt
namespace Go.Proofs.Ytnemaolbmocncaa
open Go.RowKit
set_option linter.unusedSimpArgs false
set_option linter.unusedVariables false
def nowV (l : List (Int × P.Bd)) : List (Int × Value) := l.map fun p => (p.1, .agg (row 64 p.2))
/-- commit, at work. -/
structure CmS (base : Nat) (w wr : World) (m : MW) (M : P.Md) (t n : Nat) (T : P.Tx) : Prop where
  below : Below w.heap.size w wr
  ms : MS base wr m M
  tx : TxAt wr t n T
  a : Blk wr w.heap.size (rpA ⟨0, 0, 0, P.zb⟩) 56
  lt : ∀ b, m.own b → b < w.heap.size
  tl : t < w.heap.size
  nl : n < w.heap.size
section
variable {base : Nat} {w wr w' : World} {m : MW} {M : P.Md} {t n : Nat} {T : P.Tx}
theorem CmS.fr (h : CmS base w wr m M t n T) {S : Nat → Prop} (k : Fr S wr w') (hS : ∀ i, S i → w.heap.size < i) : CmS base w w' m M t n T :=
  ⟨Fr.below h.below k (Nat.le_refl _) fun i hi => Nat.le_of_lt (hS i hi), h.ms.fr k fun b hb hs => by have := h.lt b hb; have := hS b hs; omega, h.tx.fr k (fun hs => by have := h.tl; have := hS _ hs; omega) (fun hs => by have := h.nl; have := hS _ hs; omega), h.a.fr k (fun hs => by have := hS _ hs; omega), h.lt, h.tl, h.nl⟩
theorem CmS.go (h : CmS base w wr m M t n T) (k : Below wr.heap.size wr w') : CmS base w w' m M t n T := h.fr (Fr.of_below k fun _ => False) fun _ h => h.elim
theorem CmS.drew (h : CmS base w wr m M t n T) : CmS base w wr.drew m M t n T := h.go (Below.refl _ _).drew
theorem CmS.alloc (h : CmS base w wr m M t n T) (o : Obj) : CmS base w (wr.alloc o) m M t n T := h.go ((Below.refl _ _).alloc (Nat.le_refl _) _)
theorem CmS.t0 (h : CmS base w wr m M t n T) : wr.cell? ⟨t, 0, none⟩ = some (.int .u32 T.start) := by rw [h.tx.t.cell]; rfl
theorem CmS.t1 (h : CmS base w wr m M t n T) : wr.cell? ⟨t, 1, none⟩ = some (.map (some n)) := by rw [h.tx.t.cell]; rfl
theorem CmS.len (h : CmS base w wr m M t n T) (ty : TypeId) : (Builtin.len_ #[92] ty #[.map (some n)]).run Try.prog wr = .ok (.int .i64 T.now.length) wr := by
  have := run_lenA (P := Try.prog) Try.underlying92 h.tx.n ty
  rwa [List.length_map] at this
end
theorem CmS.fin {base : Nat} {w wr w9 : World} {m : MW} {M : P.Md} {t n : Nat} {T : P.Tx} {cs : Array Value} (h : CmS base w wr m M t n T) (k : Fr (fun i => i = w.heap.size) wr w9) :
    ∃ m', m'.c = m.c ∧ MS base w9 m' M ∧ Fr m.own w w9 ∧ ∀ b, m'.own b → m.own b ∨ w.heap.size ≤ b :=
  ⟨m, rfl, h.ms.fr k fun b hb e => (by have := h.lt b hb; omega), Fr.of_below (Fr.below h.below k (Nat.le_refl _) fun i hi => by omega) m.own, fun b hb => .inl hb⟩
theorem mem_erase {α : Type} {l : List α} {j : Nat} {q p : α} (hq : l[j]? = some q) (hp : p ∈ l) : p = q ∨ p ∈ l.eraseIdx j := by
  induction l generalizing j with
  | nil => cases hp
  | cons a l ih =>
    cases j with
    | zero =>
      obtain rfl : a = q := by simpa using hq
      rcases List.mem_cons.1 hp with e | e
      · exact .inl e
      · exact .inr e
    | succ j =>
      rcases List.mem_cons.1 hp with rfl | e
      · exact .inr (by simp)
      · rcases ih (j := j) (by simpa using hq) e with e | e
        · exact .inl e
        · exact .inr (by simp [e])
/-- The machine while a transaction's writes come to be seen: those in L are still to come. -/
def lastMd (M : P.Md) (T : P.Tx) (L : List (Int × P.Bd)) : P.Md :=
  { M with last := M.last + 1, old := fun p => if (get L p).isSome then M.old p else M.old p ++ (match get T.now p with | some b => [⟨M.last + 1, b⟩] | none => []) }
theorem com_conf {M : P.Md} {T : P.Tx} (h1 : T.now ≠ []) (h2 : M.last ≠ M.max) {q : Int × P.Bd} (hq : q ∈ T.now) (h3 : T.start < (P.at' M q.1 M.last).ts) : P.com M T = (M, P.err 7) := by
  unfold P.com
  rw [if_neg h1, if_neg h2, if_pos]
  exact List.any_eq_true.2 ⟨q, hq, decide_eq_true h3⟩
theorem com_go {M : P.Md} {T : P.Tx} (h1 : T.now ≠ []) (h2 : M.last ≠ M.max) (h3 : ∀ p, p ∈ T.now → ¬ T.start < (P.at' M p.1 M.last).ts) : P.com M T = (lastMd M T [], P.ok (M.last + 1) P.zb) := by
  unfold P.com
  rw [if_neg h1, if_neg h2, if_neg]
  · rfl
  · intro h
    obtain ⟨p, hp, e⟩ := List.any_eq_true.1 h
    exact h3 p hp (of_decide_eq_true e)
theorem field_ts (v : P.Vr) (w : World) : (Instr.field 99 (.agg (verA v)) 0).run Try.prog w = .ok (.int .u32 v.ts) w := by kernel_rfl
theorem fill44 (v : P.Vr) : Instr.fill (fun i => some (i * 65, 65)) ((Array.range (1 * 65)).map ((Value.agg (verA ⟨0, P.zb⟩)).cells[· % (Value.agg (verA ⟨0, P.zb⟩)).cells.size]!)) [(0, .agg (verA v))] = some (verA v) := by kernel_rfl
theorem lastMd_start (M : P.Md) (T : P.Tx) : lastMd M T T.now = { M with last := M.last + 1 } := by
  unfold lastMd
  congr 1
  funext p
  cases h : get T.now p with
  | none => simp
  | some b => simp
/-- commit, while the writes come to be seen. -/
structure C2S (base : Nat) (w wr : World) (m m' : MW) (M : P.Md) (t n : Nat) (T : P.Tx) (it : Nat) (L : List (Int × P.Bd)) : Prop where
  fr : Fr m.own w wr
  ms : MS base wr m' (lastMd M T L)
  mc : m'.c = m.c
  new : ∀ b, m'.own b → m.own b ∨ it < b
  tx : TxAt wr t n T
  a : Blk wr w.heap.size (rpA ⟨0, 0, 0, P.zb⟩) 56
  lt : ∀ b, m.own b → b < w.heap.size
  tl : t < w.heap.size
  nl : n < w.heap.size
  nt : ¬ m.own t
  nn : ¬ m.own n
  it : w.heap.size < it
section
variable {base : Nat} {w wr w' : World} {m m' : MW} {M : P.Md} {t n it : Nat} {T : P.Tx} {L : List (Int × P.Bd)}
theorem C2S.nit (h : C2S base w wr m m' M t n T it L) : ¬ m'.own it := fun e => by
  rcases h.new _ e with e | e
  · have := h.lt _ e; have := h.it; omega
  · omega
theorem C2S.gen (h : C2S base w wr m m' M t n T it L) {S : Nat → Prop} (k : Fr S wr w') (hS : ∀ i, S i → i = it) : C2S base w w' m m' M t n T it L := by
  have hi := h.it
  exact ⟨h.fr.trans k fun i hi' hs => by have := hS i hs; omega, h.ms.fr k fun b hb hs => h.nit (hS b hs ▸ hb), h.mc, h.new, h.tx.fr k (fun hs => by have := hS _ hs; have := h.tl; omega) (fun hs => by have := hS _ hs; have := h.nl; omega), h.a.fr k (fun hs => by have := hS _ hs; omega), h.lt, h.tl, h.nl, h.nt, h.nn, h.it⟩
theorem C2S.nx (h : C2S base w wr m m' M t n T it L) (k : Fr (fun i => i = it) wr w') : C2S base w w' m m' M t n T it L := h.gen k fun _ h => h
theorem C2S.go (h : C2S base w wr m m' M t n T it L) (k : Below wr.heap.size wr w') : C2S base w w' m m' M t n T it L := h.gen (Fr.of_below k fun _ => False) fun _ h => h.elim
theorem C2S.c1 (h : C2S base w wr m m' M t n T it L) : wr.cell? ⟨m.c, 1, none⟩ = some (.int .u32 ((M.last + 1 : Nat) : Int)) := by rw [← h.mc]; exact h.ms.c1
theorem C2S.c4 (h : C2S base w wr m m' M t n T it L) : wr.cell? ⟨m.c, 4, none⟩ = some (.map (some m'.o)) := by rw [← h.mc]; exact h.ms.c4
theorem C2S.t1 (h : C2S base w wr m m' M t n T it L) : wr.cell? ⟨t, 1, none⟩ = some (.map (some n)) := by rw [h.tx.t.cell]; rfl
theorem C2S.fin (h : C2S base w wr m m' M t n T it L) {w9 : World} (k : Fr (fun i => i = w.heap.size) wr w9) : ∃ m', m'.c = m.c ∧ MS base w9 m' (lastMd M T L) ∧ Fr m.own w w9 ∧ ∀ b, m'.own b → m.own b ∨ w.heap.size ≤ b := by
  have hi := h.it
  refine ⟨m', h.mc, h.ms.fr k fun b hb e => ?_, h.fr.trans k fun i hi' hs => by omega, fun b hb => (h.new b hb).imp id fun e => by omega⟩
  rcases h.new b hb with e2 | e2
  · have := h.lt b e2; omega
  · omega
theorem CmS.start (h : CmS base w wr m M t n T) (ht : ¬ m.own t) (hn : ¬ m.own n) {W3 : World} (e : wr.setCell ⟨m.c, 1, none⟩ (.int .u32 ((M.last : Int) + 1)) = W3) : C2S base w W3 m m M t n T W3.heap.size T.now := by
  subst e
  obtain ⟨h1, k⟩ := h.ms.setC (M' := { M with last := M.last + 1 }) 1 (.int .u32 ((M.last : Int) + 1)) rfl rfl (by rfl)
  have hc : m.own m.c := ⟨.c, rfl⟩
  have hl := h.lt _ hc
  have ha := h.a.lt
  have hs := k.size
  have k0 : Fr m.own w wr := Fr.of_below h.below _
  exact ⟨k0.trans k fun i _ e => e ▸ hc, by rw [lastMd_start]; exact h1, rfl, fun b hb => .inl hb, h.tx.fr k (fun e => ht (e ▸ hc)) (fun e => hn (e ▸ hc)), h.a.fr k (by omega), h.lt, h.tl, h.nl, ht, hn, by omega⟩
/-- What is read while a version is laid. -/
structure RdS (wr : World) (m m' : MW) (M : P.Md) (bx : Nat) (b : P.Bd) : Prop where
  c : Blk wr m.c #[.int .i64 M.pages, .int .u32 M.last, .int .u32 M.max, .int .u64 M.count, .map (some m'.o), .map (some m'.l), .bool M.shut] 90
  o : MapAt wr m'.o .u16 (m'.rows.map fun x => (x.1, x.2.1))
  b : Blk wr bx (row 64 b) 54
theorem RdS.c1 {bx : Nat} {b : P.Bd} {wr : World} {m m' : MW} {M : P.Md} (h : RdS wr m m' M bx b) : wr.cell? ⟨m.c, 1, none⟩ = some (.int .u32 M.last) := by rw [h.c.cell]; rfl
theorem RdS.c4 {bx : Nat} {b : P.Bd} {wr : World} {m m' : MW} {M : P.Md} (h : RdS wr m m' M bx b) : wr.cell? ⟨m.c, 4, none⟩ = some (.map (some m'.o)) := by rw [h.c.cell]; rfl
theorem RdS.fr {bx : Nat} {b : P.Bd} {wr w' : World} {m m' : MW} {M : P.Md} (h : RdS wr m m' M bx b) {S : Nat → Prop} (k : Fr S wr w') (h1 : ¬ S m.c) (h2 : ¬ S m'.o) (h3 : ¬ S bx) : RdS w' m m' M bx b := ⟨h.c.fr k h1, h.o.fr k h2, h.b.fr k h3⟩
theorem C2S.rd {bx : Nat} {b : P.Bd} (h : C2S base w wr m m' M t n T it L) (hb : Blk wr bx (row 64 b) 54) : RdS wr m m' (lastMd M T L) bx b := ⟨by rw [← h.mc]; exact h.ms.c, h.ms.o, hb⟩
theorem getI_of {β : Type} {l : List (Int × β)} (hn : (l.map (·.1)).Nodup) {j : Nat} {q : Int × β} (hq : l[j]? = some q) : getI l q.1 = some (j, q.2) := by
  induction l generalizing j with
  | nil => cases hq
  | cons a l ih =>
    simp only [List.map_cons, List.nodup_cons] at hn
    cases j with
    | zero =>
      obtain rfl : a = q := by simpa using hq
      unfold getI; rw [if_pos rfl]
    | succ j =>
      have hq' : l[j]? = some q := by simpa using hq
      unfold getI
      rw [if_neg (fun e => hn.1 (by rw [e]; exact List.mem_map.2 ⟨q, List.mem_of_getElem? hq', rfl⟩)), ih hn.2 hq']
      rfl
theorem lastMd_step {q : Int × P.Bd} {j : Nat} (hq : L[j]? = some q) (hnd : (L.map (·.1)).Nodup) (hgt : get T.now q.1 = some q.2) :
    lastMd M T (L.eraseIdx j) = { lastMd M T L with old := fun p => if p = q.1 then M.old q.1 ++ [⟨M.last + 1, q.2⟩] else (lastMd M T L).old p } := by
  have e := (getI_some (getI_of hnd hq) q.2).2.1
  rw [← e]
  unfold lastMd
  congr 1
  funext p
  simp only [get_del hnd]
  by_cases hp : p = q.1
  · subst hp; simp [hgt]
  · simp [hp]
theorem C2S.upd {W1 W2 : World} {q : Int × P.Bd} {j : Nat} {v v' : Value} (h : C2S base w W1 m m' M t n T it L) (hI : ItAt W1 it n .u16 (nowV T.now) ((nowV L).eraseIdx j)) (hq : L[j]? = some q) (hnd : (L.map (·.1)).Nodup) (hgt : get T.now q.1 = some q.2)
    (hat : ∀ b, v.ownBlock = some b → m'.at (.row q.1) b) (own2 : W2.ownsRow base 99 65 v' ((M.old q.1).length + 1) (flatV (M.old q.1) ++ verC ⟨M.last + 1, q.2⟩)) (gr2 : W1.grownBy W2 v.ownBlock) (hloc : v'.ownBlock = v.ownBlock ∨ v'.ownBlock = some W1.heap.size)
    {W3 : World} (ho : MapAt W3 m'.o .u16 (put (m'.rows.map fun x => (x.1, x.2.1)) q.1 v')) (k2 : Fr (fun b => b = m'.o) W2 W3) :
    ∃ m'', C2S base w W3 m m'' M t n T it (L.eraseIdx j) ∧ ItAt W3 it n .u16 (nowV T.now) (nowV (L.eraseIdx j)) := by
  have hitl := hI.lt
  have hoo : m'.own m'.o := ⟨.o, rfl⟩
  have k : Fr (fun b => v.ownBlock = some b ∨ b = m'.o) W1 W3 := ((Fr.of_grown gr2).mono fun i _ e => .inl e).trans k2 fun i _ e => .inr e
  have hown : ∀ b, (v.ownBlock = some b ∨ b = m'.o) → m'.own b := fun b hb => by
    rcases hb with e | rfl
    · exact ⟨_, hat b e⟩
    · exact hoo
  have hlt : ∀ b, m'.own b → b < W1.heap.size := h.ms.lt
  have hnS : ∀ b, b < w.heap.size → ¬ m.own b → ¬ (v.ownBlock = some b ∨ b = m'.o) := fun b hb hn e => by
    rcases h.new b (hown b e) with e2 | e2
    · exact hn e2
    · have := h.it; omega
  have hv'o : v'.ownBlock ≠ some m'.o := fun e => by
    rcases hloc with e2 | e2
    · have := h.ms.nd _ .o m'.o (hat m'.o (e2 ▸ e)) rfl
      cases this
    · rw [e] at e2
      have := hlt _ hoo
      have e3 : m'.o = W1.heap.size := Option.some.inj e2
      omega
  have own3 := own_fr own2 k2 fun b hb e => hv'o (e ▸ hb)
  have hfl : flatV (M.old q.1) ++ verC ⟨M.last + 1, q.2⟩ = flatV (M.old q.1 ++ [⟨M.last + 1, q.2⟩]) := by rw [flatV_append]; simp [flatV]
  rw [hfl] at own3
  obtain ⟨hms, hnew⟩ := h.ms.putRow (vs := M.old q.1 ++ [⟨M.last + 1, q.2⟩]) k q.1 hat (fun b hb => hb) ho (by rw [List.length_append]; exact own3) (hloc.imp id fun e b hb => by rw [e] at hb; have := Option.some.inj hb; omega)
  have hw0 : ¬ m'.own w.heap.size := fun e => by
    rcases h.new _ e with e | e
    · have := h.lt _ e; omega
    · have := h.it; omega
  refine ⟨{ m' with rows := put m'.rows q.1 (v', M.old q.1 ++ [⟨M.last + 1, q.2⟩]) }, ⟨h.fr.trans k fun i hi e => ?_, ?_, h.mc, fun b hb => ?_, h.tx.fr k (hnS t h.tl h.nt) (hnS n h.nl h.nn), h.a.fr k fun e => hw0 (hown _ e), h.lt, h.tl, h.nl, h.nt, h.nn, h.it⟩, ?_⟩
  · rcases h.new i (hown i e) with e2 | e2
    · exact e2
    · have := h.it; omega
  · rw [lastMd_step hq hnd hgt]; exact hms
  · rcases hnew b hb with e | e
    · exact h.new b e
    · exact .inr (by omega)
  · have e : nowV (L.eraseIdx j) = (nowV L).eraseIdx j := by unfold nowV; rw [map_eraseIdx]
    rw [e]
    exact hI.fr k (hnS n h.nl h.nn) fun e => h.nit (hown _ e)
theorem C2S.rng {W3 W4 : World} (h : C2S base w W3 m m M t n T it L) {o : Obj} (e : W4 = W3.alloc o) : C2S base w W4 m m M t n T it L := by
  subst e; exact h.go ((Below.refl _ _).alloc (Nat.le_refl _) _)
end
set_option maxRecDepth 100000 in
set_option maxHeartbeats 8000000 in
theorem com_any {base : Nat} {w : World} {m : MW} {M : P.Md} {t n : Nat} {T : P.Tx} {k : Nat} (h : MS base w m M) (ok : P.Ok M k) (hT : TxAt w t n T) (ht : ¬ m.own t) (hn : ¬ m.own n) :
    Calls Try.prog 37 #[.pointer (some ⟨m.c, 0, none⟩), .pointer (some ⟨t, 0, none⟩)] w fun e w' => e = .returned (.agg (rpA (P.com M T).2)) ∧
      ∃ m', m'.c = m.c ∧ MS base w' m' (P.com M T).1 ∧ Fr m.own w w' ∧ ∀ b, m'.own b → m.own b ∨ w.heap.size ≤ b := by
  have hz40 := zero40.1
  have hS : CmS base w (w.alloc (.cells (rpA ⟨0, 0, 0, P.zb⟩) 56)) m M t n T := ⟨(Below.refl _ _).alloc (Nat.le_refl _) _, h.alloc _, hT.fr ((Fr.refl (fun _ => False) _).alloc _) id id, Blk.alloc_new _ _ _, h.lt, hT.t.lt, hT.n.lt⟩
  obtain ⟨W, hW⟩ : ∃ W, w.alloc (.cells (rpA ⟨0, 0, 0, P.zb⟩) 56) = W := ⟨_, rfl⟩
  rw [hW] at hS
  have t1 := hS.t1
  have t0 := hS.t0
  have hlen := hS.len
  by_cases hnow : T.now = []
  · have HC : Hid (P.com M T = (M, P.ok T.start P.zb)) := by unfold Hid P.com; rw [if_pos hnow]
    rw [hnow] at hlen
    clear hnow
    go_enter Try.func37, Try.ntmps37
    go_wp2_with (first
      | (refine wpList_buildE rfl 56 _ rfl (rpA ⟨0, 0, T.start, P.zb⟩) (by go_simp; exact b40_2 _) ?_)
      | (refine wpList_store_fr rfl 56 _ _ rfl w.heap.size (rpA ⟨0, 0, T.start, P.zb⟩) rfl rfl 56 _ hS.a (size40 _) (by simp only [rpA_size]) (rpA_one _) ?_; intro w9 hB9 hF9)
      | fail)
    refine bodyPost_ret (v := .agg (rpA ⟨0, 0, T.start, P.zb⟩)) ?_ rfl ?_
    · exact results_cell_row rfl _ _ w.heap.size 56 (rpA ⟨0, 0, T.start, P.zb⟩) (0, 0) _ rfl hB9 Try.underlying56 rfl (size40 _)
    rw [HC.out]
    exact ⟨rfl, hS.fin (cs := #[]) hF9⟩
  · have hl0 : ((T.now.length : Int) == 0) = false := by
      have : T.now.length ≠ 0 := fun e => hnow (List.eq_nil_of_length_eq_zero e)
      simp; omega
    have HN := Lib.hid hnow
    clear hnow
    go_enter Try.func37, Try.ntmps37
    go_wp2_with fail
    refine wp_region_held (S := (fun w' => CmS base w w' m M t n T)) (by kernel_rfl) ?_
    change wpAnyH _ _ _ _ _ _ _ _ W.drew
    (try simp only [Act.put])
    replace hS := hS.drew
    refine anyH_pure 0 _ ?_ rfl (by kernel_rfl) (by kernel_rfl) (by kernel_rfl) (fun _ _ _ h => h) rfl ?_ hS ?_
    rotate_left
    · (intro w'; go_simp; (try with_reducible rfl))
    (try simp only [Act.put, Z1, Z2, Z4, Z5, Z6])
    refine anyH_pure 1 _ ?_ rfl (by kernel_rfl) (by kernel_rfl) (by kernel_rfl) (fun _ _ _ h => h) rfl ?_ hS ?_
    rotate_left
    · (intro w'; go_simp; (try with_reducible rfl))
    (try simp only [Act.put, Z1, Z2, Z3, Z4, Z5, Z6])
    refine anyH_pure 2 _ ?_ rfl (by kernel_rfl) (by kernel_rfl) (by kernel_rfl) (fun _ _ _ h => h) rfl ?_ hS ?_
    rotate_left
    · (intro w'; go_simp; (try with_reducible rfl))
    (try simp only [Act.put, Z1, Z2, Z3, Z4, Z5, Z6])
    refine anyH_if 3 _ ?_ rfl (by kernel_rfl) (by kernel_rfl) (by kernel_rfl) (fun _ _ _ h => h) rfl ?_ hS ?_
    rotate_left
    · (intro w' h; have c0 := h.ms.c1; go_simp; (try with_reducible rfl))
    (try simp only [Act.put, Z1, Z2, Z3, Z4, Z5, Z6])
    refine anyH_pure 4 _ ?_ rfl (by kernel_rfl) (by kernel_rfl) (by kernel_rfl) (fun _ _ _ h => h) rfl ?_ hS ?_
    rotate_left
    · (intro w'; go_simp; (try with_reducible rfl))
    (try simp only [Act.put, Z1, Z2, Z3, Z4, Z5, Z6])
    refine anyH_pure 5 _ ?_ rfl (by kernel_rfl) (by kernel_rfl) (by kernel_rfl) (fun _ _ _ h => h) rfl ?_ hS ?_
    rotate_left
    · (intro w'; go_simp; (try with_reducible rfl))
    (try simp only [Act.put, Z1, Z2, Z3, Z4, Z5, Z6])
    refine anyH_pure 6 _ ?_ rfl (by kernel_rfl) (by kernel_rfl) (by kernel_rfl) (fun _ _ _ h => h) rfl ?_ hS ?_
    rotate_left
    · (intro w'; go_simp; (try with_reducible rfl))
    (try simp only [Act.put, Z1, Z2, Z3, Z4, Z5, Z6])
    refine anyH_if 7 _ ?_ rfl (by kernel_rfl) (by kernel_rfl) (by kernel_rfl) (fun _ _ _ h => h) rfl ?_ hS ?_
    rotate_left
    · (intro w' h; have c0 := h.ms.c2; go_simp; (try with_reducible rfl))
    (try simp only [Act.put, Z1, Z2, Z3, Z4, Z5, Z6])
    refine anyH_pure 8 _ ?_ rfl (by kernel_rfl) (by kernel_rfl) (by kernel_rfl) (fun _ _ _ h => h) rfl ?_ hS ?_
    rotate_left
    · (intro w'; go_simp; (try with_reducible rfl))
    (try simp only [Act.put, Z1, Z2, Z3, Z4, Z5, Z6])
    refine wpAnyH_done (by kernel_rfl) ?_ _
    clear t1 t0 hlen
    generalize W.drew = W at *
    by_cases hm : M.last = M.max
    · have HC : Hid (P.com M T = (M, P.err 8)) := by unfold Hid P.com; rw [if_neg HN.out, if_pos hm]
      have hb : ((M.last : Int) == (M.max : Int)) = true := by simp [hm]
      clear hm
      go_wp2_with (first
        | (refine wpList_buildE rfl 56 _ rfl (rpA ⟨8, 0, 0, P.zb⟩) (by go_simp; exact b40_0 _) ?_)
        | (refine wpList_store_fr rfl 56 _ _ rfl w.heap.size (rpA ⟨8, 0, 0, P.zb⟩) rfl rfl 56 _ hS.a (size40 _) (by simp only [rpA_size]) (rpA_one _) ?_; intro w9 hB9 hF9)
        | fail)
      refine bodyPost_ret (v := .agg (rpA ⟨8, 0, 0, P.zb⟩)) ?_ rfl ?_
      · exact results_cell_row rfl _ _ w.heap.size 56 (rpA ⟨8, 0, 0, P.zb⟩) (0, 0) _ rfl hB9 Try.underlying56 rfl (size40 _)
      rw [HC.out]
      exact ⟨rfl, hS.fin (cs := #[]) hF9⟩
    · have hb : ((M.last : Int) == (M.max : Int)) = false := by simp; omega
      have HM := Lib.hid hm
      clear hm
      have t1 := hS.t1
      obtain ⟨W2, hrun, hIt, o2, ho2⟩ := run_rangeA (P := Try.prog) Try.underlying92 hS.tx.n
      have hit : W2.heap.size = W.heap.size + 1 := by rw [ho2]; simp
      have hS2 : CmS base w W2 m M t n T := by rw [ho2]; exact hS.alloc _
      have hwW : w.heap.size < W.heap.size := hS.a.lt
      clear ho2
      rw [hb]
      clear hb
      go_wp2_with fail
      clear hrun t1
      have HS2 := Lib.hid (And.intro hS2 hIt)
      clear hS2 hIt hS
      generalize hi : W.heap.size = it at *
      go_loopg [] T.now.length (fun r wr => ∃ L : List (Int × P.Bd), L.length = r ∧ CmS base w wr m M t n T ∧ ItAt wr it n .u16 (nowV T.now) (nowV L) ∧ Hid ((∀ p, p ∈ T.now → p ∈ L ∨ ¬ T.start < (P.at' M p.1 M.last).ts) ∧ (L.map (·.1)).Nodup ∧ ∀ p, p ∈ L → p ∈ T.now))
      case atStart => exact ⟨T.now, rfl, HS2.out.1, HS2.out.2, ⟨fun p hp => .inl hp, by have := hT.n.keys; rw [List.map_map] at this; exact this, fun p hp => hp⟩⟩
      case round =>
        clear HS2
        obtain ⟨L, rfl, hS, hIt, hL⟩ := hrel
        have hin : n ≠ it := fun e => by have := hS.nl; omega
        rcases run_nextA (P := Try.prog) hIt (fun e => hin e.symm) 0 with ⟨h0, hrun⟩ | ⟨j, p, w', hj, hpA, hrun, hIt2, hF, hent⟩
        · obtain rfl : L = [] := by simpa [nowV] using h0
          have hrun' : ∀ ty, (Instr.next (.pointer (some ⟨it, 0, none⟩)) false ty).run Try.prog wr = .ok (.tuple #[.bool false]) wr := fun ty => hrun
          have HGO : Hid (P.com M T = (lastMd M T [], P.ok (M.last + 1) P.zb)) := com_go HN.out HM.out fun p hp => by
            rcases hL.out.1 p hp with e | e
            · cases e
            · exact e
          have c1 := hS.ms.c1
          have f1 := hS.ms.c.free 1
          have hlm := ok.lm
          have hmx := ok.mx
          have hw1 : IntKind.u32.wrap ((M.last : Int) + 1) = ((M.last + 1 : Nat) : Int) := by
            rw [show ((M.last : Int) + 1) = ((M.last + 1 : Nat) : Int) by omega]
            exact IntWalk.u32_in _ (by have := HM.out; omega)
          clear hrun h0 hL hIt hin
          obtain ⟨W3, hW3⟩ : ∃ W3, wr.setCell ⟨m.c, 1, none⟩ (.int .u32 ((M.last : Int) + 1)) = W3 := ⟨_, rfl⟩
          have hC0 := hS.start ht hn hW3
          obtain ⟨W4, hrun4, hIt4, o4, ho4⟩ := run_rangeA (P := Try.prog) Try.underlying92 hC0.tx.n
          have hC4 : C2S base w W4 m m M t n T W3.heap.size T.now := hC0.rng ho4
          have hnow : (T.now.map (·.1)).Nodup := by have := hT.n.keys; rw [List.map_map] at this; exact this
          have t1' := hC0.t1
          clear ho4 hS
          have HC4 := Lib.hid (And.intro hC4 hIt4)
          clear hC4 hIt4 hC0
          have hnow := Lib.hid hnow
          go_wp2_with fail
          clear hrun4 t1'
          generalize W3.heap.size = it2 at *
          clear hW3
          go_loopg [] T.now.length (fun r wr => ∃ (L : List (Int × P.Bd)) (m' : MW), L.length = r ∧ C2S base w wr m m' M t n T it2 L ∧ ItAt wr it2 n .u16 (nowV T.now) (nowV L) ∧ Hid ((L.map (·.1)).Nodup ∧ ∀ p, p ∈ L → p ∈ T.now))
          case atStart => exact ⟨T.now, m, rfl, HC4.out.1, HC4.out.2, ⟨hnow.out, fun p hp => hp⟩⟩
          case round =>
            clear HC4
            obtain ⟨L, m', rfl, hS, hIt, hL⟩ := hrel
            have hin : n ≠ it2 := fun e => by have := hS.nl; have := hS.it; omega
            rcases run_nextA (P := Try.prog) hIt (fun e => hin e.symm) 0 with ⟨h0, hrun⟩ | ⟨j, p, w', hj, hpA, hrun, hIt2, hF, hent⟩
            · obtain rfl : L = [] := by simpa [nowV] using h0
              have hrun' : ∀ ty, (Instr.next (.pointer (some ⟨it2, 0, none⟩)) false ty).run Try.prog wr = .ok (.tuple #[.bool false]) wr := fun ty => hrun
              have c1 := hS.c1
              clear hrun h0 hL hIt hin
              go_wp2_with (first
                | (refine wpList_buildE rfl 56 _ rfl (rpA ⟨0, 0, M.last + 1, P.zb⟩) (by go_simp; exact b40_2 (M.last + 1)) ?_)
                | (refine wpList_store_fr rfl 56 _ _ rfl w.heap.size (rpA ⟨0, 0, M.last + 1, P.zb⟩) rfl rfl 56 _ hS.a (size40 _) (by simp only [rpA_size]) (rpA_one _) ?_; intro w9 hB9 hF9)
                | fail)
              refine bodyPost_ret (v := .agg (rpA ⟨0, 0, M.last + 1, P.zb⟩)) ?_ rfl ?_
              · exact results_cell_row rfl _ _ w.heap.size 56 (rpA ⟨0, 0, M.last + 1, P.zb⟩) (0, 0) _ rfl hB9 Try.underlying56 rfl (size40 _)
              rw [HGO.out]
              exact ⟨rfl, hS.fin hF9⟩
            · obtain ⟨q, hq, e⟩ : ∃ q, L[j]? = some q ∧ p = (q.1, .agg (row 64 q.2)) := by
                unfold nowV at hj
                rw [List.getElem?_map] at hj
                obtain ⟨q, h1, h2⟩ := Option.map_eq_some_iff.1 hj
                exact ⟨q, h1, h2.symm⟩
              subst e
              have hrun' : ∀ ty, (Instr.next (.pointer (some ⟨it2, 0, none⟩)) false ty).run Try.prog wr = .ok (.tuple #[.bool true, .int .u16 q.1, .agg (row 64 q.2)]) w' := fun ty => hrun
              have hS2 := hS.nx hF
              simp only [] at hent
              have hz38 := zero38.1
              clear hrun
              go_wp2_with (first
                | (refine wpList_store_fr rfl 54 _ _ rfl w'.heap.size (row 64 q.2) rfl rfl 54 _ (Blk.alloc_new _ _ _) (size38 _) (by simp only [row_size]) (row_one _ _) ?_; intro w9 hB9 hF9)
                | fail)
              have hS9 : C2S base w w9 m m' M t n T it2 L ∧ Blk w9 w'.heap.size (row 64 q.2) 54 := ⟨hS2.gen (((Fr.refl (fun _ => False) w').alloc (.cells (row 64 P.zb) 54)).trans hF9 fun i hi e => by omega) (fun _ h => h.elim), hB9⟩
              have hI9 : ItAt w9 it2 n .u16 (nowV T.now) ((nowV L).eraseIdx j) := hIt2.fr (((Fr.refl (fun _ => False) w').alloc (.cells (row 64 P.zb) 54)).trans hF9 fun i hi e => by omega) id id
              generalize hbx : w'.heap.size = bx at *
              have hbn : ¬ m'.own bx := fun e => by have := hS2.ms.lt _ e; omega
              clear hB9 hF9 hS2 hIt2 hF hS hIt
              refine wp_region_K (k := 19) (S := (fun w' => RdS w' m m' (lastMd M T L) bx q.2)) (by kernel_rfl) ?_
              change wpAnyK _ _ _ _ _ _ _ _ _ w9.drew
              (try simp only [Act.put])
              have hS := (hS9.1.go (Below.refl _ _).drew).rd (bx := bx) (b := q.2) hS9.2
              refine anyK_pure 0 _ ?_ rfl (by kernel_rfl) (by kernel_rfl) (by kernel_rfl) (fun _ _ _ h => h) (by decide) rfl ?_ hS ?_
              rotate_left
              · (intro w'; go_simp; (try with_reducible rfl))
              (try simp only [Act.put, Z1, Z2, Z4, Z5, Z6])
              refine anyK_pure 1 _ ?_ rfl (by kernel_rfl) (by kernel_rfl) (by kernel_rfl) (fun _ _ _ h => h) (by decide) rfl ?_ hS ?_
              rotate_left
              · (intro w'; go_simp; (try with_reducible rfl))
              (try simp only [Act.put, Z1, Z2, Z3, Z4, Z5, Z6])
              refine anyK_pure 2 _ ?_ rfl (by kernel_rfl) (by kernel_rfl) (by kernel_rfl) (fun _ _ _ h => h) (by decide) rfl ?_ hS ?_
              rotate_left
              · (intro w'; go_simp; (try with_reducible rfl))
              (try simp only [Act.put, Z1, Z2, Z3, Z4, Z5, Z6])
              refine anyK_if 3 _ ?_ rfl (by kernel_rfl) (by kernel_rfl) (by kernel_rfl) (fun _ _ _ h => h) (by decide) (by kernel_rfl) (by kernel_rfl) rfl ?_ hS ?_
              rotate_left
              · (intro w' h; have c0 := h.c4; go_simp; (try with_reducible rfl))
              (try simp only [Act.put, Z1, Z2, Z3, Z4, Z5, Z6])
              refine anyK_pure 4 _ ?_ rfl (by kernel_rfl) (by kernel_rfl) (by kernel_rfl) (fun _ _ _ h => h) (by decide) rfl ?_ hS ?_
              rotate_left
              · (intro w'; go_simp; (try with_reducible rfl))
              (try simp only [Act.put, Z1, Z2, Z3, Z4, Z5, Z6])
              refine anyK_pure 5 _ ?_ rfl (by kernel_rfl) (by kernel_rfl) (by kernel_rfl) (fun _ _ _ h => h) (by decide) rfl ?_ hS ?_
              rotate_left
              · (intro w'; go_simp; (try with_reducible rfl))
              (try simp only [Act.put, Z1, Z2, Z3, Z4, Z5, Z6])
              refine anyK_pure 6 _ ?_ rfl (by kernel_rfl) (by kernel_rfl) (by kernel_rfl) (fun _ _ _ h => h) (by decide) rfl ?_ hS ?_
              rotate_left
              · (intro w'; go_simp; (try with_reducible rfl))
              (try simp only [Act.put, Z1, Z2, Z3, Z4, Z5, Z6])
              refine anyK_pure 7 _ ?_ rfl (by kernel_rfl) (by kernel_rfl) (by kernel_rfl) (fun _ _ _ h => h) (by decide) rfl ?_ hS ?_
              rotate_left
              · (intro w'; go_simp; (try with_reducible rfl))
              (try simp only [Act.put, Z1, Z2, Z3, Z4, Z5, Z6])
              refine anyK_if 8 _ ?_ rfl (by kernel_rfl) (by kernel_rfl) (by kernel_rfl) (fun _ _ _ h => h) (by decide) (by kernel_rfl) (by kernel_rfl) rfl ?_ hS ?_
              rotate_left
              · (intro w' h; have c0 := h.c4; go_simp; (try with_reducible rfl))
              (try simp only [Act.put, Z1, Z2, Z3, Z4, Z5, Z6])
              refine anyK_pure 9 _ ?_ rfl (by kernel_rfl) (by kernel_rfl) (by kernel_rfl) (fun _ _ _ h => h) (by decide) rfl ?_ hS ?_
              rotate_left
              · (intro w'; go_simp; (try with_reducible rfl))
              (try simp only [Act.put, Z1, Z2, Z3, Z4, Z5, Z6])
              refine anyK_if 10 _ ?_ rfl (by kernel_rfl) (by kernel_rfl) (by kernel_rfl) (fun _ _ _ h => h) (by decide) (by kernel_rfl) (by kernel_rfl) rfl ?_ hS ?_
              rotate_left
              · (intro w' h; have c0 := look_of h.o q.1; go_simp; (try with_reducible rfl))
              (try simp only [Act.put, Z1, Z2, Z3, Z4, Z5, Z6])
              refine anyK_pure 11 _ ?_ rfl (by kernel_rfl) (by kernel_rfl) (by kernel_rfl) (fun _ _ _ h => h) (by decide) rfl ?_ hS ?_
              rotate_left
              · (intro w'; go_simp; (try with_reducible rfl))
              (try simp only [Act.put, Z1, Z2, Z3, Z4, Z5, Z6])
              refine anyK_pure 12 _ ?_ rfl (by kernel_rfl) (by kernel_rfl) (by kernel_rfl) (fun _ _ _ h => h) (by decide) rfl ?_ hS ?_
              rotate_left
              · (intro w'; go_simp; (try with_reducible rfl))
              (try simp only [Act.put, Z1, Z2, Z3, Z4, Z5, Z6])
              refine anyK_pure 13 _ ?_ rfl (by kernel_rfl) (by kernel_rfl) (by kernel_rfl) (fun _ _ _ h => h) (by decide) rfl ?_ hS ?_
              rotate_left
              · (intro w'; go_simp; (try with_reducible rfl))
              (try simp only [Act.put, Z1, Z2, Z3, Z4, Z5, Z6])
              refine anyK_if 14 _ ?_ rfl (by kernel_rfl) (by kernel_rfl) (by kernel_rfl) (fun _ _ _ h => h) (by decide) (by kernel_rfl) (by kernel_rfl) rfl ?_ hS ?_
              rotate_left
              · (intro w' h; have c0 := h.c1; go_simp; (try with_reducible rfl))
              (try simp only [Act.put, Z1, Z2, Z3, Z4, Z5, Z6])
              refine anyK_if 15 _ (.agg (row 64 q.2)) rfl (by kernel_rfl) (by kernel_rfl) (by kernel_rfl) (fun _ _ _ h => h) (by decide) (by kernel_rfl) (by kernel_rfl) rfl (fun w' h => run_load_cs rfl rfl h.b Try.underlying54 rfl (size38 _)) hS ?_
              (try simp only [Act.put, Z1, Z2, Z3, Z4, Z5, Z6])
              refine anyK_pure 16 _ (.agg (verA ⟨M.last + 1, q.2⟩)) rfl (by kernel_rfl) (by kernel_rfl) (by kernel_rfl) (fun _ _ _ h => h) (by decide) rfl (fun w' => run_buildE rfl (by go_simp; exact b44_01 (M.last + 1) q.2)) hS ?_
              (try simp only [Act.put, Z1, Z2, Z3, Z4, Z5, Z6])
              obtain ⟨i44, hi44, z44, s44, y44⟩ := info_parts info44
              refine anyK_one 17 _ (by kernel_rfl) rfl rfl (wp_buildSlice 102 99 1 _ rfl (verA ⟨M.last + 1, q.2⟩) i44 _ Try.underlying102 hi44 z44 (by rw [s44]; decide) (by rw [s44]; decide) ?c1 ?_)
              case c1 => (simp only [s44, List.map_toArray, List.map_cons, List.map_nil]; exact fill44 _)
              have hlit : Blk (w9.drew.alloc (.cells (verA ⟨M.last + 1, q.2⟩) 99)) w9.drew.heap.size (verC ⟨M.last + 1, q.2⟩).toArray 99 := Blk.alloc_new _ _ _
              have hC1 : C2S base w (w9.drew.alloc (.cells (verA ⟨M.last + 1, q.2⟩) 99)) m m' M t n T it2 L := hS9.1.go (((Below.refl _ w9).drew).alloc (Nat.le_refl _) _)
              have hS := hC1.rd (bx := bx) (b := q.2) (hS9.2.alloc _)
              have hI1 : ItAt (w9.drew.alloc (.cells (verA ⟨M.last + 1, q.2⟩) 99)) it2 n .u16 (nowV T.now) ((nowV L).eraseIdx j) := hI9.fr (((Fr.refl (fun _ => False) _).drew).alloc _) id id
              refine ⟨hS, ?_⟩
              (try simp only [Act.put, Z1, Z2, Z3, Z4, Z5, Z6])
              generalize w9.drew.alloc (.cells (verA ⟨M.last + 1, q.2⟩) 99) = W1 at *
              generalize w9.drew.heap.size = lb at *
              clear hI9 hS9
              obtain ⟨hown, hat⟩ := hC1.ms.val q.1
              have hgq : get L q.1 = some q.2 := get_of_mem hL.out.1 (List.mem_of_getElem? hq)
              have hgt : get T.now q.1 = some q.2 := get_of_mem hnow.out (hL.out.2 q (List.mem_of_getElem? hq))
              have hold : (lastMd M T L).old q.1 = M.old q.1 := by show (if (get L q.1).isSome then _ else _) = _; rw [hgq]; rfl
              rw [hold] at hown
              have hmany := ok.many q.1
              have hlm := ok.lm
              have hmx := ok.mx
              refine anyK_one 18 _ (by kernel_rfl) rfl rfl (wp_append_src _ _ 102 rfl base 99 i44 _ 65 68 Try.underlying102 hi44 z44 s44 y44 (verA_size _) (by decide) (m'.val q.1) (M.old q.1).length _ rfl hown _ 1 (verC ⟨M.last + 1, q.2⟩) rfl (src_blk hlit) (verC_length _) (verC_one _) ?_ ?_ ?_ ?_)
              · unfold maxLen; omega
              · omega
              · have := hC1.ms.lo .c _ rfl; have := hC1.ms.c.lt; omega
              intro v' W2 own2 gr2 _ hloc
              have hoo : m'.own m'.o := ⟨.o, rfl⟩
              have hcc : m'.own m.c := ⟨.c, hC1.mc.symm⟩
              have hS := hS.fr (Fr.of_grown gr2) (fun e => by have := hC1.ms.nd _ .c m.c (hat _ e) hC1.mc.symm; cases this) (fun e => by have := hC1.ms.nd _ .o m'.o (hat _ e) rfl; cases this) (fun e => hbn ⟨_, hat _ e⟩)
              refine ⟨hS, ?_⟩
              (try simp only [Act.put, Z1, Z2, Z3, Z4, Z5, Z6])
              obtain ⟨W3, hup, ho3, k3⟩ := run_updateA (P := Try.prog) Try.underlying87 Try.underlying41 hS.o q.1 v'
              obtain ⟨m'', hC3, hI3⟩ := hC1.upd hI1 hq hL.out.1 hgt hat own2 gr2 hloc ho3 k3
              refine anyK_last _ (by kernel_rfl) rfl (by decide) rfl (wp_mapUpdateE rfl rfl rfl rfl hup ?_)
              refine anyK_done (by kernel_rfl) ?_ _
              have hL2 : Hid (((L.eraseIdx j).map (·.1)).Nodup ∧ ∀ p, p ∈ L.eraseIdx j → p ∈ T.now) := ⟨((List.eraseIdx_sublist _ _).map _).nodup hL.out.1, fun p hp => hL.out.2 p ((List.eraseIdx_sublist _ _).subset hp)⟩
              have hlen2 : (L.eraseIdx j).length < L.length := by
                have := (List.getElem?_eq_some_iff.1 hq).1
                rw [List.length_eraseIdx, if_pos this]; omega
              clear hL hgq hgt hold hat hown own2 gr2 hloc hS ho3 k3 hup hC1 hI1
              go_wp2_with fail
              go_roundg (L.eraseIdx j).length
              case measure => exact hlen2
              case rel => exact ⟨L.eraseIdx j, m'', rfl, hC3, hI3, hL2⟩
        · obtain ⟨q, hq, e⟩ : ∃ q, L[j]? = some q ∧ p = (q.1, .agg (row 64 q.2)) := by
            unfold nowV at hj
            rw [List.getElem?_map] at hj
            obtain ⟨q, h1, h2⟩ := Option.map_eq_some_iff.1 hj
            exact ⟨q, h1, h2.symm⟩
          subst e
          have hrun' : ∀ ty, (Instr.next (.pointer (some ⟨it, 0, none⟩)) false ty).run Try.prog wr = .ok (.tuple #[.bool true, .int .u16 q.1, .agg (row 64 q.2)]) w' := fun ty => hrun
          have hS2 := hS.fr hF fun i hi => by omega
          simp only [] at hent
          clear hrun
          go_wp2_with fail
          refine wp_region_held (S := (fun w' => CmS base w w' m M t n T ∧ ItAt w' it n .u16 (nowV T.now) (nowV (L.eraseIdx j)))) (by kernel_rfl) ?_
          change wpAnyH _ _ _ _ _ _ _ _ w'.drew
          (try simp only [Act.put])
          have hI : ItAt w'.drew it n .u16 (nowV T.now) (nowV (L.eraseIdx j)) := by
            have e : nowV (L.eraseIdx j) = (nowV L).eraseIdx j := by unfold nowV; rw [map_eraseIdx]
            rw [e]; exact hIt2.fr ((Fr.refl (fun _ => False) _).drew) id id
          have hS := And.intro hS2.drew hI
          refine anyH_pure 0 _ ?_ rfl (by kernel_rfl) (by kernel_rfl) (by kernel_rfl) (fun _ _ _ h => h) rfl ?_ hS ?_
          rotate_left
          · (intro w'; go_simp; (try with_reducible rfl))
          (try simp only [Act.put, Z1, Z2, Z4, Z5, Z6])
          refine anyH_pure 1 _ ?_ rfl (by kernel_rfl) (by kernel_rfl) (by kernel_rfl) (fun _ _ _ h => h) rfl ?_ hS ?_
          rotate_left
          · (intro w'; go_simp; (try with_reducible rfl))
          (try simp only [Act.put, Z1, Z2, Z3, Z4, Z5, Z6])
          refine anyH_pure 2 _ ?_ rfl (by kernel_rfl) (by kernel_rfl) (by kernel_rfl) (fun _ _ _ h => h) rfl ?_ hS ?_
          rotate_left
          · (intro w'; go_simp; (try with_reducible rfl))
          (try simp only [Act.put, Z1, Z2, Z3, Z4, Z5, Z6])
          refine anyH_pure 3 _ ?_ rfl (by kernel_rfl) (by kernel_rfl) (by kernel_rfl) (fun _ _ _ h => h) rfl ?_ hS ?_
          rotate_left
          · (intro w'; go_simp; (try with_reducible rfl))
          (try simp only [Act.put, Z1, Z2, Z3, Z4, Z5, Z6])
          refine anyH_pure 4 _ ?_ rfl (by kernel_rfl) (by kernel_rfl) (by kernel_rfl) (fun _ _ _ h => h) rfl ?_ hS ?_
          rotate_left
          · (intro w'; go_simp; (try with_reducible rfl))
          (try simp only [Act.put, Z1, Z2, Z3, Z4, Z5, Z6])
          refine anyH_if 5 _ ?_ rfl (by kernel_rfl) (by kernel_rfl) (by kernel_rfl) (fun _ _ _ h => h) rfl ?_ hS ?_
          rotate_left
          · (intro w' h; have c0 := h.1.ms.c1; go_simp; (try with_reducible rfl))
          (try simp only [Act.put, Z1, Z2, Z3, Z4, Z5, Z6])
          refine anyH_pure 8 _ ?_ rfl (by kernel_rfl) (by kernel_rfl) (by kernel_rfl) (fun _ _ _ h => h) rfl ?_ hS ?_
          rotate_left
          · (intro w'; go_simp; (try with_reducible rfl))
          (try simp only [Act.put, Z1, Z2, Z3, Z4, Z5, Z6])
          refine anyH_pure 9 _ ?_ rfl (by kernel_rfl) (by kernel_rfl) (by kernel_rfl) (fun _ _ _ h => h) rfl ?_ hS ?_
          rotate_left
          · (intro w'; go_simp; (try with_reducible rfl))
          (try simp only [Act.put, Z1, Z2, Z3, Z4, Z5, Z6])
          refine anyH_pure 10 _ ?_ rfl (by kernel_rfl) (by kernel_rfl) (by kernel_rfl) (fun _ _ _ h => h) rfl ?_ hS ?_
          rotate_left
          · (intro w'; go_simp; (try with_reducible rfl))
          (try simp only [Act.put, Z1, Z2, Z3, Z4, Z5, Z6])
          refine anyH_if 11 _ ?_ rfl (by kernel_rfl) (by kernel_rfl) (by kernel_rfl) (fun _ _ _ h => h) rfl ?_ hS ?_
          rotate_left
          · (intro w' h; have c0 := h.1.t0; go_simp; (try with_reducible rfl))
          (try simp only [Act.put, Z1, Z2, Z3, Z4, Z5, Z6])
          have hat := at_any hS.1.ms q.1 M.last
          refine anyH_callR 6 _ _ _ _ (by kernel_rfl) rfl rfl (by go_simp) (_) (hat) ?_
          rintro w3 hb3
          have hS := And.intro (hS.1.go hb3) (hS.2.fr (Fr.of_below hb3 fun _ => False) id id)
          refine ⟨hS, ?_⟩
          (try simp only [Act.put, Z1, Z2, Z3, Z4, Z5, Z6])
          clear hat hb3 hI hIt2 hS2
          generalize hv : P.at' M q.1 M.last = v at *
          have hfld := fun w => field_ts v w
          refine anyH_pure 7 _ ?_ rfl (by kernel_rfl) (by kernel_rfl) (by kernel_rfl) (fun _ _ _ h => h) rfl ?_ hS ?_
          rotate_left
          · (intro w'; go_simp; (try with_reducible rfl))
          (try simp only [Act.put, Z1, Z2, Z3, Z4, Z5, Z6])
          refine anyH_pure 12 _ ?_ rfl (by kernel_rfl) (by kernel_rfl) (by kernel_rfl) (fun _ _ _ h => h) rfl ?_ hS ?_
          rotate_left
          · (intro w'; go_simp; (try with_reducible rfl))
          (try simp only [Act.put, Z1, Z2, Z3, Z4, Z5, Z6])
          refine wpAnyH_done (by kernel_rfl) ?_ _
          by_cases hgt : T.start < v.ts
          · have HC : Hid (P.com M T = (M, P.err 7)) := com_conf HN.out HM.out (hL.out.2.2 q (List.mem_of_getElem? hq)) (by rw [hv]; exact hgt)
            have hgt' : (T.start : Int) < (v.ts : Int) := by omega
            clear hgt hv
            go_wp2_with (first
              | (refine wpList_buildE rfl 56 _ rfl (rpA ⟨7, 0, 0, P.zb⟩) (by go_simp; exact b40_0 _) ?_)
              | (refine wpList_store_fr rfl 56 _ _ rfl w.heap.size (rpA ⟨7, 0, 0, P.zb⟩) rfl rfl 56 _ hS.1.a (size40 _) (by simp only [rpA_size]) (rpA_one _) ?_; intro w9 hB9 hF9)
              | fail)
            refine bodyPost_ret (v := .agg (rpA ⟨7, 0, 0, P.zb⟩)) ?_ rfl ?_
            · exact results_cell_row rfl _ _ w.heap.size 56 (rpA ⟨7, 0, 0, P.zb⟩) (0, 0) _ rfl hB9 Try.underlying56 rfl (size40 _)
            rw [HC.out]
            exact ⟨rfl, hS.1.fin (cs := #[]) hF9⟩
          · have hgt' : ¬ (T.start : Int) < (v.ts : Int) := by omega
            have hgt2 : (v.ts : Int) ≤ (T.start : Int) := by omega
            have hL2 : Hid ((∀ p, p ∈ T.now → p ∈ L.eraseIdx j ∨ ¬ T.start < (P.at' M p.1 M.last).ts) ∧ ((L.eraseIdx j).map (·.1)).Nodup ∧ ∀ p, p ∈ L.eraseIdx j → p ∈ T.now) := by
              obtain ⟨h1, h2, h3⟩ := hL.out
              refine ⟨fun p hp => ?_, ((List.eraseIdx_sublist _ _).map _).nodup h2, fun p hp => h3 p ((List.eraseIdx_sublist _ _).subset hp)⟩
              rcases h1 p hp with e | e
              · rcases mem_erase hq e with rfl | e
                · exact .inr (by rw [hv]; exact hgt)
                · exact .inl e
              · exact .inr e
            have hlen2 : (L.eraseIdx j).length < L.length := by
              have := (List.getElem?_eq_some_iff.1 hq).1
              rw [List.length_eraseIdx, if_pos this]; omega
            clear hgt hv hL
            go_wp2_with fail
            go_roundg (L.eraseIdx j).length
            case measure => exact hlen2
            case rel => exact ⟨L.eraseIdx j, rfl, hS.1, hS.2, hL2⟩
end Go.Proofs.Ytnemaolbmocncaa
