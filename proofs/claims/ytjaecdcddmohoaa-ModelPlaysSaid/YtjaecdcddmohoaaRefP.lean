/- The document's machine: a log of calls and answers; that it answers as the machine does. -/
import Derived.Test.YtjaecdcddmohoaaLawP
namespace Go.Proofs.Ytjaecdcddmohoaa.P
open Go.Proofs.Ytjaecdcddmohoaa
abbrev De := Cl × Rp
def isBeg (n : Int) (d : De) : Bool := decide (d.1.kind = 0 ∧ d.2.e = 0 ∧ d.2.txn = n)
def bgn (log : List De) (n : Int) : Nat := match log.find? (isBeg n) with | some d => d.2.ts | none => 0
def lastS (ts : Nat) (d : De) : Nat := if d.1.kind = 3 ∧ d.2.e = 0 then max ts d.2.ts else ts
def lastF (log : List De) : Nat := log.foldl lastS 0
def begS1 (n : Int) (s : Nat × Bool) (d : De) : Nat × Bool := if d.1.kind = 0 ∧ d.2.e = 0 ∧ d.2.txn = n ∧ 0 < n then (d.2.ts, true) else s
def begS (n : Int) (s : Nat × Bool) (d : De) : Nat × Bool :=
  if (d.1.kind = 3 ∨ d.1.kind = 4) ∧ d.1.txn = n ∧ d.2.e ≠ 9 then ((begS1 n s d).1, false) else begS1 n s d
def begF (log : List De) (n : Int) : Nat × Bool := log.foldl (begS n) (0, false)
def wrS (n p : Int) (s : Bd × Bool) (d : De) : Bd × Bool := if d.1.kind = 2 ∧ d.1.txn = n ∧ d.1.page = p ∧ d.2.e = 0 then (cpy s.1 d.1.off.toNat d.1.s, true) else s
def wrF (log : List De) (n p : Int) (was : Bd) : Bd × Bool := log.foldl (wrS n p) (was, false)
def cntF (pages : Nat) (log : List De) (n : Int) : Nat := ((List.range pages).filter fun (p : Nat) => (wrF log n (p : Int) zb).2).length
def atS (log : List De) (p : Int) (ts : Nat) (s : Nat × Int) (d : De) : Nat × Int :=
  if d.1.kind ≠ 3 ∨ d.2.e ≠ 0 ∨ ts < d.2.ts ∨ d.2.ts ≤ s.1 ∨ d.2.ts = bgn log d.1.txn then s else if (wrF log d.1.txn p zb).2 = true then (d.2.ts, d.1.txn) else s
def atF (log : List De) (p : Int) (ts : Nat) : Nat × Int := log.foldl (atS log p ts) (0, 0)
def livS (log : List De) (s : Nat × Nat) (d : De) : Nat × Nat := if d.1.kind = 0 ∧ d.2.e = 0 then (if (begF log d.2.txn).2 = true then s.1 + 1 else s.1, s.2 + 1) else s
def livF (log : List De) : Nat × Nat := log.foldl (livS log) (0, 0)
def shutF (log : List De) : Bool := log.any fun d => decide (d.1.kind = 7 ∧ d.2.e = 0)
/-- The commits that made a version of page p, in the log's order: their timestamps, and whose they are. -/
def comm1 (log : List De) (p : Int) (d : De) : Option (Nat × Int) :=
  if d.1.kind = 3 ∧ d.2.e = 0 ∧ d.2.ts ≠ bgn log d.1.txn ∧ (wrF log d.1.txn p zb).2 = true then some (d.2.ts, d.1.txn) else none
def comms (log : List De) (p : Int) : List (Nat × Int) := log.filterMap (comm1 log p)
def pickS (ts : Nat) (s x : Nat × Int) : Nat × Int := if ts < x.1 ∨ x.1 ≤ s.1 then s else x
/-! ### How they go on -/
theorem wrF_snoc (log : List De) (d : De) (n p : Int) (b : Bd) : wrF (log ++ [d]) n p b = wrS n p (wrF log n p b) d := by unfold wrF; rw [List.foldl_append]; rfl
theorem begF_snoc (log : List De) (d : De) (n : Int) : begF (log ++ [d]) n = begS n (begF log n) d := by unfold begF; rw [List.foldl_append]; rfl
theorem lastF_snoc (log : List De) (d : De) : lastF (log ++ [d]) = lastS (lastF log) d := by unfold lastF; rw [List.foldl_append]; rfl
theorem shutF_snoc (log : List De) (d : De) : shutF (log ++ [d]) = (shutF log || decide (d.1.kind = 7 ∧ d.2.e = 0)) := by unfold shutF; rw [List.any_append]; simp
theorem bgn_snoc (log : List De) (d : De) (n : Int) : bgn (log ++ [d]) n = match log.find? (isBeg n) with | some x => x.2.ts | none => if isBeg n d = true then d.2.ts else 0 := by
  unfold bgn
  rw [List.find?_append]
  cases log.find? (isBeg n) with
  | some x => rfl
  | none =>
    simp only [Option.none_or, List.find?_cons, List.find?_nil]
    cases isBeg n d <;> rfl
theorem wrF_flag (log : List De) (n p : Int) (b b' : Bd) : (wrF log n p b).2 = (wrF log n p b').2 := by
  have key : ∀ (l : List De) (s s' : Bd × Bool), s.2 = s'.2 → (l.foldl (wrS n p) s).2 = (l.foldl (wrS n p) s').2 := by
    intro l
    induction l with
    | nil => intro s s' h; exact h
    | cons d l ih =>
      intro s s' h
      refine ih _ _ ?_
      unfold wrS
      split
      · rfl
      · exact h
  exact key log _ _ rfl
theorem wrF_none {log : List De} {n p : Int} (h : ∀ d ∈ log, d.1.kind = 2 → d.2.e = 0 → d.1.txn ≠ n) (b : Bd) : wrF log n p b = (b, false) := by
  have key : ∀ (l : List De) (s : Bd × Bool), (∀ d ∈ l, d.1.kind = 2 → d.2.e = 0 → d.1.txn ≠ n) → l.foldl (wrS n p) s = s := by
    intro l
    induction l with
    | nil => intro s _; rfl
    | cons d l ih =>
      intro s hl
      show l.foldl (wrS n p) (wrS n p s d) = s
      have : wrS n p s d = s := by
        unfold wrS
        rw [if_neg]
        rintro ⟨h1, h2, _, h3⟩
        exact hl d (by simp) h1 h3 h2
      rw [this]
      exact ih s fun x hx => hl x (by simp [hx])
  exact key log _ h
theorem atF_comms (log : List De) (p : Int) (ts : Nat) : atF log p ts = (comms log p).foldl (pickS ts) (0, 0) := by
  have key : ∀ (l : List De) (s : Nat × Int), l.foldl (atS log p ts) s = (l.filterMap (comm1 log p)).foldl (pickS ts) s := by
    intro l
    induction l with
    | nil => intro s; rfl
    | cons d l ih =>
      intro s
      show l.foldl (atS log p ts) (atS log p ts s d) = _
      rw [ih, List.filterMap_cons]
      unfold comm1 atS
      by_cases h : d.1.kind = 3 ∧ d.2.e = 0 ∧ d.2.ts ≠ bgn log d.1.txn ∧ (wrF log d.1.txn p zb).2 = true
      · rw [if_pos h]
        simp only [List.foldl_cons]
        congr 1
        unfold pickS
        by_cases h2 : ts < d.2.ts ∨ d.2.ts ≤ s.1
        · rw [if_pos h2, if_pos (by rcases h2 with e | e; exact .inr (.inr (.inl e)); exact .inr (.inr (.inr (.inl e))))]
        · rw [if_neg h2, if_neg, if_pos h.2.2.2]
          rintro (e | e | e | e | e)
          · exact e h.1
          · exact e h.2.1
          · exact h2 (.inl e)
          · exact h2 (.inr e)
          · exact h.2.2.1 e
      · rw [if_neg h]
        simp only []
        congr 1
        split
        · rfl
        · rename_i h2
          rw [if_neg]
          intro e
          refine h ⟨?_, ?_, ?_, e⟩
          · exact Classical.byContradiction fun e => h2 (.inl e)
          · exact Classical.byContradiction fun e => h2 (.inr (.inl e))
          · exact fun e => h2 (.inr (.inr (.inr (.inr e))))
  exact key log _
theorem pickS_vers (ts : Nat) : ∀ (Vs : List (Vr × Int)) (s : Vr × Int), (∀ x ∈ Vs, s.1.ts < x.1.ts) → Vs.Pairwise (fun x y => x.1.ts < y.1.ts) →
    ∃ r : Vr × Int, (Vs.map fun x => (x.1.ts, x.2)).foldl (pickS ts) (s.1.ts, s.2) = (r.1.ts, r.2) ∧ pick (Vs.map (·.1)) ts s.1 = r.1 ∧ (r = s ∨ (r ∈ Vs ∧ r.1.ts ≤ ts))
  | [], s, _, _ => ⟨s, rfl, rfl, .inl rfl⟩
  | x :: Vs, s, h, hp => by
    rw [List.pairwise_cons] at hp
    simp only [List.map_cons, List.foldl_cons, pick_cons]
    unfold pickS
    by_cases hx : x.1.ts ≤ ts
    · have hs := h x (by simp)
      rw [if_neg (by simp only []; omega), if_pos hx]
      obtain ⟨r, h1, h2, h3⟩ := pickS_vers ts Vs x (fun y hy => hp.1 y hy) hp.2
      refine ⟨r, h1, h2, .inr ?_⟩
      rcases h3 with rfl | ⟨h3, h4⟩
      · exact ⟨by simp, hx⟩
      · exact ⟨by simp [h3], h4⟩
    · rw [if_pos (by simp only []; omega), if_neg hx]
      obtain ⟨r, h1, h2, h3⟩ := pickS_vers ts Vs s (fun y hy => h y (by simp [hy])) hp.2
      refine ⟨r, h1, h2, ?_⟩
      rcases h3 with rfl | ⟨h3, h4⟩
      · exact .inl rfl
      · exact .inr ⟨by simp [h3], h4⟩
/-! ### The log tells what the machine holds -/
structure Sim (M : Md) (m : Nat) (log : List De) : Prop where
  ok : Ok M m
  eight : M.live.length ≤ 8
  shut : shutF log = M.shut
  last : lastF log = M.last
  cnt : (log.filter fun d => decide (d.1.kind = 0 ∧ d.2.e = 0)).length = M.count
  has : ∀ n : Int, 1 ≤ n → n ≤ M.count → ∃ d ∈ log, isBeg n d = true
  begs : ∀ d ∈ log, d.1.kind = 0 → d.2.e = 0 → 1 ≤ d.2.txn ∧ d.2.txn ≤ M.count
  dist : (log.filterMap fun d => if d.1.kind = 0 ∧ d.2.e = 0 then some d.2.txn else none).Nodup
  beg : M.shut = false → ∀ n, (begF log n).2 = (get M.live n).isSome ∧ ∀ T, get M.live n = some T → (begF log n).1 = T.start
  bg : ∀ n T, get M.live n = some T → bgn log n = T.start
  wrs : ∀ d ∈ log, (d.1.kind = 2 ∨ d.1.kind = 3) → d.2.e = 0 → 1 ≤ d.1.txn ∧ d.1.txn ≤ M.count ∧ (d.1.kind = 3 → get M.live d.1.txn = none)
  offs : ∀ d ∈ log, d.1.kind = 2 → d.2.e = 0 → 0 ≤ d.1.off ∧ d.1.off ≤ 64 ∧ (d.1.s.size : Int) ≤ 64 - d.1.off
  wr : ∀ n T, get M.live n = some T → ∀ p, wrF log n p (at' M p T.start).b = ((get T.now p).getD (at' M p T.start).b, (get T.now p).isSome)
  pg : ∀ n T, get M.live n = some T → ∀ x ∈ T.now, 0 ≤ x.1 ∧ x.1 < M.pages
  old : ∀ p, ∃ Vs : List (Vr × Int), M.old p = Vs.map (·.1) ∧ comms log p = Vs.map (fun x => (x.1.ts, x.2)) ∧ Vs.Pairwise (fun x y => x.1.ts < y.1.ts) ∧
    ∀ x ∈ Vs, 0 < x.1.ts ∧ bgn log x.2 < x.1.ts ∧ wrF log x.2 p (at' M p (bgn log x.2)).b = (x.1.b, true)
theorem sim_new {pages : Int} {max : Nat} (hp : 1 ≤ pages ∧ pages ≤ 16) (hm : max < 4294967296) : Sim (new pages max) 0 [] where
  ok := ok_new hp hm
  eight := Nat.zero_le _
  shut := rfl
  last := rfl
  cnt := rfl
  has := fun n h1 h2 => by
    have : n ≤ ((0 : Nat) : Int) := h2
    omega
  begs := fun d hd => by cases hd
  dist := List.nodup_nil
  beg := fun _ n => ⟨rfl, fun T hT => by cases hT⟩
  bg := fun n T hT => by cases hT
  wrs := fun d hd => by cases hd
  offs := fun d hd => by cases hd
  wr := fun n T hT => by cases hT
  pg := fun n T hT => by cases hT
  old := fun p => ⟨[], rfl, rfl, List.Pairwise.nil, fun x hx => by cases hx⟩
/-- What the document's At comes to. -/
theorem Sim.at_ {M : Md} {m : Nat} {log : List De} (h : Sim M m log) (p : Int) (ts : Nat) :
    (at' M p ts).ts = (atF log p ts).1 ∧ ((atF log p ts).1 = 0 → at' M p ts = ⟨0, zb⟩) ∧
    (0 < (atF log p ts).1 → (atF log p ts).1 ≤ ts ∧ bgn log (atF log p ts).2 < (atF log p ts).1 ∧ (wrF log (atF log p ts).2 p (at' M p (bgn log (atF log p ts).2)).b).1 = (at' M p ts).b) := by
  obtain ⟨Vs, h1, h2, h3, h4⟩ := h.old p
  obtain ⟨r, r1, r2, r3⟩ := pickS_vers ts Vs (⟨0, zb⟩, 0) (fun x hx => (h4 x hx).1) h3
  have e : atF log p ts = (r.1.ts, r.2) := by rw [atF_comms, h2]; exact r1
  have e2 : at' M p ts = r.1 := by unfold at'; rw [h1]; exact r2
  rw [e, e2]
  refine ⟨rfl, fun h0 => ?_, fun h0 => ?_⟩
  · rcases r3 with rfl | ⟨hr, _⟩
    · rfl
    · have := (h4 r hr).1
      have h0' : r.1.ts = 0 := h0
      omega
  · rcases r3 with rfl | ⟨hr, hle⟩
    · exact absurd h0 (by simp)
    · obtain ⟨a, b, c⟩ := h4 r hr
      exact ⟨hle, b, by rw [c]⟩
/-! ### One entry more -/
theorem bgn_old {M : Md} {m : Nat} {log : List De} (h : Sim M m log) (d : De) {n : Int} (h1 : 1 ≤ n) (h2 : n ≤ M.count) : bgn (log ++ [d]) n = bgn log n := by
  obtain ⟨x, hx, hb⟩ := h.has n h1 h2
  rw [bgn_snoc]
  unfold bgn
  cases hf : log.find? (isBeg n) with
  | some y => rfl
  | none => rw [List.find?_eq_none] at hf; exact absurd hb (hf x hx)
theorem comm1_old {M : Md} {m : Nat} {log : List De} (h : Sim M m log) {d : De} (hd : d.1.kind = 2 → d.2.e = 0 → get M.live d.1.txn ≠ none) (p : Int) {x : De} (hx : x ∈ log) : comm1 (log ++ [d]) p x = comm1 log p x := by
  unfold comm1
  by_cases hk : x.1.kind = 3 ∧ x.2.e = 0
  · obtain ⟨h1, h2, h3⟩ := h.wrs x hx (.inr hk.1) hk.2
    rw [bgn_old h d h1 h2, wrF_snoc]
    have : wrS x.1.txn p (wrF log x.1.txn p zb) d = wrF log x.1.txn p zb := by
      unfold wrS
      rw [if_neg]
      rintro ⟨a, b, _, c⟩
      exact hd a c (by rw [b]; exact h3 hk.1)
    rw [this]
  · rw [if_neg (fun e => hk ⟨e.1, e.2.1⟩), if_neg (fun e => hk ⟨e.1, e.2.1⟩)]
theorem comms_snoc {M : Md} {m : Nat} {log : List De} (h : Sim M m log) {d : De} (hd : d.1.kind = 2 → d.2.e = 0 → get M.live d.1.txn ≠ none) (p : Int) : comms (log ++ [d]) p = comms log p ++ (comm1 (log ++ [d]) p d).toList := by
  unfold comms
  rw [List.filterMap_append]
  congr 1
  · have key : ∀ l : List De, (∀ x ∈ l, x ∈ log) → l.filterMap (comm1 (log ++ [d]) p) = l.filterMap (comm1 log p) := by
      intro l
      induction l with
      | nil => intro _; rfl
      | cons x l ih =>
        intro hl
        rw [List.filterMap_cons, List.filterMap_cons, comm1_old h hd p (hl x (by simp)), ih fun y hy => hl y (by simp [hy])]
    exact key log fun x hx => hx
/-- The versions stay, if an entry makes none. -/
theorem old_same {M M' : Md} {m : Nat} {log : List De} (h : Sim M m log) {d : De} (hd : d.1.kind = 2 → d.2.e = 0 → get M.live d.1.txn ≠ none) (hc : ∀ p, comm1 (log ++ [d]) p d = none) (ho : M'.old = M.old) :
    ∀ p, ∃ Vs : List (Vr × Int), M'.old p = Vs.map (·.1) ∧ comms (log ++ [d]) p = Vs.map (fun x => (x.1.ts, x.2)) ∧ Vs.Pairwise (fun x y => x.1.ts < y.1.ts) ∧
      ∀ x ∈ Vs, 0 < x.1.ts ∧ bgn (log ++ [d]) x.2 < x.1.ts ∧ wrF (log ++ [d]) x.2 p (at' M' p (bgn (log ++ [d]) x.2)).b = (x.1.b, true) := by
  intro p
  obtain ⟨Vs, h1, h2, h3, h4⟩ := h.old p
  refine ⟨Vs, by rw [ho]; exact h1, by rw [comms_snoc h hd, hc, h2]; simp, h3, fun x hx => ?_⟩
  obtain ⟨a, b, c⟩ := h4 x hx
  have hm : (x.1.ts, x.2) ∈ comms log p := by rw [h2]; exact List.mem_map.2 ⟨x, hx, rfl⟩
  obtain ⟨y, hy, he⟩ := List.mem_filterMap.1 hm
  have hy2 : y.1.kind = 3 ∧ y.2.e = 0 ∧ y.1.txn = x.2 := by
    unfold comm1 at he
    split at he
    · rename_i hh
      have := (Option.some.inj he)
      exact ⟨hh.1, hh.2.1, (Prod.mk.inj this).2⟩
    · cases he
  obtain ⟨q1, q2, q3⟩ := h.wrs y hy (.inr hy2.1) hy2.2.1
  rw [hy2.2.2] at q1 q2 q3
  rw [bgn_old h d q1 q2, wrF_snoc]
  refine ⟨a, b, ?_⟩
  have hat : at' M' p (bgn log x.2) = at' M p (bgn log x.2) := by unfold at'; rw [ho]
  have : wrS x.2 p (wrF log x.2 p (at' M' p (bgn log x.2)).b) d = wrF log x.2 p (at' M' p (bgn log x.2)).b := by
    unfold wrS
    rw [if_neg]
    rintro ⟨e1, e2, _, e3⟩
    exact hd e1 e3 (by rw [e2]; exact q3 hy2.1)
  rw [this, hat]
  exact c
theorem dist_same {log : List De} {d : De} (hd : ¬ (d.1.kind = 0 ∧ d.2.e = 0)) : ((log ++ [d]).filterMap fun d => if d.1.kind = 0 ∧ d.2.e = 0 then some d.2.txn else none) = log.filterMap fun d => if d.1.kind = 0 ∧ d.2.e = 0 then some d.2.txn else none := by
  rw [List.filterMap_append]
  simp [hd]
theorem cnt_same {log : List De} {d : De} (hd : ¬ (d.1.kind = 0 ∧ d.2.e = 0)) : ((log ++ [d]).filter fun d => decide (d.1.kind = 0 ∧ d.2.e = 0)) = log.filter fun d => decide (d.1.kind = 0 ∧ d.2.e = 0) := by
  rw [List.filter_append]
  simp [hd]
theorem begS_keep {n : Int} {s : Nat × Bool} {d : De} (h1 : ¬ (d.1.kind = 0 ∧ d.2.e = 0)) (h2 : ¬ ((d.1.kind = 3 ∨ d.1.kind = 4) ∧ d.1.txn = n ∧ d.2.e ≠ 9)) : begS n s d = s := by
  unfold begS begS1
  rw [if_neg h2, if_neg (fun e => h1 ⟨e.1, e.2.1⟩)]
theorem mem_snoc {α : Type} {l : List α} {d x : α} (h : x ∈ l ++ [d]) : x ∈ l ∨ x = d := by simpa using h
theorem keys_get {M : Md} {m : Nat} (ok : Ok M m) {n : Int} {T : Tx} (h : get M.live n = some T) : 1 ≤ n ∧ n ≤ M.count := ok.key _ (get_mem h)
/-- An entry by which nothing turns. -/
theorem sim_inert {M : Md} {m : Nat} {log : List De} (h : Sim M m log) {d : De} (h0 : ¬ (d.1.kind = 0 ∧ d.2.e = 0)) (h2 : ¬ (d.1.kind = 2 ∧ d.2.e = 0)) (h3 : ¬ (d.1.kind = 3 ∧ d.2.e = 0)) (h7 : ¬ (d.1.kind = 7 ∧ d.2.e = 0))
    (h34 : M.shut = false → (d.1.kind = 3 ∨ d.1.kind = 4) → d.2.e = 9) : Sim M (m + 1) (log ++ [d]) where
  ok := h.ok.mono (Nat.le_succ m)
  eight := h.eight
  shut := by rw [shutF_snoc, h.shut, decide_eq_false h7, Bool.or_false]
  last := by rw [lastF_snoc]; unfold lastS; rw [if_neg h3]; exact h.last
  cnt := by rw [cnt_same h0]; exact h.cnt
  has := fun n a b => by obtain ⟨x, hx, e⟩ := h.has n a b; exact ⟨x, by simp [hx], e⟩
  begs := fun x hx a b => by
    rcases mem_snoc hx with hx | rfl
    · exact h.begs x hx a b
    · exact absurd ⟨a, b⟩ h0
  dist := by rw [dist_same h0]; exact h.dist
  beg := fun hs n => by
    rw [begF_snoc, begS_keep h0 (fun e => e.2.2 (h34 hs e.1))]
    exact h.beg hs n
  bg := fun n T hT => by
    obtain ⟨a, b⟩ := keys_get h.ok hT
    rw [bgn_old h d a b]; exact h.bg n T hT
  wrs := fun x hx a b => by
    rcases mem_snoc hx with hx | rfl
    · exact h.wrs x hx a b
    · rcases a with a | a
      · exact absurd ⟨a, b⟩ h2
      · exact absurd ⟨a, b⟩ h3
  offs := fun x hx a b => by
    rcases mem_snoc hx with hx | rfl
    · exact h.offs x hx a b
    · exact absurd ⟨a, b⟩ h2
  wr := fun n T hT p => by
    rw [wrF_snoc]
    unfold wrS
    rw [if_neg (fun e => h2 ⟨e.1, e.2.2.2⟩)]
    exact h.wr n T hT p
  pg := h.pg
  old := old_same h (fun a b => absurd ⟨a, b⟩ h2) (fun p => by unfold comm1; rw [if_neg (fun e => h3 ⟨e.1, e.2.1⟩)]) rfl
theorem sim_shut {M : Md} {m : Nat} {log : List De} (h : Sim M m log) {d : De} (hk : d.1.kind = 7) (he : d.2.e = 0) : Sim { M with shut := true } (m + 1) (log ++ [d]) := by
  have h0 : ¬ (d.1.kind = 0 ∧ d.2.e = 0) := by omega
  have h2 : ¬ (d.1.kind = 2 ∧ d.2.e = 0) := by omega
  have h3 : ¬ (d.1.kind = 3 ∧ d.2.e = 0) := by omega
  exact {
    ok := by
      have o := h.ok.mono (Nat.le_succ m)
      exact ⟨o.lm, o.mx, o.cnt, o.keys, o.key, o.start, o.pos, o.ver, o.few, o.many⟩
    eight := h.eight
    shut := by rw [shutF_snoc, decide_eq_true ⟨hk, he⟩, Bool.or_true]
    last := by rw [lastF_snoc]; unfold lastS; rw [if_neg h3]; exact h.last
    cnt := by rw [cnt_same h0]; exact h.cnt
    has := fun n a b => by obtain ⟨x, hx, e⟩ := h.has n a b; exact ⟨x, by simp [hx], e⟩
    begs := fun x hx a b => by
      rcases mem_snoc hx with hx | rfl
      · exact h.begs x hx a b
      · exact absurd ⟨a, b⟩ h0
    dist := by rw [dist_same h0]; exact h.dist
    beg := fun hs => by cases hs
    bg := fun n T hT => by
      obtain ⟨a, b⟩ := keys_get h.ok hT
      rw [bgn_old h d a b]; exact h.bg n T hT
    wrs := fun x hx a b => by
      rcases mem_snoc hx with hx | rfl
      · exact h.wrs x hx a b
      · omega
    offs := fun x hx a b => by
      rcases mem_snoc hx with hx | rfl
      · exact h.offs x hx a b
      · exact absurd ⟨a, b⟩ h2
    wr := fun n T hT p => by
      rw [wrF_snoc]
      unfold wrS
      rw [if_neg (fun e => h2 ⟨e.1, e.2.2.2⟩)]
      exact h.wr n T hT p
    pg := h.pg
    old := old_same h (fun a b => absurd ⟨a, b⟩ h2) (fun p => by unfold comm1; rw [if_neg (fun e => h3 ⟨e.1, e.2.1⟩)]) rfl }
theorem sim_begin {M : Md} {m : Nat} {log : List De} (h : Sim M m log) {d : De} (hk : d.1.kind = 0) (he : d.2.e = 0) (ht : d.2.txn = M.count + 1) (hts : d.2.ts = M.last) (h8 : M.live.length ≠ 8)
    (ok' : Ok { M with count := M.count + 1, live := put M.live (M.count + 1) ⟨M.last, []⟩ } (m + 1)) :
    Sim { M with count := M.count + 1, live := put M.live (M.count + 1) ⟨M.last, []⟩ } (m + 1) (log ++ [d]) := by
  have h2 : ¬ (d.1.kind = 2 ∧ d.2.e = 0) := by omega
  have h3 : ¬ (d.1.kind = 3 ∧ d.2.e = 0) := by omega
  have h7 : ¬ (d.1.kind = 7 ∧ d.2.e = 0) := by omega
  have hnew : get M.live ((M.count : Int) + 1) = none := get_none fun x hx => by have := h.ok.key x hx; omega
  have hnof : log.find? (isBeg ((M.count : Int) + 1)) = none := by
    rw [List.find?_eq_none]
    intro x hx hb
    have hb' := of_decide_eq_true hb
    have := h.begs x hx hb'.1 hb'.2.1
    omega
  have hgl : ∀ n T, get (put M.live ((M.count : Int) + 1) ⟨M.last, []⟩) n = some T → (n = (M.count : Int) + 1 ∧ T = ⟨M.last, []⟩) ∨ (n ≠ (M.count : Int) + 1 ∧ get M.live n = some T) := fun n T hg => by
    rw [get_put] at hg
    split at hg
    · rename_i e; exact .inl ⟨e, (Option.some.inj hg).symm⟩
    · rename_i e; exact .inr ⟨e, hg⟩
  exact {
    ok := ok'
    eight := by
      show (put M.live _ _).length ≤ 8
      rw [put_len, hnew]
      have := h.eight
      simp
      omega
    shut := by rw [shutF_snoc, h.shut, decide_eq_false h7, Bool.or_false]
    last := by rw [lastF_snoc]; unfold lastS; rw [if_neg h3]; exact h.last
    cnt := by
      rw [List.filter_append, List.length_append, h.cnt]
      simp [hk, he]
    has := fun n a b => by
      by_cases e : n = (M.count : Int) + 1
      · exact ⟨d, by simp, decide_eq_true ⟨hk, he, by rw [ht, e]⟩⟩
      · have b' : n ≤ ((M.count + 1 : Nat) : Int) := b
        obtain ⟨x, hx, e⟩ := h.has n a (by omega); exact ⟨x, by simp [hx], e⟩
    begs := fun x hx a b => by
      show 1 ≤ x.2.txn ∧ x.2.txn ≤ ((M.count + 1 : Nat) : Int)
      rcases mem_snoc hx with hx | rfl
      · have := h.begs x hx a b; omega
      · omega
    dist := by
      rw [List.filterMap_append]
      have e : ([d].filterMap fun d => if d.1.kind = 0 ∧ d.2.e = 0 then some d.2.txn else none) = [(M.count : Int) + 1] := by simp [hk, he, ht]
      rw [e]
      refine List.nodup_append.2 ⟨h.dist, by simp, ?_⟩
      rintro a ha c hc rfl
      obtain rfl : a = (M.count : Int) + 1 := by simpa using hc
      obtain ⟨x, hx, e2⟩ := List.mem_filterMap.1 ha
      split at e2
      · rename_i hh
        have := h.begs x hx hh.1 hh.2
        have := Option.some.inj e2
        omega
      · cases e2
    beg := fun hs n => by
      rw [begF_snoc]
      have hb := h.beg hs n
      unfold begS
      rw [if_neg (by omega)]
      unfold begS1
      show _ = (get (put M.live _ _) n).isSome ∧ ∀ T, get (put M.live _ _) n = some T → _
      by_cases e : n = (M.count : Int) + 1
      · rw [if_pos ⟨hk, he, by rw [ht, e], by omega⟩, get_put, if_pos e]
        refine ⟨rfl, fun T hT => ?_⟩
        obtain rfl := Option.some.inj hT
        exact hts
      · rw [if_neg (fun a => e (by rw [← a.2.2.1, ht])), get_put, if_neg e]
        exact hb
    bg := fun n T hT => by
      rcases hgl n T hT with ⟨rfl, rfl⟩ | ⟨_, hT⟩
      · rw [bgn_snoc, hnof]
        simp only []
        rw [if_pos (show isBeg ((M.count : Int) + 1) d = true from decide_eq_true ⟨hk, he, ht⟩)]
        exact hts
      · obtain ⟨a, b⟩ := keys_get h.ok hT
        rw [bgn_old h d a b]; exact h.bg n T hT
    wrs := fun x hx a b => by
      rcases mem_snoc hx with hx | rfl
      · obtain ⟨p, q, r⟩ := h.wrs x hx a b
        refine ⟨p, by show x.1.txn ≤ ((M.count + 1 : Nat) : Int); omega, fun e => ?_⟩
        show get (put M.live _ _) x.1.txn = none
        rw [get_put, if_neg (by omega)]; exact r e
      · omega
    offs := fun x hx a b => by
      rcases mem_snoc hx with hx | rfl
      · exact h.offs x hx a b
      · exact absurd ⟨a, b⟩ h2
    wr := fun n T hT p => by
      rw [wrF_snoc]
      unfold wrS
      rw [if_neg (fun e => h2 ⟨e.1, e.2.2.2⟩)]
      rcases hgl n T hT with ⟨rfl, rfl⟩ | ⟨_, hT⟩
      · rw [wrF_none fun x hx a b => ?_]
        · rfl
        · have := h.wrs x hx (.inl a) b
          omega
      · exact h.wr n T hT p
    pg := fun n T hT x hx => by
      rcases hgl n T hT with ⟨rfl, rfl⟩ | ⟨_, hT⟩
      · cases hx
      · exact h.pg n T hT x hx
    old := old_same h (fun a b => absurd ⟨a, b⟩ h2) (fun p => by unfold comm1; rw [if_neg (fun e => h3 ⟨e.1, e.2.1⟩)]) rfl }
theorem sim_write {M : Md} {m : Nat} {log : List De} (h : Sim M m log) {d : De} {T : Tx} (hk : d.1.kind = 2) (he : d.2.e = 0) (hT : get M.live d.1.txn = some T) (hp : 0 ≤ d.1.page ∧ d.1.page < M.pages)
    (ho : 0 ≤ d.1.off ∧ d.1.off ≤ 64 ∧ (d.1.s.size : Int) ≤ 64 - d.1.off)
    (ok' : Ok { M with live := put M.live d.1.txn { T with now := put T.now d.1.page (cpy ((get T.now d.1.page).getD (at' M d.1.page T.start).b) d.1.off.toNat d.1.s) } } (m + 1)) :
    Sim { M with live := put M.live d.1.txn { T with now := put T.now d.1.page (cpy ((get T.now d.1.page).getD (at' M d.1.page T.start).b) d.1.off.toNat d.1.s) } } (m + 1) (log ++ [d]) := by
  have h0 : ¬ (d.1.kind = 0 ∧ d.2.e = 0) := by omega
  have h3 : ¬ (d.1.kind = 3 ∧ d.2.e = 0) := by omega
  have h7 : ¬ (d.1.kind = 7 ∧ d.2.e = 0) := by omega
  have hgl : ∀ n T', get (put M.live d.1.txn { T with now := put T.now d.1.page (cpy ((get T.now d.1.page).getD (at' M d.1.page T.start).b) d.1.off.toNat d.1.s) }) n = some T' →
      (n = d.1.txn ∧ T' = { T with now := put T.now d.1.page (cpy ((get T.now d.1.page).getD (at' M d.1.page T.start).b) d.1.off.toNat d.1.s) }) ∨ (n ≠ d.1.txn ∧ get M.live n = some T') := fun n T' hg => by
    rw [get_put] at hg
    split at hg
    · rename_i e; exact .inl ⟨e, (Option.some.inj hg).symm⟩
    · rename_i e; exact .inr ⟨e, hg⟩
  have hkey := keys_get h.ok hT
  exact {
    ok := ok'
    eight := by
      show (put M.live _ _).length ≤ 8
      rw [put_len, hT]
      exact h.eight
    shut := by rw [shutF_snoc, h.shut, decide_eq_false h7, Bool.or_false]
    last := by rw [lastF_snoc]; unfold lastS; rw [if_neg h3]; exact h.last
    cnt := by rw [cnt_same h0]; exact h.cnt
    has := fun n a b => by obtain ⟨x, hx, e⟩ := h.has n a b; exact ⟨x, by simp [hx], e⟩
    begs := fun x hx a b => by
      rcases mem_snoc hx with hx | rfl
      · exact h.begs x hx a b
      · exact absurd ⟨a, b⟩ h0
    dist := by rw [dist_same h0]; exact h.dist
    beg := fun hs n => by
      rw [begF_snoc, begS_keep h0 (by omega)]
      obtain ⟨a, b⟩ := h.beg hs n
      refine ⟨?_, fun T' hT' => ?_⟩
      · rw [a]
        show _ = (get (put M.live _ _) n).isSome
        rw [get_put]
        split
        · rename_i e; rw [e, hT]; rfl
        · rfl
      · rcases hgl n T' hT' with ⟨rfl, rfl⟩ | ⟨_, e⟩
        · exact b T hT
        · exact b T' e
    bg := fun n T' hT' => by
      rcases hgl n T' hT' with ⟨rfl, rfl⟩ | ⟨_, e⟩
      · rw [bgn_old h d hkey.1 hkey.2]; exact h.bg _ T hT
      · obtain ⟨a, b⟩ := keys_get h.ok e
        rw [bgn_old h d a b]; exact h.bg n T' e
    wrs := fun x hx a b => by
      rcases mem_snoc hx with hx | rfl
      · obtain ⟨p, q, r⟩ := h.wrs x hx a b
        refine ⟨p, q, fun e => ?_⟩
        show get (put M.live _ _) x.1.txn = none
        rw [get_put, if_neg (fun e2 => by have := r e; rw [e2, hT] at this; cases this)]; exact r e
      · exact ⟨hkey.1, hkey.2, fun e => by omega⟩
    offs := fun x hx a b => by
      rcases mem_snoc hx with hx | rfl
      · exact h.offs x hx a b
      · exact ho
    wr := fun n T' hT' p => by
      rw [wrF_snoc]
      unfold wrS
      rcases hgl n T' hT' with ⟨rfl, rfl⟩ | ⟨hne, hT2⟩
      · have hw := h.wr _ T hT p
        show (if d.1.kind = 2 ∧ d.1.txn = d.1.txn ∧ d.1.page = p ∧ d.2.e = 0 then (cpy (wrF log d.1.txn p (at' M p T.start).b).1 d.1.off.toNat d.1.s, true) else wrF log d.1.txn p (at' M p T.start).b) = ((get (put T.now d.1.page _) p).getD _, (get (put T.now d.1.page _) p).isSome)
        rw [get_put, hw]
        by_cases e : p = d.1.page
        · subst e
          rw [if_pos ⟨hk, rfl, rfl, he⟩, if_pos rfl]
          rfl
        · rw [if_neg (fun x => e x.2.2.1.symm), if_neg e]
          rfl
      · rw [if_neg (fun e => hne e.2.1.symm)]
        exact h.wr n T' hT2 p
    pg := fun n T' hT' x hx => by
      rcases hgl n T' hT' with ⟨rfl, rfl⟩ | ⟨hne, hT2⟩
      · have hx' : x ∈ put T.now d.1.page _ := hx
        rcases mem_put hx' with rfl | hx'
        · exact hp
        · exact h.pg _ T hT x hx'
      · exact h.pg n T' hT2 x hx
    old := old_same h (fun _ _ => by rw [hT]; simp) (fun p => by unfold comm1; rw [if_neg (fun e => h3 ⟨e.1, e.2.1⟩)]) rfl }
theorem get_del' {M : Md} {m : Nat} (ok : Ok M m) {k n : Int} {T : Tx} (h : get (del M.live k) n = some T) : n ≠ k ∧ get M.live n = some T := by
  rw [get_del ok.keys] at h
  split at h
  · cases h
  · rename_i e; exact ⟨e, h⟩
/-- A transaction ends, and makes no version. -/
theorem sim_del {M : Md} {m : Nat} {log : List De} (h : Sim M m log) {d : De} {T : Tx} (hk : d.1.kind = 3 ∨ d.1.kind = 4) (he : d.2.e ≠ 9) (hT : get M.live d.1.txn = some T) (hts : d.1.kind = 3 → d.2.e = 0 → d.2.ts = T.start) :
    Sim { M with live := del M.live d.1.txn } (m + 1) (log ++ [d]) := by
  have h0 : ¬ (d.1.kind = 0 ∧ d.2.e = 0) := by omega
  have h2 : ¬ (d.1.kind = 2 ∧ d.2.e = 0) := by omega
  have h7 : ¬ (d.1.kind = 7 ∧ d.2.e = 0) := by omega
  have hkey := keys_get h.ok hT
  have hst := h.ok.start _ (get_mem hT)
  have hst' : T.start ≤ M.last := hst
  exact {
    ok := ok_del h.ok _
    eight := by
      show (del M.live _).length ≤ 8
      have key : ∀ l : List (Int × Tx), (del l d.1.txn).length ≤ l.length := fun l => by
        induction l with
        | nil => exact Nat.le_refl _
        | cons x l ih =>
          unfold del
          split
          · simp
          · simp only [List.length_cons]; omega
      have := key M.live
      have := h.eight
      omega
    shut := by rw [shutF_snoc, h.shut, decide_eq_false h7, Bool.or_false]
    last := by
      rw [lastF_snoc, h.last]
      unfold lastS
      split
      · rename_i e
        rw [hts e.1 e.2]
        show max M.last T.start = M.last
        omega
      · rfl
    cnt := by rw [cnt_same h0]; exact h.cnt
    has := fun n a b => by obtain ⟨x, hx, e⟩ := h.has n a b; exact ⟨x, by simp [hx], e⟩
    begs := fun x hx a b => by
      rcases mem_snoc hx with hx | rfl
      · exact h.begs x hx a b
      · exact absurd ⟨a, b⟩ h0
    dist := by rw [dist_same h0]; exact h.dist
    beg := fun hs n => by
      rw [begF_snoc]
      obtain ⟨a, b⟩ := h.beg hs n
      show _ = (get (del M.live _) n).isSome ∧ ∀ T', get (del M.live _) n = some T' → _
      by_cases e : n = d.1.txn
      · unfold begS
        rw [if_pos ⟨hk, e.symm, he⟩, get_del h.ok.keys, if_pos e]
        exact ⟨rfl, fun T' hT' => by cases hT'⟩
      · rw [begS_keep h0 (fun x => e x.2.1.symm), get_del h.ok.keys, if_neg e]
        exact ⟨a, b⟩
    bg := fun n T' hT' => by
      obtain ⟨_, e⟩ := get_del' h.ok hT'
      obtain ⟨a, b⟩ := keys_get h.ok e
      rw [bgn_old h d a b]; exact h.bg n T' e
    wrs := fun x hx a b => by
      show _ ∧ _ ∧ (_ → get (del M.live _) x.1.txn = none)
      rw [get_del h.ok.keys]
      rcases mem_snoc hx with hx | rfl
      · obtain ⟨p, q, r⟩ := h.wrs x hx a b
        refine ⟨p, q, fun e => ?_⟩
        split
        · rfl
        · exact r e
      · exact ⟨hkey.1, hkey.2, fun _ => by rw [if_pos rfl]⟩
    offs := fun x hx a b => by
      rcases mem_snoc hx with hx | rfl
      · exact h.offs x hx a b
      · exact absurd ⟨a, b⟩ h2
    wr := fun n T' hT' p => by
      obtain ⟨_, e⟩ := get_del' h.ok hT'
      rw [wrF_snoc]
      unfold wrS
      rw [if_neg (fun e => h2 ⟨e.1, e.2.2.2⟩)]
      exact h.wr n T' e p
    pg := fun n T' hT' x hx => h.pg n T' (get_del' h.ok hT').2 x hx
    old := old_same h (fun a b => absurd ⟨a, b⟩ h2) (fun p => by
      unfold comm1
      rw [if_neg]
      rintro ⟨a, b, c, _⟩
      rw [bgn_old h d hkey.1 hkey.2, h.bg _ T hT, hts a b] at c
      exact c rfl) rfl }
/-- A commit that makes versions. -/
theorem sim_commit {M : Md} {m : Nat} {log : List De} (h : Sim M m log) {d : De} {T : Tx} (hk : d.1.kind = 3) (he : d.2.e = 0) (hT : get M.live d.1.txn = some T) (hts : d.2.ts = M.last + 1)
    (ok' : Ok { M with live := del M.live d.1.txn, last := M.last + 1, old := fun p => M.old p ++ (match get T.now p with | some b => [⟨M.last + 1, b⟩] | none => []) } (m + 1)) :
    Sim { M with live := del M.live d.1.txn, last := M.last + 1, old := fun p => M.old p ++ (match get T.now p with | some b => [⟨M.last + 1, b⟩] | none => []) } (m + 1) (log ++ [d]) := by
  have h0 : ¬ (d.1.kind = 0 ∧ d.2.e = 0) := by omega
  have h2 : ¬ (d.1.kind = 2 ∧ d.2.e = 0) := by omega
  have h7 : ¬ (d.1.kind = 7 ∧ d.2.e = 0) := by omega
  have hkey := keys_get h.ok hT
  have hst := h.ok.start _ (get_mem hT)
  have hst' : T.start ≤ M.last := hst
  have h1 := sim_del h (d := (d.1, err 1)) (T := T) (.inl hk) (by simp [err]) hT (fun _ e => absurd e (by simp [err]))
  have hat : ∀ p s, s ≤ M.last → at' { M with live := del M.live d.1.txn, last := M.last + 1, old := fun p => M.old p ++ (match get T.now p with | some b => [⟨M.last + 1, b⟩] | none => []) } p s = at' M p s := fun p s hs => by
    show pick (M.old p ++ _) s ⟨0, zb⟩ = pick (M.old p) s ⟨0, zb⟩
    cases get T.now p with
    | some b => simp only []; rw [pick_append, if_neg (by show ¬ M.last + 1 ≤ s; omega)]
    | none => simp only []; rw [List.append_nil]
  have hwk : ∀ n p b, wrF (log ++ [d]) n p b = wrF log n p b := fun n p b => by
    rw [wrF_snoc]; unfold wrS
    rw [if_neg (fun e => h2 ⟨e.1, e.2.2.2⟩)]
  exact {
    ok := ok'
    eight := h1.eight
    shut := by rw [shutF_snoc, h.shut, decide_eq_false h7, Bool.or_false]
    last := by
      rw [lastF_snoc, h.last]
      unfold lastS
      rw [if_pos ⟨hk, he⟩, hts]
      show max M.last (M.last + 1) = M.last + 1
      omega
    cnt := by rw [cnt_same h0]; exact h.cnt
    has := fun n a b => by obtain ⟨x, hx, e⟩ := h.has n a b; exact ⟨x, by simp [hx], e⟩
    begs := fun x hx a b => by
      rcases mem_snoc hx with hx | rfl
      · exact h.begs x hx a b
      · exact absurd ⟨a, b⟩ h0
    dist := by rw [dist_same h0]; exact h.dist
    beg := fun hs n => by
      rw [begF_snoc]
      obtain ⟨a, b⟩ := h.beg hs n
      show _ = (get (del M.live _) n).isSome ∧ ∀ T', get (del M.live _) n = some T' → _
      by_cases e : n = d.1.txn
      · unfold begS
        rw [if_pos ⟨.inl hk, e.symm, by omega⟩, get_del h.ok.keys, if_pos e]
        exact ⟨rfl, fun T' hT' => by cases hT'⟩
      · rw [begS_keep h0 (fun x => e x.2.1.symm), get_del h.ok.keys, if_neg e]
        exact ⟨a, b⟩
    bg := fun n T' hT' => by
      obtain ⟨_, e⟩ := get_del' h.ok hT'
      obtain ⟨a, b⟩ := keys_get h.ok e
      rw [bgn_old h d a b]; exact h.bg n T' e
    wrs := fun x hx a b => by
      show _ ∧ _ ∧ (_ → get (del M.live _) x.1.txn = none)
      rw [get_del h.ok.keys]
      rcases mem_snoc hx with hx | rfl
      · obtain ⟨p, q, r⟩ := h.wrs x hx a b
        refine ⟨p, q, fun e => ?_⟩
        split
        · rfl
        · exact r e
      · exact ⟨hkey.1, hkey.2, fun _ => by rw [if_pos rfl]⟩
    offs := fun x hx a b => by
      rcases mem_snoc hx with hx | rfl
      · exact h.offs x hx a b
      · exact absurd ⟨a, b⟩ h2
    wr := fun n T' hT' p => by
      obtain ⟨_, e⟩ := get_del' h.ok hT'
      have hs := h.ok.start _ (get_mem e)
      have hs' : T'.start ≤ M.last := hs
      rw [hwk, hat p _ hs']
      exact h.wr n T' e p
    pg := fun n T' hT' x hx => h.pg n T' (get_del' h.ok hT').2 x hx
    old := fun p => by
      obtain ⟨Vs, o1, o2, o3, o4⟩ := h.old p
      have hver : ∀ x ∈ Vs, x.1.ts ≤ M.last := fun x hx => h.ok.ver p x.1 (by rw [o1]; exact List.mem_map.2 ⟨x, hx, rfl⟩)
      have hold : ∀ x ∈ Vs, 0 < x.1.ts ∧ bgn (log ++ [d]) x.2 < x.1.ts ∧ wrF (log ++ [d]) x.2 p (at' { M with live := del M.live d.1.txn, last := M.last + 1, old := fun p => M.old p ++ (match get T.now p with | some b => [⟨M.last + 1, b⟩] | none => []) } p (bgn (log ++ [d]) x.2)).b = (x.1.b, true) := fun x hx => by
        obtain ⟨a, b, c⟩ := o4 x hx
        have hm : (x.1.ts, x.2) ∈ comms log p := by rw [o2]; exact List.mem_map.2 ⟨x, hx, rfl⟩
        obtain ⟨y, hy, hye⟩ := List.mem_filterMap.1 hm
        have hy2 : y.1.kind = 3 ∧ y.2.e = 0 ∧ y.1.txn = x.2 := by
          unfold comm1 at hye
          split at hye
          · rename_i hh
            exact ⟨hh.1, hh.2.1, (Prod.mk.inj (Option.some.inj hye)).2⟩
          · cases hye
        obtain ⟨q1, q2, q3⟩ := h.wrs y hy (.inr hy2.1) hy2.2.1
        rw [hy2.2.2] at q1 q2
        have := hver x hx
        rw [bgn_old h d q1 q2, hwk, hat p _ (by omega)]
        exact ⟨a, b, c⟩
      have hcm : comms (log ++ [d]) p = comms log p ++ (if (get T.now p).isSome = true then [(M.last + 1, d.1.txn)] else []) := by
        rw [comms_snoc h (fun a b => absurd ⟨a, b⟩ h2)]
        congr 1
        unfold comm1
        rw [bgn_old h d hkey.1 hkey.2, h.bg _ T hT, hwk, hts, wrF_flag log d.1.txn p zb (at' M p T.start).b, h.wr _ T hT p]
        simp only []
        by_cases e : (get T.now p).isSome = true
        · rw [if_pos ⟨hk, he, by omega, e⟩, if_pos e]; rfl
        · rw [if_neg (fun x => e x.2.2.2), if_neg e]; rfl
      cases hg : get T.now p with
      | none =>
        refine ⟨Vs, ?_, ?_, o3, hold⟩
        · show M.old p ++ (match get T.now p with | some b => [⟨M.last + 1, b⟩] | none => []) = _
          rw [hg, o1]; simp
        · rw [hcm, hg, o2]; simp
      | some b =>
        refine ⟨Vs ++ [(⟨M.last + 1, b⟩, d.1.txn)], ?_, ?_, ?_, ?_⟩
        · show M.old p ++ (match get T.now p with | some b => [⟨M.last + 1, b⟩] | none => []) = _
          rw [hg, o1]; simp
        · rw [hcm, hg, o2]; simp
        · refine List.pairwise_append.2 ⟨o3, List.pairwise_singleton _ _, fun x hx y hy => ?_⟩
          obtain rfl : y = _ := by simpa using hy
          have := hver x hx
          show x.1.ts < M.last + 1
          omega
        · intro x hx
          rcases mem_snoc hx with hx | rfl
          · exact hold x hx
          · refine ⟨Nat.succ_pos _, ?_, ?_⟩
            · show bgn (log ++ [d]) d.1.txn < M.last + 1
              rw [bgn_old h d hkey.1 hkey.2, h.bg _ T hT]; omega
            · show wrF (log ++ [d]) d.1.txn p (at' _ p (bgn (log ++ [d]) d.1.txn)).b = (b, true)
              rw [bgn_old h d hkey.1 hkey.2, h.bg _ T hT, hwk, hat p _ hst', h.wr _ T hT p, hg]
              rfl }
end Go.Proofs.Ytjaecdcddmohoaa.P
