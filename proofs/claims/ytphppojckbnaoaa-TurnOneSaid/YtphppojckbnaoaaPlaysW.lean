/- The walk of TurnPlays. -/
import Derived.Test.YtphppojckbnaoaaRefAskW
import Derived.Test.YtphppojckbnaoaaAwakeW
import Derived.Deep.DeepCutAuto
namespace Go.Proofs.Ytphppojckbnaoaa
open Go.RowKit
set_option linter.unusedSimpArgs false
set_option linter.unusedVariables false
/-- A slice of pairs of numbers that came in. -/
structure OpsAt (w : World) (ao : Option Addr) (n : Nat) (K X : Nat → Int) : Prop where
  at_ : ∀ i, i < n → ∃ b o, ao = some ⟨b, o, none⟩ ∧ b < w.heap.size ∧ w.cell? ⟨b, o + i * 2, none⟩ = some (.int .i64 (K i)) ∧ w.cell? ⟨b, o + i * 2 + 1, none⟩ = some (.int .i64 (X i))
/-- A turn and the document's, side by side. -/
structure PS (w0 w : World) (t : Nat) (v : Value) (L : List Int) (r : Nat) (u : Value) (R : List (Int × Int)) (N : Int) : Prop where
  below : Below w0.heap.size w0 w
  T : TS w0.heap.size w t v L
  D : RS w0.heap.size w r u R N
  apart : ∀ b, foot t v b → ¬ foot r u b
  rel : P.Rel L R N
theorem PS.drew {w0 w : World} {t : Nat} {v : Value} {L : List Int} {r : Nat} {u : Value} {R : List (Int × Int)} {N : Int} (h : PS w0 w t v L r u R N) : PS w0 w.drew t v L r u R N :=
  ⟨h.below.drew, ⟨h.T.blk, h.T.own, h.T.ne, h.T.base⟩, ⟨h.D.blk, h.D.own, h.D.ne, h.D.base⟩, h.apart, h.rel⟩
theorem PS.go {w0 w w' : World} {t : Nat} {v : Value} {L : List Int} {r : Nat} {u : Value} {R : List (Int × Int)} {N : Int} (h : PS w0 w t v L r u R N) (k : Below w.heap.size w w') : PS w0 w' t v L r u R N :=
  ⟨h.below.trans (k.mono h.below.size), h.T.fr (Fr.of_below k fun _ => False) fun _ _ h => h, h.D.go k, h.apart, h.rel⟩
theorem PS.alloc {w0 w : World} {t : Nat} {v : Value} {L : List Int} {r : Nat} {u : Value} {R : List (Int × Int)} {N : Int} (h : PS w0 w t v L r u R N) (o : Obj) : PS w0 (w.alloc o) t v L r u R N :=
  h.go ((Below.refl _ _).alloc (Nat.le_refl _) _)
/-- Half a step: the turn's. -/
structure HS (w0 w : World) (t : Nat) (v : Value) (L : List Int) (r : Nat) (u : Value) (R : List (Int × Int)) (N : Int) : Prop where
  below : Below w0.heap.size w0 w
  T : TS w0.heap.size w t v L
  D : RS w0.heap.size w r u R N
  apart : ∀ b, foot t v b → ¬ foot r u b
theorem PS.stepT {w0 w w' : World} {t : Nat} {v v' : Value} {L L' : List Int} {r : Nat} {u : Value} {R : List (Int × Int)} {N : Int} (h : PS w0 w t v L r u R N) (hT : TS w0.heap.size w' t v' L') (hs : Stp t v v' w w') : HS w0 w' t v' L' r u R N := by
  refine ⟨hs.below h.T h.below (Nat.le_refl _), hT, h.D.fr hs.fr fun b hb hf => h.apart b hf hb, fun b hb hf => ?_⟩
  rcases hb with rfl | hb
  · exact h.apart _ (.inl rfl) hf
  · rcases hs.new with e | e
    · exact h.apart b (.inr (by rw [← e]; exact hb)) hf
    · have := e b hb; have := (h.D.lt b hf).2; omega
theorem HS.stepR {w0 w w' : World} {t : Nat} {v : Value} {L : List Int} {r : Nat} {u u' : Value} {R R' : List (Int × Int)} {N N' : Int} (h : HS w0 w t v L r u R N) (hR : RS w0.heap.size w' r u' R' N') (hs : Stp r u u' w w') (hrel : P.Rel L R' N') : PS w0 w' t v L r u' R' N' := by
  refine ⟨Fr.below h.below hs.fr (Nat.le_refl _) fun b hb => (h.D.lt b hb).1, h.T.fr hs.fr fun b hb hf => h.apart b hb hf, hR, fun b hb hf => ?_, hrel⟩
  rcases hf with rfl | hf
  · exact h.apart _ hb (.inl rfl)
  · rcases hs.new with e | e
    · exact h.apart b hb (.inr (by rw [← e]; exact hf))
    · have := e b hf; have := (h.T.lt b hb).2; omega
theorem PS.start (w : World) : PS w ((w.alloc (.cells #[.slice none 0 0] 40)).alloc (.cells #[.slice none 0 0, .int .i64 0] 34)) w.heap.size (.slice none 0 0) [] (w.heap.size + 1) (.slice none 0 0) [] 0 := by
  have hs : (w.alloc (.cells #[.slice none 0 0] 40)).heap.size = w.heap.size + 1 := by simp
  have hR := refnew_RS w.heap.size (w.alloc (.cells #[.slice none 0 0] 40)) (by omega)
  rw [hs] at hR
  refine ⟨((Below.refl _ _).alloc (Nat.le_refl _) _).alloc (by omega) _, (new_TS _ w (Nat.le_refl _)).fr ((Fr.refl (fun _ => False) _).alloc _) fun _ _ h => h, hR, ?_, P.Rel.nil⟩
  rintro b (rfl | hb) (h | h)
  · omega
  · cases h
  · cases hb
  · cases hb
/-- A row of numbers in memory. -/
def Row (w : World) (g : Nat) (L : List Int) : Prop := ∀ j x, L[j]? = some x → w.cell? ⟨g, j, none⟩ = some (.int .i64 x)
theorem Row.go {w w' : World} {g : Nat} {L : List Int} (h : Row w g L) (hg : g < w.heap.size) (k : Below w.heap.size w w') : Row w' g L := fun j x hx => by rw [k.cell hg]; exact h j x hx
theorem apart_lt {w0 w : World} {t : Nat} {v : Value} {L : List Int} {r : Nat} {u : Value} {R : List (Int × Int)} {N : Int} (h : PS w0 w t v L r u R N) : (∀ b, foot t v b → b < w.heap.size) ∧ ∀ b, foot r u b → b < w.heap.size :=
  ⟨fun b hb => (h.T.lt b hb).2, fun b hb => (h.D.lt b hb).2⟩
theorem has_zero {L : List Int} {y : Int} (h : L[0]? = some y) : P.has L y = true := by
  unfold P.has; rw [List.head?_eq_getElem?, h]; simp
theorem has_pos {L : List Int} (hn : L.Nodup) {m : Nat} {y : Int} (h : L[m]? = some y) (hm : 0 < m) : P.has L y = false := by
  unfold P.has
  rw [List.head?_eq_getElem?, decide_eq_false_iff_not]
  intro e
  have hl := (List.getElem?_eq_some_iff.1 h).1
  have h1 : L[0]'(by omega) = y := by rw [List.getElem?_eq_getElem (by omega)] at e; exact Option.some.inj e
  have h2 : L[m] = y := by rw [List.getElem?_eq_getElem hl] at h; exact Option.some.inj h
  have := (List.pairwise_iff_getElem.1 hn) 0 m (by omega) hl hm
  exact this (h1.trans h2.symm)
set_option maxRecDepth 100000 in
set_option maxHeartbeats 4000000 in
theorem plays_walk (ao : Option Addr) (n cap : Nat) (K X : Nat → Int) (w : World) (h : OpsAt w ao n K X) (hn : n ≤ maxLen) :
    Calls Try.prog 3 #[.slice ao n cap] w fun e w' => e = .returned (.bool true) ∧ Below w.heap.size w w' := by
  unfold maxLen at hn
  have HO := Lib.hid h
  have hst := PS.start w
  have HST := Lib.hid hst
  clear hst h
  go_enter Try.func3, Try.ntmps3
  go_wp2_with (first
    | (go_at_call 7; refine (new_any _).mono ?_; rintro e w1 ⟨rfl, rfl⟩)
    | (go_at_call 8; refine (refnew_any _).mono ?_; rintro e w1 ⟨rfl, rfl⟩))
  go_loopw [5] (fun i wr => ∃ k : Nat, i = .int .i64 k ∧ k ≤ 80 ∧ k ≤ n ∧ ∃ v L u R N, PS w wr w.heap.size v L (w.heap.size + 1) u R N ∧ L.length ≤ k ∧ N ≤ k) (fun i _ => n - (intOf i).toNat)
  case atStart => exact ⟨0, rfl, by omega, by omega, _, _, _, _, _, by simpa using HST.out, by simp, by simp⟩
  case round =>
    clear HST
    obtain ⟨k, rfl, hk, hkn, v, L, u, R, N, hP, hL, hN⟩ := hrel
    by_cases hlt : (k : Int) < n ∧ (k : Int) < 80
    · obtain ⟨hl1, hl2⟩ := hlt
      obtain ⟨b, o, rfl, hb, c1, c2⟩ := HO.out.at_ k (by omega)
      have d1 : wr.cell? ⟨b, o + k * 2, none⟩ = some (.int .i64 (K k)) := by rw [hP.below.cell hb]; exact c1
      have d2 : wr.cell? ⟨b, o + k * 2 + 1, none⟩ = some (.int .i64 (X k)) := by rw [hP.below.cell hb]; exact c2
      clear c1 c2
      generalize K k = kk at *
      generalize X k = x at *
      have hc1 := (apart_lt hP).1
      have hc2 := (apart_lt hP).2
      have hE := Blk.alloc_new wr #[.int .i64 kk, .int .i64 x] 28
      replace hP := hP.alloc (.cells #[.int .i64 kk, .int .i64 x] 28)
      go_upto_region 9 with (fail)
      generalize wr.alloc (.cells #[.int .i64 kk, .int .i64 x] 28) = w1 at *
      generalize wr.heap.size = c at *
      clear d1 d2 hb
      have e0 : w1.cell? ⟨c, 0, none⟩ = some (.int .i64 kk) := hE.cell 0
      have hq1 := hP.rel.left x
      by_cases hk0 : kk = 0
      · subst hk0
        go_wp2_with fail
        refine wp_region_held (S := (fun w' => Blk w' c #[.int .i64 0, .int .i64 x] 28)) (by kernel_rfl) ?_
        change wpAnyH _ _ _ _ _ _ _ _ w1.drew
        (try simp only [Act.put])
        have hS : Blk w1.drew c #[.int .i64 0, .int .i64 x] 28 := hE
        refine anyH_pure 0 _ ?_ rfl (by kernel_rfl) (by kernel_rfl) (by kernel_rfl) (fun _ _ _ h => h) rfl ?_ hS ?_
        rotate_left
        · (intro w'; go_simp; (try with_reducible rfl))
        (try simp only [Act.put, List.getElem_toArray, List.getElem_cons_zero, List.setIfInBounds_toArray, List.set_cons_zero, List.set_cons_succ])
        refine anyH_pure 1 _ ?_ rfl (by kernel_rfl) (by kernel_rfl) (by kernel_rfl) (fun _ _ _ h => h) rfl ?_ hS ?_
        rotate_left
        · (intro w'; go_simp; (try with_reducible rfl))
        (try simp only [Act.put, List.getElem_toArray, List.getElem_cons_zero, List.getElem_cons_succ, List.setIfInBounds_toArray, List.set_cons_zero, List.set_cons_succ])
        refine anyH_if 2 _ ?_ rfl (by kernel_rfl) (by kernel_rfl) (by kernel_rfl) (fun _ _ _ h => h) rfl ?_ hS ?_
        rotate_left
        · (intro w' h; have c0 := h.cell 1; go_simp; (try with_reducible rfl))
        (try simp only [Act.put, List.getElem_toArray, List.getElem_cons_zero, List.getElem_cons_succ, List.setIfInBounds_toArray, List.set_cons_zero, List.set_cons_succ])
        refine anyH_pure 4 _ ?_ rfl (by kernel_rfl) (by kernel_rfl) (by kernel_rfl) (fun _ _ _ h => h) rfl ?_ hS ?_
        rotate_left
        · (intro w'; go_simp; (try with_reducible rfl))
        (try simp only [Act.put, List.getElem_toArray, List.getElem_cons_zero, List.getElem_cons_succ, List.setIfInBounds_toArray, List.set_cons_zero, List.set_cons_succ])
        refine anyH_pure 5 _ ?_ rfl (by kernel_rfl) (by kernel_rfl) (by kernel_rfl) (fun _ _ _ h => h) rfl ?_ hS ?_
        rotate_left
        · (intro w'; go_simp; (try with_reducible rfl))
        (try simp only [Act.put, List.getElem_toArray, List.getElem_cons_zero, List.getElem_cons_succ, List.setIfInBounds_toArray, List.set_cons_zero, List.set_cons_succ])
        refine anyH_if 6 _ ?_ rfl (by kernel_rfl) (by kernel_rfl) (by kernel_rfl) (fun _ _ _ h => h) rfl ?_ hS ?_
        rotate_left
        · (intro w' h; have c0 := h.cell 1; go_simp; (try with_reducible rfl))
        (try simp only [Act.put, List.getElem_toArray, List.getElem_cons_zero, List.getElem_cons_succ, List.setIfInBounds_toArray, List.set_cons_zero, List.set_cons_succ])
        refine anyH_callR 3 _ _ _ _ (by kernel_rfl) rfl rfl (by go_simp) (_) (ask_any (hP.drew.T) (by omega) x) ?_
        rintro w2 ⟨v', hT, hs⟩
        have hH := hP.drew.stepT hT hs
        have hS : Blk w2 c #[.int .i64 0, .int .i64 x] 28 := hS.fr hs.fr fun hf => by have := hc1 c hf; omega
        refine ⟨hS, ?_⟩
        (try simp only [Act.put, List.getElem_toArray, List.getElem_cons_zero, List.getElem_cons_succ, List.setIfInBounds_toArray, List.set_cons_zero, List.set_cons_succ])
        have cB := refask_any hH.D (by rw [hP.rel.length]; omega) ⟨hP.rel.n0, by omega⟩ x
        rw [(hP.rel.ask x).has] at cB
        refine anyH_callR 7 _ _ _ _ (by kernel_rfl) rfl rfl (by go_simp) (_) (cB) ?_
        rintro w3 ⟨u', hD, hs2⟩
        have hP3 := hH.stepR hD hs2 (hP.rel.ask x)
        have hS : Blk w3 c #[.int .i64 0, .int .i64 x] 28 := hS.fr hs2.fr fun hf => by have := hc2 c hf; omega
        refine ⟨hS, ?_⟩
        (try simp only [Act.put, List.getElem_toArray, List.getElem_cons_zero, List.getElem_cons_succ, List.setIfInBounds_toArray, List.set_cons_zero, List.set_cons_succ])
        refine anyH_pure 8 _ ?_ rfl (by kernel_rfl) (by kernel_rfl) (by kernel_rfl) (fun _ _ _ h => h) rfl ?_ hS ?_
        rotate_left
        · (intro w'; go_simp; (try with_reducible rfl))
        (try simp only [Act.put, List.getElem_toArray, List.getElem_cons_zero, List.getElem_cons_succ, List.setIfInBounds_toArray, List.set_cons_zero, List.set_cons_succ])
        refine anyH_pure 9 _ ?_ rfl (by kernel_rfl) (by kernel_rfl) (by kernel_rfl) (fun _ _ _ h => h) rfl ?_ hS ?_
        rotate_left
        · (intro w'; go_simp; (try with_reducible rfl))
        (try simp only [Act.put, List.getElem_toArray, List.getElem_cons_zero, List.getElem_cons_succ, List.setIfInBounds_toArray, List.set_cons_zero, List.set_cons_succ])
        refine wpAnyH_done (by kernel_rfl) ?_ _
        replace hE := hS
        replace hP := hP3
        clear hS hs hs2 hT hD hH hP3 e0 cB
        generalize P.has (P.ask L x) x = a at *
        have hLB := Nat.le_trans (P.ask_length L x) (Nat.succ_le_succ hL)
        have hNB : P.raskN R N x ≤ ((k + 1 : Nat) : Int) := by unfold P.raskN; split <;> omega
        obtain ⟨ao', cp', hu⟩ := own_slice hP.D.own
        subst hu
        have hlen : (((P.ask L x).length : Int) != ((P.rask R N x).length : Int)) = false := by rw [hP.rel.length]; simp
        have hq : P.rhas (P.rask R N x) x = P.has (P.ask L x) x := hP.rel.has x
        go_wp2_with fail
        refine wp_region_held (S := (fun w' => Blk w' c #[.int .i64 0, .int .i64 x] 28)) (by kernel_rfl) ?_
        change wpAnyH _ _ _ _ _ _ _ _ (w3).drew
        (try simp only [Act.put])
        have hS : Blk (w3).drew c #[.int .i64 0, .int .i64 x] 28 := hE
        refine anyH_pure 0 _ ?_ rfl (by kernel_rfl) (by kernel_rfl) (by kernel_rfl) (fun _ _ _ h => h) rfl ?_ hS ?_
        rotate_left
        · (intro w'; go_simp; (try with_reducible rfl))
        (try simp only [Act.put, List.getElem_toArray, List.getElem_cons_zero, List.setIfInBounds_toArray, List.set_cons_zero, List.set_cons_succ])
        refine anyH_pure 1 _ ?_ rfl (by kernel_rfl) (by kernel_rfl) (by kernel_rfl) (fun _ _ _ h => h) rfl ?_ hS ?_
        rotate_left
        · (intro w'; go_simp; (try with_reducible rfl))
        (try simp only [Act.put, List.getElem_toArray, List.getElem_cons_zero, List.getElem_cons_succ, List.setIfInBounds_toArray, List.set_cons_zero, List.set_cons_succ])
        refine anyH_pure 2 _ ?_ rfl (by kernel_rfl) (by kernel_rfl) (by kernel_rfl) (fun _ _ _ h => h) rfl ?_ hS ?_
        rotate_left
        · (intro w'; go_simp; (try with_reducible rfl))
        (try simp only [Act.put, List.getElem_toArray, List.getElem_cons_zero, List.getElem_cons_succ, List.setIfInBounds_toArray, List.set_cons_zero, List.set_cons_succ])
        refine anyH_pure 3 _ ?_ rfl (by kernel_rfl) (by kernel_rfl) (by kernel_rfl) (fun _ _ _ h => h) rfl ?_ hS ?_
        rotate_left
        · (intro w'; go_simp; (try with_reducible rfl))
        (try simp only [Act.put, List.getElem_toArray, List.getElem_cons_zero, List.getElem_cons_succ, List.setIfInBounds_toArray, List.set_cons_zero, List.set_cons_succ])
        refine anyH_pure 4 _ ?_ rfl (by kernel_rfl) (by kernel_rfl) (by kernel_rfl) (fun _ _ _ h => h) rfl ?_ hS ?_
        rotate_left
        · (intro w'; go_simp; (try with_reducible rfl))
        (try simp only [Act.put, List.getElem_toArray, List.getElem_cons_zero, List.getElem_cons_succ, List.setIfInBounds_toArray, List.set_cons_zero, List.set_cons_succ])
        refine anyH_pure 5 _ ?_ rfl (by kernel_rfl) (by kernel_rfl) (by kernel_rfl) (fun _ _ _ h => h) rfl ?_ hS ?_
        rotate_left
        · (intro w'; go_simp; (try with_reducible rfl))
        (try simp only [Act.put, List.getElem_toArray, List.getElem_cons_zero, List.getElem_cons_succ, List.setIfInBounds_toArray, List.set_cons_zero, List.set_cons_succ])
        refine anyH_if 6 _ ?_ rfl (by kernel_rfl) (by kernel_rfl) (by kernel_rfl) (fun _ _ _ h => h) rfl ?_ hS ?_
        rotate_left
        · (intro w' h; have c0 := h.cell 1; go_simp; (try with_reducible rfl))
        (try simp only [Act.put, List.getElem_toArray, List.getElem_cons_zero, List.getElem_cons_succ, List.setIfInBounds_toArray, List.set_cons_zero, List.set_cons_succ])
        refine anyH_pure 8 _ ?_ rfl (by kernel_rfl) (by kernel_rfl) (by kernel_rfl) (fun _ _ _ h => h) rfl ?_ hS ?_
        rotate_left
        · (intro w'; go_simp; (try with_reducible rfl))
        (try simp only [Act.put, List.getElem_toArray, List.getElem_cons_zero, List.getElem_cons_succ, List.setIfInBounds_toArray, List.set_cons_zero, List.set_cons_succ])
        refine anyH_pure 9 _ ?_ rfl (by kernel_rfl) (by kernel_rfl) (by kernel_rfl) (fun _ _ _ h => h) rfl ?_ hS ?_
        rotate_left
        · (intro w'; go_simp; (try with_reducible rfl))
        (try simp only [Act.put, List.getElem_toArray, List.getElem_cons_zero, List.getElem_cons_succ, List.setIfInBounds_toArray, List.set_cons_zero, List.set_cons_succ])
        refine anyH_if 10 _ ?_ rfl (by kernel_rfl) (by kernel_rfl) (by kernel_rfl) (fun _ _ _ h => h) rfl ?_ hS ?_
        rotate_left
        · (intro w' h; have c0 := h.cell 1; go_simp; (try with_reducible rfl))
        (try simp only [Act.put, List.getElem_toArray, List.getElem_cons_zero, List.getElem_cons_succ, List.setIfInBounds_toArray, List.set_cons_zero, List.set_cons_succ])
        refine anyH_callR 7 _ _ _ _ (by kernel_rfl) rfl rfl (by go_simp) (_) (has_any hP.drew.T (by omega) x) ?_
        rintro w4 rfl
        refine ⟨hS, ?_⟩
        (try simp only [Act.put, List.getElem_toArray, List.getElem_cons_zero, List.getElem_cons_succ, List.setIfInBounds_toArray, List.set_cons_zero, List.set_cons_succ])
        have cB := refhas_any hP.drew.D (by rw [hP.rel.length]; omega) x
        rw [hq] at cB
        refine anyH_callR 11 _ _ _ _ (by kernel_rfl) rfl rfl (by go_simp) (_) (cB) ?_
        rintro w4 hb4
        have hP4 := hP.drew.go hb4
        have hS := hS.below hb4
        refine ⟨hS, ?_⟩
        (try simp only [Act.put, List.getElem_toArray, List.getElem_cons_zero, List.getElem_cons_succ, List.setIfInBounds_toArray, List.set_cons_zero, List.set_cons_succ])
        refine anyH_pure 12 _ ?_ rfl (by kernel_rfl) (by kernel_rfl) (by kernel_rfl) (fun _ _ _ h => h) rfl ?_ hS ?_
        rotate_left
        · (intro w'; go_simp; (try with_reducible rfl))
        (try simp only [Act.put, List.getElem_toArray, List.getElem_cons_zero, List.getElem_cons_succ, List.setIfInBounds_toArray, List.set_cons_zero, List.set_cons_succ])
        refine anyH_pure 13 _ ?_ rfl (by kernel_rfl) (by kernel_rfl) (by kernel_rfl) (fun _ _ _ h => h) rfl ?_ hS ?_
        rotate_left
        · (intro w'; go_simp; (try with_reducible rfl))
        (try simp only [Act.put, List.getElem_toArray, List.getElem_cons_zero, List.getElem_cons_succ, List.setIfInBounds_toArray, List.set_cons_zero, List.set_cons_succ])
        refine wpAnyH_done (by kernel_rfl) ?_ _
        clear hS hb4 hE hP hq cB
        go_wp2_with fail
        refine (line_any hP4.T (by omega)).mono ?_
        rintro e w5 ⟨l, rfl, hown, hb5⟩
        have hP5 := hP4.go hb5
        clear hP4 hb5
        have r0 : w5.cell? ⟨w.heap.size + 1, 0, none⟩ = some (.slice ao' (P.rask R N x).length cp') := hP5.D.blk.cell 0
        rcases own_cases hown with ⟨rfl, h0, h1⟩ | ⟨gl, cl, rfl, hcl, _, hgl, hgl2, hcc, _⟩
        · have hlen : ((0 : Int) != ((P.rask R N x).length : Int)) = false := by rw [hP5.rel.length, h0]; simp
          clear hown h1
          replace h0 := Lib.hid h0
          go_wp2_with fail
          refine wp_loop_rounds 1 ?_
          rw [rounds_succ]
          go_wp2_with fail
          go_roundw
          case rel => exact ⟨k + 1, by go_num, by omega, by omega, _, _, _, _, _, hP5, hLB, hNB⟩
          case measure => simp [intOf]; omega
        · have hrow : Row w5 gl (P.ask L x) := fun j y hy => by rw [hcc j (List.getElem?_eq_some_iff.1 hy).1]; exact line_get hy
          have HR := Lib.hid hrow
          have HC := Lib.hid hP5
          clear hown hcc hrow
          go_wp2_with fail
          clear r0 hlen
          go_loopw [77] (fun j wq => ∃ m : Nat, j = .int .i64 m ∧ m ≤ (P.ask L x).length ∧ Below w5.heap.size w5 wq) (fun j _ => (P.ask L x).length - (intOf j).toNat)
          case atStart => exact ⟨0, rfl, by omega, Below.refl _ _⟩
          case round =>
            obtain ⟨m, rfl, hm, hbq⟩ := hrel
            have hPq := HC.out.go hbq
            by_cases hlm : m < (P.ask L x).length
            · obtain ⟨y, hy⟩ : ∃ y, (P.ask L x)[m]? = some y := ⟨_, List.getElem?_eq_getElem hlm⟩
              have HY := Lib.hid hy
              have hpos := hPq.rel.at_pos (List.mem_of_getElem? hy)
              have hmem := Lib.hid (List.mem_of_getElem? hy)
              have hRq := HR.out.go hgl2 hbq
              clear hy
              obtain ⟨A, hA⟩ : ∃ A, P.at' (P.rask R N x) y = A := ⟨_, rfl⟩
              rw [hA] at hpos
              have hA0 : (A == 0) = false := by rw [beq_eq_false_iff_ne]; omega
              replace hA := Lib.hid hA
              have cq := hRq m y HY.out
              have HRQ := Lib.hid hRq
              clear hRq hmem
              by_cases hm0 : m = 0
              · have g0 : decide ((0 : Int) < (m : Int)) = false := by simp [hm0]
                have g1 : ((m : Int) == 0) = true := by simp [hm0]
                have hhas := has_zero (by rw [← hm0]; exact HY.out)
                replace hm0 := Lib.hid hm0
                go_wp2_with fail
                refine wp_region_held (S := (fun w' => Row w' gl (P.ask L x))) (by kernel_rfl) ?_
                change wpAnyH _ _ _ _ _ _ _ _ wr.drew
                (try simp only [Act.put])
                have hS : Row wr.drew gl (P.ask L x) := HRQ.out
                have hPq := hPq.drew
                have hgq : gl < wr.drew.heap.size := Nat.lt_of_lt_of_le hgl2 hbq.size
                refine anyH_pure 0 _ ?_ rfl (by kernel_rfl) (by kernel_rfl) (by kernel_rfl) (fun _ _ _ h => h) rfl ?_ hS ?_
                rotate_left
                · (intro w'; go_simp; (try with_reducible rfl))
                (try simp only [Act.put, List.getElem_toArray, List.getElem_cons_zero, List.setIfInBounds_toArray, List.set_cons_zero, List.set_cons_succ])
                refine anyH_pure 1 _ ?_ rfl (by kernel_rfl) (by kernel_rfl) (by kernel_rfl) (fun _ _ _ h => h) rfl ?_ hS ?_
                rotate_left
                · (intro w'; go_simp; (try with_reducible rfl))
                (try simp only [Act.put, List.getElem_toArray, List.getElem_cons_zero, List.getElem_cons_succ, List.setIfInBounds_toArray, List.set_cons_zero, List.set_cons_succ])
                refine anyH_pure 2 _ ?_ rfl (by kernel_rfl) (by kernel_rfl) (by kernel_rfl) (fun _ _ _ h => h) rfl ?_ hS ?_
                rotate_left
                · (intro w'; go_simp; (try with_reducible rfl))
                (try simp only [Act.put, List.getElem_toArray, List.getElem_cons_zero, List.getElem_cons_succ, List.setIfInBounds_toArray, List.set_cons_zero, List.set_cons_succ])
                refine anyH_pure 3 _ ?_ rfl (by kernel_rfl) (by kernel_rfl) (by kernel_rfl) (fun _ _ _ h => h) rfl ?_ hS ?_
                rotate_left
                · (intro w'; go_simp; (try with_reducible rfl))
                (try simp only [Act.put, List.getElem_toArray, List.getElem_cons_zero, List.getElem_cons_succ, List.setIfInBounds_toArray, List.set_cons_zero, List.set_cons_succ])
                refine anyH_if 4 _ ?_ rfl (by kernel_rfl) (by kernel_rfl) (by kernel_rfl) (fun _ _ _ h => h) rfl ?_ hS ?_
                rotate_left
                · (intro w' h; have c0 := (h m y HY.out); go_simp; (try with_reducible rfl))
                (try simp only [Act.put, List.getElem_toArray, List.getElem_cons_zero, List.getElem_cons_succ, List.setIfInBounds_toArray, List.set_cons_zero, List.set_cons_succ])
                have cA := refat_any hPq.D (by rw [hPq.rel.length]; omega) y
                rw [hA.out] at cA
                refine anyH_callR 5 _ _ _ _ (by kernel_rfl) rfl rfl (by go_simp) (_) (cA) ?_
                rintro w6 hb6
                have hS := hS.go hgq hb6
                have hP6 := hPq.go hb6
                refine ⟨hS, ?_⟩
                (try simp only [Act.put, List.getElem_toArray, List.getElem_cons_zero, List.getElem_cons_succ, List.setIfInBounds_toArray, List.set_cons_zero, List.set_cons_succ])
                refine anyH_pure 6 _ (.bool false) rfl (by kernel_rfl) (by kernel_rfl) (by kernel_rfl) (fun _ _ _ h => h) rfl ?_ hS ?_
                · (intro w'; go_simp; (try simp [hA0]))
                (try simp only [Act.put, List.getElem_toArray, List.getElem_cons_zero, List.getElem_cons_succ, List.setIfInBounds_toArray, List.set_cons_zero, List.set_cons_succ])
                refine anyH_pure 7 _ ?_ rfl (by kernel_rfl) (by kernel_rfl) (by kernel_rfl) (fun _ _ _ h => h) rfl ?_ hS ?_
                rotate_left
                · (intro w'; go_simp; (try with_reducible rfl))
                (try simp only [Act.put, List.getElem_toArray, List.getElem_cons_zero, List.getElem_cons_succ, List.setIfInBounds_toArray, List.set_cons_zero, List.set_cons_succ])
                refine anyH_pure 8 _ ?_ rfl (by kernel_rfl) (by kernel_rfl) (by kernel_rfl) (fun _ _ _ h => h) rfl ?_ hS ?_
                rotate_left
                · (intro w'; go_simp; (try with_reducible rfl))
                (try simp only [Act.put, List.getElem_toArray, List.getElem_cons_zero, List.getElem_cons_succ, List.setIfInBounds_toArray, List.set_cons_zero, List.set_cons_succ])
                refine anyH_pure 9 _ (.bool false) rfl (by kernel_rfl) (by kernel_rfl) (by kernel_rfl) (fun _ _ _ h => h) rfl ?_ hS ?_
                · (intro w'; go_simp; (try exact hm0.out))
                (try simp only [Act.put, List.getElem_toArray, List.getElem_cons_zero, List.getElem_cons_succ, List.setIfInBounds_toArray, List.set_cons_zero, List.set_cons_succ])
                refine anyH_pure 10 _ ?_ rfl (by kernel_rfl) (by kernel_rfl) (by kernel_rfl) (fun _ _ _ h => h) rfl ?_ hS ?_
                rotate_left
                · (intro w'; go_simp; (try with_reducible rfl))
                (try simp only [Act.put, List.getElem_toArray, List.getElem_cons_zero, List.getElem_cons_succ, List.setIfInBounds_toArray, List.set_cons_zero, List.set_cons_succ])
                refine anyH_skip 11 _ rfl (by kernel_rfl) (by kernel_rfl) (by kernel_rfl) (fun _ _ _ h => h) rfl hS ?_
                (try simp only [Act.put, List.getElem_toArray, List.getElem_cons_zero, List.getElem_cons_succ, List.setIfInBounds_toArray, List.set_cons_zero, List.set_cons_succ])
                refine anyH_skip 12 _ rfl (by kernel_rfl) (by kernel_rfl) (by kernel_rfl) (fun _ _ _ h => h) rfl hS ?_
                (try simp only [Act.put, List.getElem_toArray, List.getElem_cons_zero, List.getElem_cons_succ, List.setIfInBounds_toArray, List.set_cons_zero, List.set_cons_succ])
                refine anyH_skip 13 _ rfl (by kernel_rfl) (by kernel_rfl) (by kernel_rfl) (fun _ _ _ h => h) rfl hS ?_
                (try simp only [Act.put, List.getElem_toArray, List.getElem_cons_zero, List.getElem_cons_succ, List.setIfInBounds_toArray, List.set_cons_zero, List.set_cons_succ])
                refine anyH_skip 14 _ rfl (by kernel_rfl) (by kernel_rfl) (by kernel_rfl) (fun _ _ _ h => h) rfl hS ?_
                (try simp only [Act.put, List.getElem_toArray, List.getElem_cons_zero, List.getElem_cons_succ, List.setIfInBounds_toArray, List.set_cons_zero, List.set_cons_succ])
                refine anyH_skip 15 _ rfl (by kernel_rfl) (by kernel_rfl) (by kernel_rfl) (fun _ _ _ h => h) rfl hS ?_
                (try simp only [Act.put, List.getElem_toArray, List.getElem_cons_zero, List.getElem_cons_succ, List.setIfInBounds_toArray, List.set_cons_zero, List.set_cons_succ])
                refine anyH_skip 16 _ rfl (by kernel_rfl) (by kernel_rfl) (by kernel_rfl) (fun _ _ _ h => h) rfl hS ?_
                (try simp only [Act.put, List.getElem_toArray, List.getElem_cons_zero, List.getElem_cons_succ, List.setIfInBounds_toArray, List.set_cons_zero, List.set_cons_succ])
                refine anyH_skip 17 _ rfl (by kernel_rfl) (by kernel_rfl) (by kernel_rfl) (fun _ _ _ h => h) rfl hS ?_
                (try simp only [Act.put, List.getElem_toArray, List.getElem_cons_zero, List.getElem_cons_succ, List.setIfInBounds_toArray, List.set_cons_zero, List.set_cons_succ])
                refine anyH_skip 18 _ rfl (by kernel_rfl) (by kernel_rfl) (by kernel_rfl) (fun _ _ _ h => h) rfl hS ?_
                (try simp only [Act.put, List.getElem_toArray, List.getElem_cons_zero, List.getElem_cons_succ, List.setIfInBounds_toArray, List.set_cons_zero, List.set_cons_succ])
                refine anyH_skip 19 _ rfl (by kernel_rfl) (by kernel_rfl) (by kernel_rfl) (fun _ _ _ h => h) rfl hS ?_
                (try simp only [Act.put, List.getElem_toArray, List.getElem_cons_zero, List.getElem_cons_succ, List.setIfInBounds_toArray, List.set_cons_zero, List.set_cons_succ])
                refine anyH_skip 20 _ rfl (by kernel_rfl) (by kernel_rfl) (by kernel_rfl) (fun _ _ _ h => h) rfl hS ?_
                (try simp only [Act.put, List.getElem_toArray, List.getElem_cons_zero, List.getElem_cons_succ, List.setIfInBounds_toArray, List.set_cons_zero, List.set_cons_succ])
                refine anyH_skip 21 _ rfl (by kernel_rfl) (by kernel_rfl) (by kernel_rfl) (fun _ _ _ h => h) rfl hS ?_
                (try simp only [Act.put, List.getElem_toArray, List.getElem_cons_zero, List.getElem_cons_succ, List.setIfInBounds_toArray, List.set_cons_zero, List.set_cons_succ])
                refine anyH_skip 22 _ rfl (by kernel_rfl) (by kernel_rfl) (by kernel_rfl) (fun _ _ _ h => h) rfl hS ?_
                (try simp only [Act.put, List.getElem_toArray, List.getElem_cons_zero, List.getElem_cons_succ, List.setIfInBounds_toArray, List.set_cons_zero, List.set_cons_succ])
                refine anyH_skip 23 _ rfl (by kernel_rfl) (by kernel_rfl) (by kernel_rfl) (fun _ _ _ h => h) rfl hS ?_
                (try simp only [Act.put, List.getElem_toArray, List.getElem_cons_zero, List.getElem_cons_succ, List.setIfInBounds_toArray, List.set_cons_zero, List.set_cons_succ])
                refine anyH_skip 24 _ rfl (by kernel_rfl) (by kernel_rfl) (by kernel_rfl) (fun _ _ _ h => h) rfl hS ?_
                (try simp only [Act.put, List.getElem_toArray, List.getElem_cons_zero, List.getElem_cons_succ, List.setIfInBounds_toArray, List.set_cons_zero, List.set_cons_succ])
                refine anyH_pure 25 _ ?_ rfl (by kernel_rfl) (by kernel_rfl) (by kernel_rfl) (fun _ _ _ h => h) rfl ?_ hS ?_
                rotate_left
                · (intro w'; go_simp; (try with_reducible rfl))
                (try simp only [Act.put, List.getElem_toArray, List.getElem_cons_zero, List.getElem_cons_succ, List.setIfInBounds_toArray, List.set_cons_zero, List.set_cons_succ])
                refine anyH_pure 26 _ ?_ rfl (by kernel_rfl) (by kernel_rfl) (by kernel_rfl) (fun _ _ _ h => h) rfl ?_ hS ?_
                rotate_left
                · (intro w'; go_simp; (try with_reducible rfl))
                (try simp only [Act.put, List.getElem_toArray, List.getElem_cons_zero, List.getElem_cons_succ, List.setIfInBounds_toArray, List.set_cons_zero, List.set_cons_succ])
                refine anyH_pure 27 _ ?_ rfl (by kernel_rfl) (by kernel_rfl) (by kernel_rfl) (fun _ _ _ h => h) rfl ?_ hS ?_
                rotate_left
                · (intro w'; go_simp; (try with_reducible rfl))
                (try simp only [Act.put, List.getElem_toArray, List.getElem_cons_zero, List.getElem_cons_succ, List.setIfInBounds_toArray, List.set_cons_zero, List.set_cons_succ])
                refine anyH_pure 28 _ ?_ rfl (by kernel_rfl) (by kernel_rfl) (by kernel_rfl) (fun _ _ _ h => h) rfl ?_ hS ?_
                rotate_left
                · (intro w'; go_simp; (try with_reducible rfl))
                (try simp only [Act.put, List.getElem_toArray, List.getElem_cons_zero, List.getElem_cons_succ, List.setIfInBounds_toArray, List.set_cons_zero, List.set_cons_succ])
                refine anyH_pure 29 _ ?_ rfl (by kernel_rfl) (by kernel_rfl) (by kernel_rfl) (fun _ _ _ h => h) rfl ?_ hS ?_
                rotate_left
                · (intro w'; go_simp; (try with_reducible rfl))
                (try simp only [Act.put, List.getElem_toArray, List.getElem_cons_zero, List.getElem_cons_succ, List.setIfInBounds_toArray, List.set_cons_zero, List.set_cons_succ])
                refine anyH_pure 30 _ ?_ rfl (by kernel_rfl) (by kernel_rfl) (by kernel_rfl) (fun _ _ _ h => h) rfl ?_ hS ?_
                rotate_left
                · (intro w'; go_simp; (try with_reducible rfl))
                (try simp only [Act.put, List.getElem_toArray, List.getElem_cons_zero, List.getElem_cons_succ, List.setIfInBounds_toArray, List.set_cons_zero, List.set_cons_succ])
                refine anyH_pure 31 _ ?_ rfl (by kernel_rfl) (by kernel_rfl) (by kernel_rfl) (fun _ _ _ h => h) rfl ?_ hS ?_
                rotate_left
                · (intro w'; go_simp; (try with_reducible rfl))
                (try simp only [Act.put, List.getElem_toArray, List.getElem_cons_zero, List.getElem_cons_succ, List.setIfInBounds_toArray, List.set_cons_zero, List.set_cons_succ])
                refine anyH_if 32 _ ?_ rfl (by kernel_rfl) (by kernel_rfl) (by kernel_rfl) (fun _ _ _ h => h) rfl ?_ hS ?_
                rotate_left
                · (intro w' h; have c0 := (h m y HY.out); go_simp; (try with_reducible rfl))
                (try simp only [Act.put, List.getElem_toArray, List.getElem_cons_zero, List.getElem_cons_succ, List.setIfInBounds_toArray, List.set_cons_zero, List.set_cons_succ])
                have cH := has_any hP6.T (by omega) y
                rw [hhas] at cH
                refine anyH_pure 34 _ ?_ rfl (by kernel_rfl) (by kernel_rfl) (by kernel_rfl) (fun _ _ _ h => h) rfl ?_ hS ?_
                rotate_left
                · (intro w'; go_simp; (try with_reducible rfl))
                (try simp only [Act.put, List.getElem_toArray, List.getElem_cons_zero, List.getElem_cons_succ, List.setIfInBounds_toArray, List.set_cons_zero, List.set_cons_succ])
                refine anyH_pure 35 _ ?_ rfl (by kernel_rfl) (by kernel_rfl) (by kernel_rfl) (fun _ _ _ h => h) rfl ?_ hS ?_
                rotate_left
                · (intro w'; go_simp; (try with_reducible rfl))
                (try simp only [Act.put, List.getElem_toArray, List.getElem_cons_zero, List.getElem_cons_succ, List.setIfInBounds_toArray, List.set_cons_zero, List.set_cons_succ])
                refine anyH_callR 33 _ _ _ _ (by kernel_rfl) rfl rfl (by go_simp) (_) (cH) ?_
                rintro w7 rfl
                refine ⟨hS, ?_⟩
                (try simp only [Act.put, List.getElem_toArray, List.getElem_cons_zero, List.getElem_cons_succ, List.setIfInBounds_toArray, List.set_cons_zero, List.set_cons_succ])
                refine anyH_pure 36 _ ?_ rfl (by kernel_rfl) (by kernel_rfl) (by kernel_rfl) (fun _ _ _ h => h) rfl ?_ hS ?_
                rotate_left
                · (intro w'; go_simp; (try with_reducible rfl))
                (try simp only [Act.put, List.getElem_toArray, List.getElem_cons_zero, List.getElem_cons_succ, List.setIfInBounds_toArray, List.set_cons_zero, List.set_cons_succ])
                refine anyH_pure 37 _ ?_ rfl (by kernel_rfl) (by kernel_rfl) (by kernel_rfl) (fun _ _ _ h => h) rfl ?_ hS ?_
                rotate_left
                · (intro w'; go_simp; (try with_reducible rfl))
                (try simp only [Act.put, List.getElem_toArray, List.getElem_cons_zero, List.getElem_cons_succ, List.setIfInBounds_toArray, List.set_cons_zero, List.set_cons_succ])
                refine wpAnyH_done (by kernel_rfl) ?_ _
                have hbf : Below w5.heap.size w5 w6 := hbq.drew.trans (hb6.mono hbq.size)
                clear hS hP6 cA cH hb6 hPq hbq hgq
                go_wp2_with fail
                go_roundw
                case rel => exact ⟨m + 1, by go_num, by omega, hbf⟩
                case measure => simp [intOf]; omega
              · have g0 : decide ((0 : Int) < (m : Int)) = true := by simp; omega
                have g1 : ((m : Int) == 0) = false := by simp; omega
                have hhas := has_pos hPq.rel.nodup HY.out (by omega)
                obtain ⟨z, hz⟩ : ∃ z, (P.ask L x)[m - 1]? = some z := ⟨_, List.getElem?_eq_getElem (by omega)⟩
                obtain ⟨A', hA'⟩ : ∃ A', P.at' (P.rask R N x) z = A' := ⟨_, rfl⟩
                have hlt' : A' < A := by
                  have h1 := hPq.rel.at_lt (j := m - 1) (k := m) (by omega) hlm
                  have hy' : (P.ask L x)[m] = y := by have := HY.out; rw [List.getElem?_eq_getElem hlm] at this; exact Option.some.inj this
                  have hz' : (P.ask L x)[m - 1]'(by omega) = z := by rw [List.getElem?_eq_getElem (by omega)] at hz; exact Option.some.inj hz
                  rw [hy', hz', hA', hA.out] at h1
                  exact h1
                have hm1 : 0 < m := by omega
                replace hm0 := Lib.hid hm0
                replace hA' := Lib.hid hA'
                have cz := HRQ.out (m - 1) z hz
                replace hz := Lib.hid hz
                have i1 : IntKind.i64.wrap ((m : Int) - 1) = ((m - 1 : Nat) : Int) := by rw [IntWalk.i64_in _ (by omega)]; omega
                have i2 : ((m : Int) - 1).toNat = m - 1 := by omega
                go_wp2_with fail
                refine wp_region_held (S := (fun w' => Row w' gl (P.ask L x))) (by kernel_rfl) ?_
                change wpAnyH _ _ _ _ _ _ _ _ wr.drew
                (try simp only [Act.put])
                have hS : Row wr.drew gl (P.ask L x) := HRQ.out
                have hPq := hPq.drew
                have hgq : gl < wr.drew.heap.size := Nat.lt_of_lt_of_le hgl2 hbq.size
                refine anyH_pure 0 _ ?_ rfl (by kernel_rfl) (by kernel_rfl) (by kernel_rfl) (fun _ _ _ h => h) rfl ?_ hS ?_
                rotate_left
                · (intro w'; go_simp; (try with_reducible rfl))
                (try simp only [Act.put, List.getElem_toArray, List.getElem_cons_zero, List.setIfInBounds_toArray, List.set_cons_zero, List.set_cons_succ])
                refine anyH_pure 1 _ ?_ rfl (by kernel_rfl) (by kernel_rfl) (by kernel_rfl) (fun _ _ _ h => h) rfl ?_ hS ?_
                rotate_left
                · (intro w'; go_simp; (try with_reducible rfl))
                (try simp only [Act.put, List.getElem_toArray, List.getElem_cons_zero, List.getElem_cons_succ, List.setIfInBounds_toArray, List.set_cons_zero, List.set_cons_succ])
                refine anyH_pure 2 _ ?_ rfl (by kernel_rfl) (by kernel_rfl) (by kernel_rfl) (fun _ _ _ h => h) rfl ?_ hS ?_
                rotate_left
                · (intro w'; go_simp; (try with_reducible rfl))
                (try simp only [Act.put, List.getElem_toArray, List.getElem_cons_zero, List.getElem_cons_succ, List.setIfInBounds_toArray, List.set_cons_zero, List.set_cons_succ])
                refine anyH_pure 3 _ ?_ rfl (by kernel_rfl) (by kernel_rfl) (by kernel_rfl) (fun _ _ _ h => h) rfl ?_ hS ?_
                rotate_left
                · (intro w'; go_simp; (try with_reducible rfl))
                (try simp only [Act.put, List.getElem_toArray, List.getElem_cons_zero, List.getElem_cons_succ, List.setIfInBounds_toArray, List.set_cons_zero, List.set_cons_succ])
                refine anyH_if 4 _ ?_ rfl (by kernel_rfl) (by kernel_rfl) (by kernel_rfl) (fun _ _ _ h => h) rfl ?_ hS ?_
                rotate_left
                · (intro w' h; have c0 := (h m y HY.out); go_simp; (try with_reducible rfl))
                (try simp only [Act.put, List.getElem_toArray, List.getElem_cons_zero, List.getElem_cons_succ, List.setIfInBounds_toArray, List.set_cons_zero, List.set_cons_succ])
                have cA := refat_any hPq.D (by rw [hPq.rel.length]; omega) y
                rw [hA.out] at cA
                refine anyH_callR 5 _ _ _ _ (by kernel_rfl) rfl rfl (by go_simp) (_) (cA) ?_
                rintro w6 hb6
                have hS := hS.go hgq hb6
                have hP6 := hPq.go hb6
                have hg6 := Nat.lt_of_lt_of_le hgq hb6.size
                refine ⟨hS, ?_⟩
                (try simp only [Act.put, List.getElem_toArray, List.getElem_cons_zero, List.getElem_cons_succ, List.setIfInBounds_toArray, List.set_cons_zero, List.set_cons_succ])
                refine anyH_pure 6 _ (.bool false) rfl (by kernel_rfl) (by kernel_rfl) (by kernel_rfl) (fun _ _ _ h => h) rfl ?_ hS ?_
                · (intro w'; go_simp; (try simp [hA0]))
                (try simp only [Act.put, List.getElem_toArray, List.getElem_cons_zero, List.getElem_cons_succ, List.setIfInBounds_toArray, List.set_cons_zero, List.set_cons_succ])
                refine anyH_pure 7 _ ?_ rfl (by kernel_rfl) (by kernel_rfl) (by kernel_rfl) (fun _ _ _ h => h) rfl ?_ hS ?_
                rotate_left
                · (intro w'; go_simp; (try with_reducible rfl))
                (try simp only [Act.put, List.getElem_toArray, List.getElem_cons_zero, List.getElem_cons_succ, List.setIfInBounds_toArray, List.set_cons_zero, List.set_cons_succ])
                refine anyH_pure 8 _ ?_ rfl (by kernel_rfl) (by kernel_rfl) (by kernel_rfl) (fun _ _ _ h => h) rfl ?_ hS ?_
                rotate_left
                · (intro w'; go_simp; (try with_reducible rfl))
                (try simp only [Act.put, List.getElem_toArray, List.getElem_cons_zero, List.getElem_cons_succ, List.setIfInBounds_toArray, List.set_cons_zero, List.set_cons_succ])
                refine anyH_pure 9 _ (.bool true) rfl (by kernel_rfl) (by kernel_rfl) (by kernel_rfl) (fun _ _ _ h => h) rfl ?_ hS ?_
                · (intro w'; go_simp; (try omega))
                (try simp only [Act.put, List.getElem_toArray, List.getElem_cons_zero, List.getElem_cons_succ, List.setIfInBounds_toArray, List.set_cons_zero, List.set_cons_succ])
                refine anyH_pure 10 _ ?_ rfl (by kernel_rfl) (by kernel_rfl) (by kernel_rfl) (fun _ _ _ h => h) rfl ?_ hS ?_
                rotate_left
                · (intro w'; go_simp; (try with_reducible rfl))
                (try simp only [Act.put, List.getElem_toArray, List.getElem_cons_zero, List.getElem_cons_succ, List.setIfInBounds_toArray, List.set_cons_zero, List.set_cons_succ])
                refine anyH_pure 11 _ ?_ rfl (by kernel_rfl) (by kernel_rfl) (by kernel_rfl) (fun _ _ _ h => h) rfl ?_ hS ?_
                rotate_left
                · (intro w'; go_simp; (try with_reducible rfl))
                (try simp only [Act.put, List.getElem_toArray, List.getElem_cons_zero, List.getElem_cons_succ, List.setIfInBounds_toArray, List.set_cons_zero, List.set_cons_succ])
                refine anyH_pure 12 _ ?_ rfl (by kernel_rfl) (by kernel_rfl) (by kernel_rfl) (fun _ _ _ h => h) rfl ?_ hS ?_
                rotate_left
                · (intro w'; go_simp; (try with_reducible rfl))
                (try simp only [Act.put, List.getElem_toArray, List.getElem_cons_zero, List.getElem_cons_succ, List.setIfInBounds_toArray, List.set_cons_zero, List.set_cons_succ])
                refine anyH_pure 13 _ ?_ rfl (by kernel_rfl) (by kernel_rfl) (by kernel_rfl) (fun _ _ _ h => h) rfl ?_ hS ?_
                rotate_left
                · (intro w'; go_simp; (try with_reducible rfl))
                (try simp only [Act.put, List.getElem_toArray, List.getElem_cons_zero, List.getElem_cons_succ, List.setIfInBounds_toArray, List.set_cons_zero, List.set_cons_succ])
                refine anyH_pure 14 _ (.int .i64 ((m - 1 : Nat) : Int)) rfl (by kernel_rfl) (by kernel_rfl) (by kernel_rfl) (fun _ _ _ h => h) rfl ?_ hS ?_
                · (intro w'; go_simp; (try omega))
                (try simp only [Act.put, List.getElem_toArray, List.getElem_cons_zero, List.getElem_cons_succ, List.setIfInBounds_toArray, List.set_cons_zero, List.set_cons_succ])
                refine anyH_pure 15 _ (.pointer (some ⟨gl, m - 1, none⟩)) rfl (by kernel_rfl) (by kernel_rfl) (by kernel_rfl) (fun _ _ _ h => h) rfl ?_ hS ?_
                · (intro w'; go_simp; (try omega))
                (try simp only [Act.put, List.getElem_toArray, List.getElem_cons_zero, List.getElem_cons_succ, List.setIfInBounds_toArray, List.set_cons_zero, List.set_cons_succ])
                refine anyH_if 16 _ ?_ rfl (by kernel_rfl) (by kernel_rfl) (by kernel_rfl) (fun _ _ _ h => h) rfl ?_ hS ?_
                rotate_left
                · (intro w' h; have c0 := (h (m-1) z hz.out); go_simp; (try with_reducible rfl))
                (try simp only [Act.put, List.getElem_toArray, List.getElem_cons_zero, List.getElem_cons_succ, List.setIfInBounds_toArray, List.set_cons_zero, List.set_cons_succ])
                refine anyH_pure 18 _ ?_ rfl (by kernel_rfl) (by kernel_rfl) (by kernel_rfl) (fun _ _ _ h => h) rfl ?_ hS ?_
                rotate_left
                · (intro w'; go_simp; (try with_reducible rfl))
                (try simp only [Act.put, List.getElem_toArray, List.getElem_cons_zero, List.getElem_cons_succ, List.setIfInBounds_toArray, List.set_cons_zero, List.set_cons_succ])
                refine anyH_pure 19 _ ?_ rfl (by kernel_rfl) (by kernel_rfl) (by kernel_rfl) (fun _ _ _ h => h) rfl ?_ hS ?_
                rotate_left
                · (intro w'; go_simp; (try with_reducible rfl))
                (try simp only [Act.put, List.getElem_toArray, List.getElem_cons_zero, List.getElem_cons_succ, List.setIfInBounds_toArray, List.set_cons_zero, List.set_cons_succ])
                refine anyH_pure 20 _ ?_ rfl (by kernel_rfl) (by kernel_rfl) (by kernel_rfl) (fun _ _ _ h => h) rfl ?_ hS ?_
                rotate_left
                · (intro w'; go_simp; (try with_reducible rfl))
                (try simp only [Act.put, List.getElem_toArray, List.getElem_cons_zero, List.getElem_cons_succ, List.setIfInBounds_toArray, List.set_cons_zero, List.set_cons_succ])
                refine anyH_pure 21 _ ?_ rfl (by kernel_rfl) (by kernel_rfl) (by kernel_rfl) (fun _ _ _ h => h) rfl ?_ hS ?_
                rotate_left
                · (intro w'; go_simp; (try with_reducible rfl))
                (try simp only [Act.put, List.getElem_toArray, List.getElem_cons_zero, List.getElem_cons_succ, List.setIfInBounds_toArray, List.set_cons_zero, List.set_cons_succ])
                refine anyH_if 22 _ ?_ rfl (by kernel_rfl) (by kernel_rfl) (by kernel_rfl) (fun _ _ _ h => h) rfl ?_ hS ?_
                rotate_left
                · (intro w' h; have c0 := (h m y HY.out); go_simp; (try with_reducible rfl))
                (try simp only [Act.put, List.getElem_toArray, List.getElem_cons_zero, List.getElem_cons_succ, List.setIfInBounds_toArray, List.set_cons_zero, List.set_cons_succ])
                have cZ := refat_any hP6.D (by rw [hP6.rel.length]; omega) z
                rw [hA'.out] at cZ
                refine anyH_callR 17 _ _ _ _ (by kernel_rfl) rfl rfl (by go_simp) (_) (cZ) ?_
                rintro w7 hb7
                have hS := hS.go hg6 hb7
                have hP7 := hP6.go hb7
                have hg7 := Nat.lt_of_lt_of_le hg6 hb7.size
                refine ⟨hS, ?_⟩
                (try simp only [Act.put, List.getElem_toArray, List.getElem_cons_zero, List.getElem_cons_succ, List.setIfInBounds_toArray, List.set_cons_zero, List.set_cons_succ])
                have cY := refat_any hP7.D (by rw [hP7.rel.length]; omega) y
                rw [hA.out] at cY
                refine anyH_callR 23 _ _ _ _ (by kernel_rfl) rfl rfl (by go_simp) (_) (cY) ?_
                rintro w8 hb8
                have hS := hS.go hg7 hb8
                have hP8 := hP7.go hb8
                refine ⟨hS, ?_⟩
                (try simp only [Act.put, List.getElem_toArray, List.getElem_cons_zero, List.getElem_cons_succ, List.setIfInBounds_toArray, List.set_cons_zero, List.set_cons_succ])
                refine anyH_pure 24 _ (.bool false) rfl (by kernel_rfl) (by kernel_rfl) (by kernel_rfl) (fun _ _ _ h => h) rfl ?_ hS ?_
                · (intro w'; go_simp; (try omega))
                (try simp only [Act.put, List.getElem_toArray, List.getElem_cons_zero, List.getElem_cons_succ, List.setIfInBounds_toArray, List.set_cons_zero, List.set_cons_succ])
                refine anyH_pure 25 _ ?_ rfl (by kernel_rfl) (by kernel_rfl) (by kernel_rfl) (fun _ _ _ h => h) rfl ?_ hS ?_
                rotate_left
                · (intro w'; go_simp; (try with_reducible rfl))
                (try simp only [Act.put, List.getElem_toArray, List.getElem_cons_zero, List.getElem_cons_succ, List.setIfInBounds_toArray, List.set_cons_zero, List.set_cons_succ])
                refine anyH_pure 26 _ ?_ rfl (by kernel_rfl) (by kernel_rfl) (by kernel_rfl) (fun _ _ _ h => h) rfl ?_ hS ?_
                rotate_left
                · (intro w'; go_simp; (try with_reducible rfl))
                (try simp only [Act.put, List.getElem_toArray, List.getElem_cons_zero, List.getElem_cons_succ, List.setIfInBounds_toArray, List.set_cons_zero, List.set_cons_succ])
                refine anyH_pure 27 _ ?_ rfl (by kernel_rfl) (by kernel_rfl) (by kernel_rfl) (fun _ _ _ h => h) rfl ?_ hS ?_
                rotate_left
                · (intro w'; go_simp; (try with_reducible rfl))
                (try simp only [Act.put, List.getElem_toArray, List.getElem_cons_zero, List.getElem_cons_succ, List.setIfInBounds_toArray, List.set_cons_zero, List.set_cons_succ])
                refine anyH_pure 28 _ ?_ rfl (by kernel_rfl) (by kernel_rfl) (by kernel_rfl) (fun _ _ _ h => h) rfl ?_ hS ?_
                rotate_left
                · (intro w'; go_simp; (try with_reducible rfl))
                (try simp only [Act.put, List.getElem_toArray, List.getElem_cons_zero, List.getElem_cons_succ, List.setIfInBounds_toArray, List.set_cons_zero, List.set_cons_succ])
                refine anyH_pure 29 _ ?_ rfl (by kernel_rfl) (by kernel_rfl) (by kernel_rfl) (fun _ _ _ h => h) rfl ?_ hS ?_
                rotate_left
                · (intro w'; go_simp; (try with_reducible rfl))
                (try simp only [Act.put, List.getElem_toArray, List.getElem_cons_zero, List.getElem_cons_succ, List.setIfInBounds_toArray, List.set_cons_zero, List.set_cons_succ])
                refine anyH_pure 30 _ ?_ rfl (by kernel_rfl) (by kernel_rfl) (by kernel_rfl) (fun _ _ _ h => h) rfl ?_ hS ?_
                rotate_left
                · (intro w'; go_simp; (try with_reducible rfl))
                (try simp only [Act.put, List.getElem_toArray, List.getElem_cons_zero, List.getElem_cons_succ, List.setIfInBounds_toArray, List.set_cons_zero, List.set_cons_succ])
                refine anyH_pure 31 _ ?_ rfl (by kernel_rfl) (by kernel_rfl) (by kernel_rfl) (fun _ _ _ h => h) rfl ?_ hS ?_
                rotate_left
                · (intro w'; go_simp; (try with_reducible rfl))
                (try simp only [Act.put, List.getElem_toArray, List.getElem_cons_zero, List.getElem_cons_succ, List.setIfInBounds_toArray, List.set_cons_zero, List.set_cons_succ])
                refine anyH_if 32 _ ?_ rfl (by kernel_rfl) (by kernel_rfl) (by kernel_rfl) (fun _ _ _ h => h) rfl ?_ hS ?_
                rotate_left
                · (intro w' h; have c0 := (h m y HY.out); go_simp; (try with_reducible rfl))
                (try simp only [Act.put, List.getElem_toArray, List.getElem_cons_zero, List.getElem_cons_succ, List.setIfInBounds_toArray, List.set_cons_zero, List.set_cons_succ])
                have cH := has_any hP8.T (by omega) y
                rw [hhas] at cH
                refine anyH_pure 34 _ ?_ rfl (by kernel_rfl) (by kernel_rfl) (by kernel_rfl) (fun _ _ _ h => h) rfl ?_ hS ?_
                rotate_left
                · (intro w'; go_simp; (try with_reducible rfl))
                (try simp only [Act.put, List.getElem_toArray, List.getElem_cons_zero, List.getElem_cons_succ, List.setIfInBounds_toArray, List.set_cons_zero, List.set_cons_succ])
                refine anyH_pure 35 _ ?_ rfl (by kernel_rfl) (by kernel_rfl) (by kernel_rfl) (fun _ _ _ h => h) rfl ?_ hS ?_
                rotate_left
                · (intro w'; go_simp; (try with_reducible rfl))
                (try simp only [Act.put, List.getElem_toArray, List.getElem_cons_zero, List.getElem_cons_succ, List.setIfInBounds_toArray, List.set_cons_zero, List.set_cons_succ])
                refine anyH_callR 33 _ _ _ _ (by kernel_rfl) rfl rfl (by go_simp) (_) (cH) ?_
                rintro w9 rfl
                refine ⟨hS, ?_⟩
                (try simp only [Act.put, List.getElem_toArray, List.getElem_cons_zero, List.getElem_cons_succ, List.setIfInBounds_toArray, List.set_cons_zero, List.set_cons_succ])
                refine anyH_pure 36 _ ?_ rfl (by kernel_rfl) (by kernel_rfl) (by kernel_rfl) (fun _ _ _ h => h) rfl ?_ hS ?_
                rotate_left
                · (intro w'; go_simp; (try with_reducible rfl))
                (try simp only [Act.put, List.getElem_toArray, List.getElem_cons_zero, List.getElem_cons_succ, List.setIfInBounds_toArray, List.set_cons_zero, List.set_cons_succ])
                refine anyH_pure 37 _ ?_ rfl (by kernel_rfl) (by kernel_rfl) (by kernel_rfl) (fun _ _ _ h => h) rfl ?_ hS ?_
                rotate_left
                · (intro w'; go_simp; (try with_reducible rfl))
                (try simp only [Act.put, List.getElem_toArray, List.getElem_cons_zero, List.getElem_cons_succ, List.setIfInBounds_toArray, List.set_cons_zero, List.set_cons_succ])
                refine wpAnyH_done (by kernel_rfl) ?_ _
                have hbf : Below w5.heap.size w5 w8 := ((hbq.drew.trans (hb6.mono hbq.size)).trans (hb7.mono (Nat.le_trans hbq.size hb6.size))).trans (hb8.mono (Nat.le_trans hbq.size (Nat.le_trans hb6.size hb7.size)))
                clear hS hP6 hP7 hP8 cA cH cZ cY hb6 hb7 hb8 hPq hbq hgq hg6 hg7
                go_wp2_with fail
                go_roundw
                case rel => exact ⟨m + 1, by go_num, by omega, hbf⟩
                case measure => simp [intOf]; omega
            · obtain rfl : m = (P.ask L x).length := by omega
              go_wp2_with fail
              go_roundw
              case rel => exact ⟨k + 1, by go_num, by omega, by omega, _, _, _, _, _, hPq, hLB, hNB⟩
              case measure => simp [intOf]; omega
      · by_cases hk1 : kk = 1
        · subst hk1
          go_wp2_with fail
          refine wp_region_held (S := (fun w' => Blk w' c #[.int .i64 1, .int .i64 x] 28)) (by kernel_rfl) ?_
          change wpAnyH _ _ _ _ _ _ _ _ w1.drew
          (try simp only [Act.put])
          have hS : Blk w1.drew c #[.int .i64 1, .int .i64 x] 28 := hE
          refine anyH_pure 0 _ ?_ rfl (by kernel_rfl) (by kernel_rfl) (by kernel_rfl) (fun _ _ _ h => h) rfl ?_ hS ?_
          rotate_left
          · (intro w'; go_simp; (try with_reducible rfl))
          (try simp only [Act.put, List.getElem_toArray, List.getElem_cons_zero, List.setIfInBounds_toArray, List.set_cons_zero, List.set_cons_succ])
          refine anyH_pure 1 _ ?_ rfl (by kernel_rfl) (by kernel_rfl) (by kernel_rfl) (fun _ _ _ h => h) rfl ?_ hS ?_
          rotate_left
          · (intro w'; go_simp; (try with_reducible rfl))
          (try simp only [Act.put, List.getElem_toArray, List.getElem_cons_zero, List.getElem_cons_succ, List.setIfInBounds_toArray, List.set_cons_zero, List.set_cons_succ])
          refine anyH_if 2 _ ?_ rfl (by kernel_rfl) (by kernel_rfl) (by kernel_rfl) (fun _ _ _ h => h) rfl ?_ hS ?_
          rotate_left
          · (intro w' h; have c0 := h.cell 1; go_simp; (try with_reducible rfl))
          (try simp only [Act.put, List.getElem_toArray, List.getElem_cons_zero, List.getElem_cons_succ, List.setIfInBounds_toArray, List.set_cons_zero, List.set_cons_succ])
          refine anyH_pure 4 _ ?_ rfl (by kernel_rfl) (by kernel_rfl) (by kernel_rfl) (fun _ _ _ h => h) rfl ?_ hS ?_
          rotate_left
          · (intro w'; go_simp; (try with_reducible rfl))
          (try simp only [Act.put, List.getElem_toArray, List.getElem_cons_zero, List.getElem_cons_succ, List.setIfInBounds_toArray, List.set_cons_zero, List.set_cons_succ])
          refine anyH_pure 5 _ ?_ rfl (by kernel_rfl) (by kernel_rfl) (by kernel_rfl) (fun _ _ _ h => h) rfl ?_ hS ?_
          rotate_left
          · (intro w'; go_simp; (try with_reducible rfl))
          (try simp only [Act.put, List.getElem_toArray, List.getElem_cons_zero, List.getElem_cons_succ, List.setIfInBounds_toArray, List.set_cons_zero, List.set_cons_succ])
          refine anyH_if 6 _ ?_ rfl (by kernel_rfl) (by kernel_rfl) (by kernel_rfl) (fun _ _ _ h => h) rfl ?_ hS ?_
          rotate_left
          · (intro w' h; have c0 := h.cell 1; go_simp; (try with_reducible rfl))
          (try simp only [Act.put, List.getElem_toArray, List.getElem_cons_zero, List.getElem_cons_succ, List.setIfInBounds_toArray, List.set_cons_zero, List.set_cons_succ])
          refine anyH_callR 3 _ _ _ _ (by kernel_rfl) rfl rfl (by go_simp) (_) (leave_any (hP.drew.T) (by omega) x) ?_
          rintro w2 ⟨v', hT, hs⟩
          have hH := hP.drew.stepT hT hs
          have hS : Blk w2 c #[.int .i64 1, .int .i64 x] 28 := hS.fr hs.fr fun hf => by have := hc1 c hf; omega
          refine ⟨hS, ?_⟩
          (try simp only [Act.put, List.getElem_toArray, List.getElem_cons_zero, List.getElem_cons_succ, List.setIfInBounds_toArray, List.set_cons_zero, List.set_cons_succ])
          have cB := refleave_any hH.D (by rw [hP.rel.length]; omega)  x
          rw [hq1] at cB
          refine anyH_callR 7 _ _ _ _ (by kernel_rfl) rfl rfl (by go_simp) (_) (cB) ?_
          rintro w3 ⟨u', hD, hs2⟩
          have hP3 := hH.stepR hD hs2 (hP.rel.leave x)
          have hS : Blk w3 c #[.int .i64 1, .int .i64 x] 28 := hS.fr hs2.fr fun hf => by have := hc2 c hf; omega
          refine ⟨hS, ?_⟩
          (try simp only [Act.put, List.getElem_toArray, List.getElem_cons_zero, List.getElem_cons_succ, List.setIfInBounds_toArray, List.set_cons_zero, List.set_cons_succ])
          refine anyH_pure 8 _ ?_ rfl (by kernel_rfl) (by kernel_rfl) (by kernel_rfl) (fun _ _ _ h => h) rfl ?_ hS ?_
          rotate_left
          · (intro w'; go_simp; (try with_reducible rfl))
          (try simp only [Act.put, List.getElem_toArray, List.getElem_cons_zero, List.getElem_cons_succ, List.setIfInBounds_toArray, List.set_cons_zero, List.set_cons_succ])
          refine anyH_pure 9 _ ?_ rfl (by kernel_rfl) (by kernel_rfl) (by kernel_rfl) (fun _ _ _ h => h) rfl ?_ hS ?_
          rotate_left
          · (intro w'; go_simp; (try with_reducible rfl))
          (try simp only [Act.put, List.getElem_toArray, List.getElem_cons_zero, List.getElem_cons_succ, List.setIfInBounds_toArray, List.set_cons_zero, List.set_cons_succ])
          refine wpAnyH_done (by kernel_rfl) ?_ _
          replace hE := hS
          replace hP := hP3
          clear hS hs hs2 hT hD hH hP3 e0 cB
          generalize decide (x ∈ L) = a at *
          have hLB : (L.erase x).length ≤ k + 1 := by have := P.erase_length L x; omega
          have hNB : N ≤ ((k + 1 : Nat) : Int) := by omega
          obtain ⟨ao', cp', hu⟩ := own_slice hP.D.own
          subst hu
          have hlen : (((L.erase x).length : Int) != ((P.rleave R x).length : Int)) = false := by rw [hP.rel.length]; simp
          have hq : P.rhas (P.rleave R x) x = P.has (L.erase x) x := hP.rel.has x
          go_wp2_with fail
          refine wp_region_held (S := (fun w' => Blk w' c #[.int .i64 1, .int .i64 x] 28)) (by kernel_rfl) ?_
          change wpAnyH _ _ _ _ _ _ _ _ (w3).drew
          (try simp only [Act.put])
          have hS : Blk (w3).drew c #[.int .i64 1, .int .i64 x] 28 := hE
          refine anyH_pure 0 _ ?_ rfl (by kernel_rfl) (by kernel_rfl) (by kernel_rfl) (fun _ _ _ h => h) rfl ?_ hS ?_
          rotate_left
          · (intro w'; go_simp; (try with_reducible rfl))
          (try simp only [Act.put, List.getElem_toArray, List.getElem_cons_zero, List.setIfInBounds_toArray, List.set_cons_zero, List.set_cons_succ])
          refine anyH_pure 1 _ ?_ rfl (by kernel_rfl) (by kernel_rfl) (by kernel_rfl) (fun _ _ _ h => h) rfl ?_ hS ?_
          rotate_left
          · (intro w'; go_simp; (try with_reducible rfl))
          (try simp only [Act.put, List.getElem_toArray, List.getElem_cons_zero, List.getElem_cons_succ, List.setIfInBounds_toArray, List.set_cons_zero, List.set_cons_succ])
          refine anyH_pure 2 _ ?_ rfl (by kernel_rfl) (by kernel_rfl) (by kernel_rfl) (fun _ _ _ h => h) rfl ?_ hS ?_
          rotate_left
          · (intro w'; go_simp; (try with_reducible rfl))
          (try simp only [Act.put, List.getElem_toArray, List.getElem_cons_zero, List.getElem_cons_succ, List.setIfInBounds_toArray, List.set_cons_zero, List.set_cons_succ])
          refine anyH_pure 3 _ ?_ rfl (by kernel_rfl) (by kernel_rfl) (by kernel_rfl) (fun _ _ _ h => h) rfl ?_ hS ?_
          rotate_left
          · (intro w'; go_simp; (try with_reducible rfl))
          (try simp only [Act.put, List.getElem_toArray, List.getElem_cons_zero, List.getElem_cons_succ, List.setIfInBounds_toArray, List.set_cons_zero, List.set_cons_succ])
          refine anyH_pure 4 _ ?_ rfl (by kernel_rfl) (by kernel_rfl) (by kernel_rfl) (fun _ _ _ h => h) rfl ?_ hS ?_
          rotate_left
          · (intro w'; go_simp; (try with_reducible rfl))
          (try simp only [Act.put, List.getElem_toArray, List.getElem_cons_zero, List.getElem_cons_succ, List.setIfInBounds_toArray, List.set_cons_zero, List.set_cons_succ])
          refine anyH_pure 5 _ ?_ rfl (by kernel_rfl) (by kernel_rfl) (by kernel_rfl) (fun _ _ _ h => h) rfl ?_ hS ?_
          rotate_left
          · (intro w'; go_simp; (try with_reducible rfl))
          (try simp only [Act.put, List.getElem_toArray, List.getElem_cons_zero, List.getElem_cons_succ, List.setIfInBounds_toArray, List.set_cons_zero, List.set_cons_succ])
          refine anyH_if 6 _ ?_ rfl (by kernel_rfl) (by kernel_rfl) (by kernel_rfl) (fun _ _ _ h => h) rfl ?_ hS ?_
          rotate_left
          · (intro w' h; have c0 := h.cell 1; go_simp; (try with_reducible rfl))
          (try simp only [Act.put, List.getElem_toArray, List.getElem_cons_zero, List.getElem_cons_succ, List.setIfInBounds_toArray, List.set_cons_zero, List.set_cons_succ])
          refine anyH_pure 8 _ ?_ rfl (by kernel_rfl) (by kernel_rfl) (by kernel_rfl) (fun _ _ _ h => h) rfl ?_ hS ?_
          rotate_left
          · (intro w'; go_simp; (try with_reducible rfl))
          (try simp only [Act.put, List.getElem_toArray, List.getElem_cons_zero, List.getElem_cons_succ, List.setIfInBounds_toArray, List.set_cons_zero, List.set_cons_succ])
          refine anyH_pure 9 _ ?_ rfl (by kernel_rfl) (by kernel_rfl) (by kernel_rfl) (fun _ _ _ h => h) rfl ?_ hS ?_
          rotate_left
          · (intro w'; go_simp; (try with_reducible rfl))
          (try simp only [Act.put, List.getElem_toArray, List.getElem_cons_zero, List.getElem_cons_succ, List.setIfInBounds_toArray, List.set_cons_zero, List.set_cons_succ])
          refine anyH_if 10 _ ?_ rfl (by kernel_rfl) (by kernel_rfl) (by kernel_rfl) (fun _ _ _ h => h) rfl ?_ hS ?_
          rotate_left
          · (intro w' h; have c0 := h.cell 1; go_simp; (try with_reducible rfl))
          (try simp only [Act.put, List.getElem_toArray, List.getElem_cons_zero, List.getElem_cons_succ, List.setIfInBounds_toArray, List.set_cons_zero, List.set_cons_succ])
          refine anyH_callR 7 _ _ _ _ (by kernel_rfl) rfl rfl (by go_simp) (_) (has_any hP.drew.T (by omega) x) ?_
          rintro w4 rfl
          refine ⟨hS, ?_⟩
          (try simp only [Act.put, List.getElem_toArray, List.getElem_cons_zero, List.getElem_cons_succ, List.setIfInBounds_toArray, List.set_cons_zero, List.set_cons_succ])
          have cB := refhas_any hP.drew.D (by rw [hP.rel.length]; omega) x
          rw [hq] at cB
          refine anyH_callR 11 _ _ _ _ (by kernel_rfl) rfl rfl (by go_simp) (_) (cB) ?_
          rintro w4 hb4
          have hP4 := hP.drew.go hb4
          have hS := hS.below hb4
          refine ⟨hS, ?_⟩
          (try simp only [Act.put, List.getElem_toArray, List.getElem_cons_zero, List.getElem_cons_succ, List.setIfInBounds_toArray, List.set_cons_zero, List.set_cons_succ])
          refine anyH_pure 12 _ ?_ rfl (by kernel_rfl) (by kernel_rfl) (by kernel_rfl) (fun _ _ _ h => h) rfl ?_ hS ?_
          rotate_left
          · (intro w'; go_simp; (try with_reducible rfl))
          (try simp only [Act.put, List.getElem_toArray, List.getElem_cons_zero, List.getElem_cons_succ, List.setIfInBounds_toArray, List.set_cons_zero, List.set_cons_succ])
          refine anyH_pure 13 _ ?_ rfl (by kernel_rfl) (by kernel_rfl) (by kernel_rfl) (fun _ _ _ h => h) rfl ?_ hS ?_
          rotate_left
          · (intro w'; go_simp; (try with_reducible rfl))
          (try simp only [Act.put, List.getElem_toArray, List.getElem_cons_zero, List.getElem_cons_succ, List.setIfInBounds_toArray, List.set_cons_zero, List.set_cons_succ])
          refine wpAnyH_done (by kernel_rfl) ?_ _
          clear hS hb4 hE hP hq cB
          go_wp2_with fail
          refine (line_any hP4.T (by omega)).mono ?_
          rintro e w5 ⟨l, rfl, hown, hb5⟩
          have hP5 := hP4.go hb5
          clear hP4 hb5
          have r0 : w5.cell? ⟨w.heap.size + 1, 0, none⟩ = some (.slice ao' (P.rleave R x).length cp') := hP5.D.blk.cell 0
          rcases own_cases hown with ⟨rfl, h0, h1⟩ | ⟨gl, cl, rfl, hcl, _, hgl, hgl2, hcc, _⟩
          · have hlen : ((0 : Int) != ((P.rleave R x).length : Int)) = false := by rw [hP5.rel.length, h0]; simp
            clear hown h1
            replace h0 := Lib.hid h0
            go_wp2_with fail
            refine wp_loop_rounds 1 ?_
            rw [rounds_succ]
            go_wp2_with fail
            go_roundw
            case rel => exact ⟨k + 1, by go_num, by omega, by omega, _, _, _, _, _, hP5, hLB, hNB⟩
            case measure => simp [intOf]; omega
          · have hrow : Row w5 gl (L.erase x) := fun j y hy => by rw [hcc j (List.getElem?_eq_some_iff.1 hy).1]; exact line_get hy
            have HR := Lib.hid hrow
            have HC := Lib.hid hP5
            clear hown hcc hrow
            go_wp2_with fail
            clear r0 hlen
            go_loopw [77] (fun j wq => ∃ m : Nat, j = .int .i64 m ∧ m ≤ (L.erase x).length ∧ Below w5.heap.size w5 wq) (fun j _ => (L.erase x).length - (intOf j).toNat)
            case atStart => exact ⟨0, rfl, by omega, Below.refl _ _⟩
            case round =>
              obtain ⟨m, rfl, hm, hbq⟩ := hrel
              have hPq := HC.out.go hbq
              by_cases hlm : m < (L.erase x).length
              · obtain ⟨y, hy⟩ : ∃ y, (L.erase x)[m]? = some y := ⟨_, List.getElem?_eq_getElem hlm⟩
                have HY := Lib.hid hy
                have hpos := hPq.rel.at_pos (List.mem_of_getElem? hy)
                have hmem := Lib.hid (List.mem_of_getElem? hy)
                have hRq := HR.out.go hgl2 hbq
                clear hy
                obtain ⟨A, hA⟩ : ∃ A, P.at' (P.rleave R x) y = A := ⟨_, rfl⟩
                rw [hA] at hpos
                have hA0 : (A == 0) = false := by rw [beq_eq_false_iff_ne]; omega
                replace hA := Lib.hid hA
                have cq := hRq m y HY.out
                have HRQ := Lib.hid hRq
                clear hRq hmem
                by_cases hm0 : m = 0
                · have g0 : decide ((0 : Int) < (m : Int)) = false := by simp [hm0]
                  have g1 : ((m : Int) == 0) = true := by simp [hm0]
                  have hhas := has_zero (by rw [← hm0]; exact HY.out)
                  replace hm0 := Lib.hid hm0
                  go_wp2_with fail
                  refine wp_region_held (S := (fun w' => Row w' gl (L.erase x))) (by kernel_rfl) ?_
                  change wpAnyH _ _ _ _ _ _ _ _ wr.drew
                  (try simp only [Act.put])
                  have hS : Row wr.drew gl (L.erase x) := HRQ.out
                  have hPq := hPq.drew
                  have hgq : gl < wr.drew.heap.size := Nat.lt_of_lt_of_le hgl2 hbq.size
                  refine anyH_pure 0 _ ?_ rfl (by kernel_rfl) (by kernel_rfl) (by kernel_rfl) (fun _ _ _ h => h) rfl ?_ hS ?_
                  rotate_left
                  · (intro w'; go_simp; (try with_reducible rfl))
                  (try simp only [Act.put, List.getElem_toArray, List.getElem_cons_zero, List.setIfInBounds_toArray, List.set_cons_zero, List.set_cons_succ])
                  refine anyH_pure 1 _ ?_ rfl (by kernel_rfl) (by kernel_rfl) (by kernel_rfl) (fun _ _ _ h => h) rfl ?_ hS ?_
                  rotate_left
                  · (intro w'; go_simp; (try with_reducible rfl))
                  (try simp only [Act.put, List.getElem_toArray, List.getElem_cons_zero, List.getElem_cons_succ, List.setIfInBounds_toArray, List.set_cons_zero, List.set_cons_succ])
                  refine anyH_pure 2 _ ?_ rfl (by kernel_rfl) (by kernel_rfl) (by kernel_rfl) (fun _ _ _ h => h) rfl ?_ hS ?_
                  rotate_left
                  · (intro w'; go_simp; (try with_reducible rfl))
                  (try simp only [Act.put, List.getElem_toArray, List.getElem_cons_zero, List.getElem_cons_succ, List.setIfInBounds_toArray, List.set_cons_zero, List.set_cons_succ])
                  refine anyH_pure 3 _ ?_ rfl (by kernel_rfl) (by kernel_rfl) (by kernel_rfl) (fun _ _ _ h => h) rfl ?_ hS ?_
                  rotate_left
                  · (intro w'; go_simp; (try with_reducible rfl))
                  (try simp only [Act.put, List.getElem_toArray, List.getElem_cons_zero, List.getElem_cons_succ, List.setIfInBounds_toArray, List.set_cons_zero, List.set_cons_succ])
                  refine anyH_if 4 _ ?_ rfl (by kernel_rfl) (by kernel_rfl) (by kernel_rfl) (fun _ _ _ h => h) rfl ?_ hS ?_
                  rotate_left
                  · (intro w' h; have c0 := (h m y HY.out); go_simp; (try with_reducible rfl))
                  (try simp only [Act.put, List.getElem_toArray, List.getElem_cons_zero, List.getElem_cons_succ, List.setIfInBounds_toArray, List.set_cons_zero, List.set_cons_succ])
                  have cA := refat_any hPq.D (by rw [hPq.rel.length]; omega) y
                  rw [hA.out] at cA
                  refine anyH_callR 5 _ _ _ _ (by kernel_rfl) rfl rfl (by go_simp) (_) (cA) ?_
                  rintro w6 hb6
                  have hS := hS.go hgq hb6
                  have hP6 := hPq.go hb6
                  refine ⟨hS, ?_⟩
                  (try simp only [Act.put, List.getElem_toArray, List.getElem_cons_zero, List.getElem_cons_succ, List.setIfInBounds_toArray, List.set_cons_zero, List.set_cons_succ])
                  refine anyH_pure 6 _ (.bool false) rfl (by kernel_rfl) (by kernel_rfl) (by kernel_rfl) (fun _ _ _ h => h) rfl ?_ hS ?_
                  · (intro w'; go_simp; (try simp [hA0]))
                  (try simp only [Act.put, List.getElem_toArray, List.getElem_cons_zero, List.getElem_cons_succ, List.setIfInBounds_toArray, List.set_cons_zero, List.set_cons_succ])
                  refine anyH_pure 7 _ ?_ rfl (by kernel_rfl) (by kernel_rfl) (by kernel_rfl) (fun _ _ _ h => h) rfl ?_ hS ?_
                  rotate_left
                  · (intro w'; go_simp; (try with_reducible rfl))
                  (try simp only [Act.put, List.getElem_toArray, List.getElem_cons_zero, List.getElem_cons_succ, List.setIfInBounds_toArray, List.set_cons_zero, List.set_cons_succ])
                  refine anyH_pure 8 _ ?_ rfl (by kernel_rfl) (by kernel_rfl) (by kernel_rfl) (fun _ _ _ h => h) rfl ?_ hS ?_
                  rotate_left
                  · (intro w'; go_simp; (try with_reducible rfl))
                  (try simp only [Act.put, List.getElem_toArray, List.getElem_cons_zero, List.getElem_cons_succ, List.setIfInBounds_toArray, List.set_cons_zero, List.set_cons_succ])
                  refine anyH_pure 9 _ (.bool false) rfl (by kernel_rfl) (by kernel_rfl) (by kernel_rfl) (fun _ _ _ h => h) rfl ?_ hS ?_
                  · (intro w'; go_simp; (try exact hm0.out))
                  (try simp only [Act.put, List.getElem_toArray, List.getElem_cons_zero, List.getElem_cons_succ, List.setIfInBounds_toArray, List.set_cons_zero, List.set_cons_succ])
                  refine anyH_pure 10 _ ?_ rfl (by kernel_rfl) (by kernel_rfl) (by kernel_rfl) (fun _ _ _ h => h) rfl ?_ hS ?_
                  rotate_left
                  · (intro w'; go_simp; (try with_reducible rfl))
                  (try simp only [Act.put, List.getElem_toArray, List.getElem_cons_zero, List.getElem_cons_succ, List.setIfInBounds_toArray, List.set_cons_zero, List.set_cons_succ])
                  refine anyH_skip 11 _ rfl (by kernel_rfl) (by kernel_rfl) (by kernel_rfl) (fun _ _ _ h => h) rfl hS ?_
                  (try simp only [Act.put, List.getElem_toArray, List.getElem_cons_zero, List.getElem_cons_succ, List.setIfInBounds_toArray, List.set_cons_zero, List.set_cons_succ])
                  refine anyH_skip 12 _ rfl (by kernel_rfl) (by kernel_rfl) (by kernel_rfl) (fun _ _ _ h => h) rfl hS ?_
                  (try simp only [Act.put, List.getElem_toArray, List.getElem_cons_zero, List.getElem_cons_succ, List.setIfInBounds_toArray, List.set_cons_zero, List.set_cons_succ])
                  refine anyH_skip 13 _ rfl (by kernel_rfl) (by kernel_rfl) (by kernel_rfl) (fun _ _ _ h => h) rfl hS ?_
                  (try simp only [Act.put, List.getElem_toArray, List.getElem_cons_zero, List.getElem_cons_succ, List.setIfInBounds_toArray, List.set_cons_zero, List.set_cons_succ])
                  refine anyH_skip 14 _ rfl (by kernel_rfl) (by kernel_rfl) (by kernel_rfl) (fun _ _ _ h => h) rfl hS ?_
                  (try simp only [Act.put, List.getElem_toArray, List.getElem_cons_zero, List.getElem_cons_succ, List.setIfInBounds_toArray, List.set_cons_zero, List.set_cons_succ])
                  refine anyH_skip 15 _ rfl (by kernel_rfl) (by kernel_rfl) (by kernel_rfl) (fun _ _ _ h => h) rfl hS ?_
                  (try simp only [Act.put, List.getElem_toArray, List.getElem_cons_zero, List.getElem_cons_succ, List.setIfInBounds_toArray, List.set_cons_zero, List.set_cons_succ])
                  refine anyH_skip 16 _ rfl (by kernel_rfl) (by kernel_rfl) (by kernel_rfl) (fun _ _ _ h => h) rfl hS ?_
                  (try simp only [Act.put, List.getElem_toArray, List.getElem_cons_zero, List.getElem_cons_succ, List.setIfInBounds_toArray, List.set_cons_zero, List.set_cons_succ])
                  refine anyH_skip 17 _ rfl (by kernel_rfl) (by kernel_rfl) (by kernel_rfl) (fun _ _ _ h => h) rfl hS ?_
                  (try simp only [Act.put, List.getElem_toArray, List.getElem_cons_zero, List.getElem_cons_succ, List.setIfInBounds_toArray, List.set_cons_zero, List.set_cons_succ])
                  refine anyH_skip 18 _ rfl (by kernel_rfl) (by kernel_rfl) (by kernel_rfl) (fun _ _ _ h => h) rfl hS ?_
                  (try simp only [Act.put, List.getElem_toArray, List.getElem_cons_zero, List.getElem_cons_succ, List.setIfInBounds_toArray, List.set_cons_zero, List.set_cons_succ])
                  refine anyH_skip 19 _ rfl (by kernel_rfl) (by kernel_rfl) (by kernel_rfl) (fun _ _ _ h => h) rfl hS ?_
                  (try simp only [Act.put, List.getElem_toArray, List.getElem_cons_zero, List.getElem_cons_succ, List.setIfInBounds_toArray, List.set_cons_zero, List.set_cons_succ])
                  refine anyH_skip 20 _ rfl (by kernel_rfl) (by kernel_rfl) (by kernel_rfl) (fun _ _ _ h => h) rfl hS ?_
                  (try simp only [Act.put, List.getElem_toArray, List.getElem_cons_zero, List.getElem_cons_succ, List.setIfInBounds_toArray, List.set_cons_zero, List.set_cons_succ])
                  refine anyH_skip 21 _ rfl (by kernel_rfl) (by kernel_rfl) (by kernel_rfl) (fun _ _ _ h => h) rfl hS ?_
                  (try simp only [Act.put, List.getElem_toArray, List.getElem_cons_zero, List.getElem_cons_succ, List.setIfInBounds_toArray, List.set_cons_zero, List.set_cons_succ])
                  refine anyH_skip 22 _ rfl (by kernel_rfl) (by kernel_rfl) (by kernel_rfl) (fun _ _ _ h => h) rfl hS ?_
                  (try simp only [Act.put, List.getElem_toArray, List.getElem_cons_zero, List.getElem_cons_succ, List.setIfInBounds_toArray, List.set_cons_zero, List.set_cons_succ])
                  refine anyH_skip 23 _ rfl (by kernel_rfl) (by kernel_rfl) (by kernel_rfl) (fun _ _ _ h => h) rfl hS ?_
                  (try simp only [Act.put, List.getElem_toArray, List.getElem_cons_zero, List.getElem_cons_succ, List.setIfInBounds_toArray, List.set_cons_zero, List.set_cons_succ])
                  refine anyH_skip 24 _ rfl (by kernel_rfl) (by kernel_rfl) (by kernel_rfl) (fun _ _ _ h => h) rfl hS ?_
                  (try simp only [Act.put, List.getElem_toArray, List.getElem_cons_zero, List.getElem_cons_succ, List.setIfInBounds_toArray, List.set_cons_zero, List.set_cons_succ])
                  refine anyH_pure 25 _ ?_ rfl (by kernel_rfl) (by kernel_rfl) (by kernel_rfl) (fun _ _ _ h => h) rfl ?_ hS ?_
                  rotate_left
                  · (intro w'; go_simp; (try with_reducible rfl))
                  (try simp only [Act.put, List.getElem_toArray, List.getElem_cons_zero, List.getElem_cons_succ, List.setIfInBounds_toArray, List.set_cons_zero, List.set_cons_succ])
                  refine anyH_pure 26 _ ?_ rfl (by kernel_rfl) (by kernel_rfl) (by kernel_rfl) (fun _ _ _ h => h) rfl ?_ hS ?_
                  rotate_left
                  · (intro w'; go_simp; (try with_reducible rfl))
                  (try simp only [Act.put, List.getElem_toArray, List.getElem_cons_zero, List.getElem_cons_succ, List.setIfInBounds_toArray, List.set_cons_zero, List.set_cons_succ])
                  refine anyH_pure 27 _ ?_ rfl (by kernel_rfl) (by kernel_rfl) (by kernel_rfl) (fun _ _ _ h => h) rfl ?_ hS ?_
                  rotate_left
                  · (intro w'; go_simp; (try with_reducible rfl))
                  (try simp only [Act.put, List.getElem_toArray, List.getElem_cons_zero, List.getElem_cons_succ, List.setIfInBounds_toArray, List.set_cons_zero, List.set_cons_succ])
                  refine anyH_pure 28 _ ?_ rfl (by kernel_rfl) (by kernel_rfl) (by kernel_rfl) (fun _ _ _ h => h) rfl ?_ hS ?_
                  rotate_left
                  · (intro w'; go_simp; (try with_reducible rfl))
                  (try simp only [Act.put, List.getElem_toArray, List.getElem_cons_zero, List.getElem_cons_succ, List.setIfInBounds_toArray, List.set_cons_zero, List.set_cons_succ])
                  refine anyH_pure 29 _ ?_ rfl (by kernel_rfl) (by kernel_rfl) (by kernel_rfl) (fun _ _ _ h => h) rfl ?_ hS ?_
                  rotate_left
                  · (intro w'; go_simp; (try with_reducible rfl))
                  (try simp only [Act.put, List.getElem_toArray, List.getElem_cons_zero, List.getElem_cons_succ, List.setIfInBounds_toArray, List.set_cons_zero, List.set_cons_succ])
                  refine anyH_pure 30 _ ?_ rfl (by kernel_rfl) (by kernel_rfl) (by kernel_rfl) (fun _ _ _ h => h) rfl ?_ hS ?_
                  rotate_left
                  · (intro w'; go_simp; (try with_reducible rfl))
                  (try simp only [Act.put, List.getElem_toArray, List.getElem_cons_zero, List.getElem_cons_succ, List.setIfInBounds_toArray, List.set_cons_zero, List.set_cons_succ])
                  refine anyH_pure 31 _ ?_ rfl (by kernel_rfl) (by kernel_rfl) (by kernel_rfl) (fun _ _ _ h => h) rfl ?_ hS ?_
                  rotate_left
                  · (intro w'; go_simp; (try with_reducible rfl))
                  (try simp only [Act.put, List.getElem_toArray, List.getElem_cons_zero, List.getElem_cons_succ, List.setIfInBounds_toArray, List.set_cons_zero, List.set_cons_succ])
                  refine anyH_if 32 _ ?_ rfl (by kernel_rfl) (by kernel_rfl) (by kernel_rfl) (fun _ _ _ h => h) rfl ?_ hS ?_
                  rotate_left
                  · (intro w' h; have c0 := (h m y HY.out); go_simp; (try with_reducible rfl))
                  (try simp only [Act.put, List.getElem_toArray, List.getElem_cons_zero, List.getElem_cons_succ, List.setIfInBounds_toArray, List.set_cons_zero, List.set_cons_succ])
                  have cH := has_any hP6.T (by omega) y
                  rw [hhas] at cH
                  refine anyH_pure 34 _ ?_ rfl (by kernel_rfl) (by kernel_rfl) (by kernel_rfl) (fun _ _ _ h => h) rfl ?_ hS ?_
                  rotate_left
                  · (intro w'; go_simp; (try with_reducible rfl))
                  (try simp only [Act.put, List.getElem_toArray, List.getElem_cons_zero, List.getElem_cons_succ, List.setIfInBounds_toArray, List.set_cons_zero, List.set_cons_succ])
                  refine anyH_pure 35 _ ?_ rfl (by kernel_rfl) (by kernel_rfl) (by kernel_rfl) (fun _ _ _ h => h) rfl ?_ hS ?_
                  rotate_left
                  · (intro w'; go_simp; (try with_reducible rfl))
                  (try simp only [Act.put, List.getElem_toArray, List.getElem_cons_zero, List.getElem_cons_succ, List.setIfInBounds_toArray, List.set_cons_zero, List.set_cons_succ])
                  refine anyH_callR 33 _ _ _ _ (by kernel_rfl) rfl rfl (by go_simp) (_) (cH) ?_
                  rintro w7 rfl
                  refine ⟨hS, ?_⟩
                  (try simp only [Act.put, List.getElem_toArray, List.getElem_cons_zero, List.getElem_cons_succ, List.setIfInBounds_toArray, List.set_cons_zero, List.set_cons_succ])
                  refine anyH_pure 36 _ ?_ rfl (by kernel_rfl) (by kernel_rfl) (by kernel_rfl) (fun _ _ _ h => h) rfl ?_ hS ?_
                  rotate_left
                  · (intro w'; go_simp; (try with_reducible rfl))
                  (try simp only [Act.put, List.getElem_toArray, List.getElem_cons_zero, List.getElem_cons_succ, List.setIfInBounds_toArray, List.set_cons_zero, List.set_cons_succ])
                  refine anyH_pure 37 _ ?_ rfl (by kernel_rfl) (by kernel_rfl) (by kernel_rfl) (fun _ _ _ h => h) rfl ?_ hS ?_
                  rotate_left
                  · (intro w'; go_simp; (try with_reducible rfl))
                  (try simp only [Act.put, List.getElem_toArray, List.getElem_cons_zero, List.getElem_cons_succ, List.setIfInBounds_toArray, List.set_cons_zero, List.set_cons_succ])
                  refine wpAnyH_done (by kernel_rfl) ?_ _
                  have hbf : Below w5.heap.size w5 w6 := hbq.drew.trans (hb6.mono hbq.size)
                  clear hS hP6 cA cH hb6 hPq hbq hgq
                  go_wp2_with fail
                  go_roundw
                  case rel => exact ⟨m + 1, by go_num, by omega, hbf⟩
                  case measure => simp [intOf]; omega
                · have g0 : decide ((0 : Int) < (m : Int)) = true := by simp; omega
                  have g1 : ((m : Int) == 0) = false := by simp; omega
                  have hhas := has_pos hPq.rel.nodup HY.out (by omega)
                  obtain ⟨z, hz⟩ : ∃ z, (L.erase x)[m - 1]? = some z := ⟨_, List.getElem?_eq_getElem (by omega)⟩
                  obtain ⟨A', hA'⟩ : ∃ A', P.at' (P.rleave R x) z = A' := ⟨_, rfl⟩
                  have hlt' : A' < A := by
                    have h1 := hPq.rel.at_lt (j := m - 1) (k := m) (by omega) hlm
                    have hy' : (L.erase x)[m] = y := by have := HY.out; rw [List.getElem?_eq_getElem hlm] at this; exact Option.some.inj this
                    have hz' : (L.erase x)[m - 1]'(by omega) = z := by rw [List.getElem?_eq_getElem (by omega)] at hz; exact Option.some.inj hz
                    rw [hy', hz', hA', hA.out] at h1
                    exact h1
                  have hm1 : 0 < m := by omega
                  replace hm0 := Lib.hid hm0
                  replace hA' := Lib.hid hA'
                  have cz := HRQ.out (m - 1) z hz
                  replace hz := Lib.hid hz
                  have i1 : IntKind.i64.wrap ((m : Int) - 1) = ((m - 1 : Nat) : Int) := by rw [IntWalk.i64_in _ (by omega)]; omega
                  have i2 : ((m : Int) - 1).toNat = m - 1 := by omega
                  go_wp2_with fail
                  refine wp_region_held (S := (fun w' => Row w' gl (L.erase x))) (by kernel_rfl) ?_
                  change wpAnyH _ _ _ _ _ _ _ _ wr.drew
                  (try simp only [Act.put])
                  have hS : Row wr.drew gl (L.erase x) := HRQ.out
                  have hPq := hPq.drew
                  have hgq : gl < wr.drew.heap.size := Nat.lt_of_lt_of_le hgl2 hbq.size
                  refine anyH_pure 0 _ ?_ rfl (by kernel_rfl) (by kernel_rfl) (by kernel_rfl) (fun _ _ _ h => h) rfl ?_ hS ?_
                  rotate_left
                  · (intro w'; go_simp; (try with_reducible rfl))
                  (try simp only [Act.put, List.getElem_toArray, List.getElem_cons_zero, List.setIfInBounds_toArray, List.set_cons_zero, List.set_cons_succ])
                  refine anyH_pure 1 _ ?_ rfl (by kernel_rfl) (by kernel_rfl) (by kernel_rfl) (fun _ _ _ h => h) rfl ?_ hS ?_
                  rotate_left
                  · (intro w'; go_simp; (try with_reducible rfl))
                  (try simp only [Act.put, List.getElem_toArray, List.getElem_cons_zero, List.getElem_cons_succ, List.setIfInBounds_toArray, List.set_cons_zero, List.set_cons_succ])
                  refine anyH_pure 2 _ ?_ rfl (by kernel_rfl) (by kernel_rfl) (by kernel_rfl) (fun _ _ _ h => h) rfl ?_ hS ?_
                  rotate_left
                  · (intro w'; go_simp; (try with_reducible rfl))
                  (try simp only [Act.put, List.getElem_toArray, List.getElem_cons_zero, List.getElem_cons_succ, List.setIfInBounds_toArray, List.set_cons_zero, List.set_cons_succ])
                  refine anyH_pure 3 _ ?_ rfl (by kernel_rfl) (by kernel_rfl) (by kernel_rfl) (fun _ _ _ h => h) rfl ?_ hS ?_
                  rotate_left
                  · (intro w'; go_simp; (try with_reducible rfl))
                  (try simp only [Act.put, List.getElem_toArray, List.getElem_cons_zero, List.getElem_cons_succ, List.setIfInBounds_toArray, List.set_cons_zero, List.set_cons_succ])
                  refine anyH_if 4 _ ?_ rfl (by kernel_rfl) (by kernel_rfl) (by kernel_rfl) (fun _ _ _ h => h) rfl ?_ hS ?_
                  rotate_left
                  · (intro w' h; have c0 := (h m y HY.out); go_simp; (try with_reducible rfl))
                  (try simp only [Act.put, List.getElem_toArray, List.getElem_cons_zero, List.getElem_cons_succ, List.setIfInBounds_toArray, List.set_cons_zero, List.set_cons_succ])
                  have cA := refat_any hPq.D (by rw [hPq.rel.length]; omega) y
                  rw [hA.out] at cA
                  refine anyH_callR 5 _ _ _ _ (by kernel_rfl) rfl rfl (by go_simp) (_) (cA) ?_
                  rintro w6 hb6
                  have hS := hS.go hgq hb6
                  have hP6 := hPq.go hb6
                  have hg6 := Nat.lt_of_lt_of_le hgq hb6.size
                  refine ⟨hS, ?_⟩
                  (try simp only [Act.put, List.getElem_toArray, List.getElem_cons_zero, List.getElem_cons_succ, List.setIfInBounds_toArray, List.set_cons_zero, List.set_cons_succ])
                  refine anyH_pure 6 _ (.bool false) rfl (by kernel_rfl) (by kernel_rfl) (by kernel_rfl) (fun _ _ _ h => h) rfl ?_ hS ?_
                  · (intro w'; go_simp; (try simp [hA0]))
                  (try simp only [Act.put, List.getElem_toArray, List.getElem_cons_zero, List.getElem_cons_succ, List.setIfInBounds_toArray, List.set_cons_zero, List.set_cons_succ])
                  refine anyH_pure 7 _ ?_ rfl (by kernel_rfl) (by kernel_rfl) (by kernel_rfl) (fun _ _ _ h => h) rfl ?_ hS ?_
                  rotate_left
                  · (intro w'; go_simp; (try with_reducible rfl))
                  (try simp only [Act.put, List.getElem_toArray, List.getElem_cons_zero, List.getElem_cons_succ, List.setIfInBounds_toArray, List.set_cons_zero, List.set_cons_succ])
                  refine anyH_pure 8 _ ?_ rfl (by kernel_rfl) (by kernel_rfl) (by kernel_rfl) (fun _ _ _ h => h) rfl ?_ hS ?_
                  rotate_left
                  · (intro w'; go_simp; (try with_reducible rfl))
                  (try simp only [Act.put, List.getElem_toArray, List.getElem_cons_zero, List.getElem_cons_succ, List.setIfInBounds_toArray, List.set_cons_zero, List.set_cons_succ])
                  refine anyH_pure 9 _ (.bool true) rfl (by kernel_rfl) (by kernel_rfl) (by kernel_rfl) (fun _ _ _ h => h) rfl ?_ hS ?_
                  · (intro w'; go_simp; (try omega))
                  (try simp only [Act.put, List.getElem_toArray, List.getElem_cons_zero, List.getElem_cons_succ, List.setIfInBounds_toArray, List.set_cons_zero, List.set_cons_succ])
                  refine anyH_pure 10 _ ?_ rfl (by kernel_rfl) (by kernel_rfl) (by kernel_rfl) (fun _ _ _ h => h) rfl ?_ hS ?_
                  rotate_left
                  · (intro w'; go_simp; (try with_reducible rfl))
                  (try simp only [Act.put, List.getElem_toArray, List.getElem_cons_zero, List.getElem_cons_succ, List.setIfInBounds_toArray, List.set_cons_zero, List.set_cons_succ])
                  refine anyH_pure 11 _ ?_ rfl (by kernel_rfl) (by kernel_rfl) (by kernel_rfl) (fun _ _ _ h => h) rfl ?_ hS ?_
                  rotate_left
                  · (intro w'; go_simp; (try with_reducible rfl))
                  (try simp only [Act.put, List.getElem_toArray, List.getElem_cons_zero, List.getElem_cons_succ, List.setIfInBounds_toArray, List.set_cons_zero, List.set_cons_succ])
                  refine anyH_pure 12 _ ?_ rfl (by kernel_rfl) (by kernel_rfl) (by kernel_rfl) (fun _ _ _ h => h) rfl ?_ hS ?_
                  rotate_left
                  · (intro w'; go_simp; (try with_reducible rfl))
                  (try simp only [Act.put, List.getElem_toArray, List.getElem_cons_zero, List.getElem_cons_succ, List.setIfInBounds_toArray, List.set_cons_zero, List.set_cons_succ])
                  refine anyH_pure 13 _ ?_ rfl (by kernel_rfl) (by kernel_rfl) (by kernel_rfl) (fun _ _ _ h => h) rfl ?_ hS ?_
                  rotate_left
                  · (intro w'; go_simp; (try with_reducible rfl))
                  (try simp only [Act.put, List.getElem_toArray, List.getElem_cons_zero, List.getElem_cons_succ, List.setIfInBounds_toArray, List.set_cons_zero, List.set_cons_succ])
                  refine anyH_pure 14 _ (.int .i64 ((m - 1 : Nat) : Int)) rfl (by kernel_rfl) (by kernel_rfl) (by kernel_rfl) (fun _ _ _ h => h) rfl ?_ hS ?_
                  · (intro w'; go_simp; (try omega))
                  (try simp only [Act.put, List.getElem_toArray, List.getElem_cons_zero, List.getElem_cons_succ, List.setIfInBounds_toArray, List.set_cons_zero, List.set_cons_succ])
                  refine anyH_pure 15 _ (.pointer (some ⟨gl, m - 1, none⟩)) rfl (by kernel_rfl) (by kernel_rfl) (by kernel_rfl) (fun _ _ _ h => h) rfl ?_ hS ?_
                  · (intro w'; go_simp; (try omega))
                  (try simp only [Act.put, List.getElem_toArray, List.getElem_cons_zero, List.getElem_cons_succ, List.setIfInBounds_toArray, List.set_cons_zero, List.set_cons_succ])
                  refine anyH_if 16 _ ?_ rfl (by kernel_rfl) (by kernel_rfl) (by kernel_rfl) (fun _ _ _ h => h) rfl ?_ hS ?_
                  rotate_left
                  · (intro w' h; have c0 := (h (m-1) z hz.out); go_simp; (try with_reducible rfl))
                  (try simp only [Act.put, List.getElem_toArray, List.getElem_cons_zero, List.getElem_cons_succ, List.setIfInBounds_toArray, List.set_cons_zero, List.set_cons_succ])
                  refine anyH_pure 18 _ ?_ rfl (by kernel_rfl) (by kernel_rfl) (by kernel_rfl) (fun _ _ _ h => h) rfl ?_ hS ?_
                  rotate_left
                  · (intro w'; go_simp; (try with_reducible rfl))
                  (try simp only [Act.put, List.getElem_toArray, List.getElem_cons_zero, List.getElem_cons_succ, List.setIfInBounds_toArray, List.set_cons_zero, List.set_cons_succ])
                  refine anyH_pure 19 _ ?_ rfl (by kernel_rfl) (by kernel_rfl) (by kernel_rfl) (fun _ _ _ h => h) rfl ?_ hS ?_
                  rotate_left
                  · (intro w'; go_simp; (try with_reducible rfl))
                  (try simp only [Act.put, List.getElem_toArray, List.getElem_cons_zero, List.getElem_cons_succ, List.setIfInBounds_toArray, List.set_cons_zero, List.set_cons_succ])
                  refine anyH_pure 20 _ ?_ rfl (by kernel_rfl) (by kernel_rfl) (by kernel_rfl) (fun _ _ _ h => h) rfl ?_ hS ?_
                  rotate_left
                  · (intro w'; go_simp; (try with_reducible rfl))
                  (try simp only [Act.put, List.getElem_toArray, List.getElem_cons_zero, List.getElem_cons_succ, List.setIfInBounds_toArray, List.set_cons_zero, List.set_cons_succ])
                  refine anyH_pure 21 _ ?_ rfl (by kernel_rfl) (by kernel_rfl) (by kernel_rfl) (fun _ _ _ h => h) rfl ?_ hS ?_
                  rotate_left
                  · (intro w'; go_simp; (try with_reducible rfl))
                  (try simp only [Act.put, List.getElem_toArray, List.getElem_cons_zero, List.getElem_cons_succ, List.setIfInBounds_toArray, List.set_cons_zero, List.set_cons_succ])
                  refine anyH_if 22 _ ?_ rfl (by kernel_rfl) (by kernel_rfl) (by kernel_rfl) (fun _ _ _ h => h) rfl ?_ hS ?_
                  rotate_left
                  · (intro w' h; have c0 := (h m y HY.out); go_simp; (try with_reducible rfl))
                  (try simp only [Act.put, List.getElem_toArray, List.getElem_cons_zero, List.getElem_cons_succ, List.setIfInBounds_toArray, List.set_cons_zero, List.set_cons_succ])
                  have cZ := refat_any hP6.D (by rw [hP6.rel.length]; omega) z
                  rw [hA'.out] at cZ
                  refine anyH_callR 17 _ _ _ _ (by kernel_rfl) rfl rfl (by go_simp) (_) (cZ) ?_
                  rintro w7 hb7
                  have hS := hS.go hg6 hb7
                  have hP7 := hP6.go hb7
                  have hg7 := Nat.lt_of_lt_of_le hg6 hb7.size
                  refine ⟨hS, ?_⟩
                  (try simp only [Act.put, List.getElem_toArray, List.getElem_cons_zero, List.getElem_cons_succ, List.setIfInBounds_toArray, List.set_cons_zero, List.set_cons_succ])
                  have cY := refat_any hP7.D (by rw [hP7.rel.length]; omega) y
                  rw [hA.out] at cY
                  refine anyH_callR 23 _ _ _ _ (by kernel_rfl) rfl rfl (by go_simp) (_) (cY) ?_
                  rintro w8 hb8
                  have hS := hS.go hg7 hb8
                  have hP8 := hP7.go hb8
                  refine ⟨hS, ?_⟩
                  (try simp only [Act.put, List.getElem_toArray, List.getElem_cons_zero, List.getElem_cons_succ, List.setIfInBounds_toArray, List.set_cons_zero, List.set_cons_succ])
                  refine anyH_pure 24 _ (.bool false) rfl (by kernel_rfl) (by kernel_rfl) (by kernel_rfl) (fun _ _ _ h => h) rfl ?_ hS ?_
                  · (intro w'; go_simp; (try omega))
                  (try simp only [Act.put, List.getElem_toArray, List.getElem_cons_zero, List.getElem_cons_succ, List.setIfInBounds_toArray, List.set_cons_zero, List.set_cons_succ])
                  refine anyH_pure 25 _ ?_ rfl (by kernel_rfl) (by kernel_rfl) (by kernel_rfl) (fun _ _ _ h => h) rfl ?_ hS ?_
                  rotate_left
                  · (intro w'; go_simp; (try with_reducible rfl))
                  (try simp only [Act.put, List.getElem_toArray, List.getElem_cons_zero, List.getElem_cons_succ, List.setIfInBounds_toArray, List.set_cons_zero, List.set_cons_succ])
                  refine anyH_pure 26 _ ?_ rfl (by kernel_rfl) (by kernel_rfl) (by kernel_rfl) (fun _ _ _ h => h) rfl ?_ hS ?_
                  rotate_left
                  · (intro w'; go_simp; (try with_reducible rfl))
                  (try simp only [Act.put, List.getElem_toArray, List.getElem_cons_zero, List.getElem_cons_succ, List.setIfInBounds_toArray, List.set_cons_zero, List.set_cons_succ])
                  refine anyH_pure 27 _ ?_ rfl (by kernel_rfl) (by kernel_rfl) (by kernel_rfl) (fun _ _ _ h => h) rfl ?_ hS ?_
                  rotate_left
                  · (intro w'; go_simp; (try with_reducible rfl))
                  (try simp only [Act.put, List.getElem_toArray, List.getElem_cons_zero, List.getElem_cons_succ, List.setIfInBounds_toArray, List.set_cons_zero, List.set_cons_succ])
                  refine anyH_pure 28 _ ?_ rfl (by kernel_rfl) (by kernel_rfl) (by kernel_rfl) (fun _ _ _ h => h) rfl ?_ hS ?_
                  rotate_left
                  · (intro w'; go_simp; (try with_reducible rfl))
                  (try simp only [Act.put, List.getElem_toArray, List.getElem_cons_zero, List.getElem_cons_succ, List.setIfInBounds_toArray, List.set_cons_zero, List.set_cons_succ])
                  refine anyH_pure 29 _ ?_ rfl (by kernel_rfl) (by kernel_rfl) (by kernel_rfl) (fun _ _ _ h => h) rfl ?_ hS ?_
                  rotate_left
                  · (intro w'; go_simp; (try with_reducible rfl))
                  (try simp only [Act.put, List.getElem_toArray, List.getElem_cons_zero, List.getElem_cons_succ, List.setIfInBounds_toArray, List.set_cons_zero, List.set_cons_succ])
                  refine anyH_pure 30 _ ?_ rfl (by kernel_rfl) (by kernel_rfl) (by kernel_rfl) (fun _ _ _ h => h) rfl ?_ hS ?_
                  rotate_left
                  · (intro w'; go_simp; (try with_reducible rfl))
                  (try simp only [Act.put, List.getElem_toArray, List.getElem_cons_zero, List.getElem_cons_succ, List.setIfInBounds_toArray, List.set_cons_zero, List.set_cons_succ])
                  refine anyH_pure 31 _ ?_ rfl (by kernel_rfl) (by kernel_rfl) (by kernel_rfl) (fun _ _ _ h => h) rfl ?_ hS ?_
                  rotate_left
                  · (intro w'; go_simp; (try with_reducible rfl))
                  (try simp only [Act.put, List.getElem_toArray, List.getElem_cons_zero, List.getElem_cons_succ, List.setIfInBounds_toArray, List.set_cons_zero, List.set_cons_succ])
                  refine anyH_if 32 _ ?_ rfl (by kernel_rfl) (by kernel_rfl) (by kernel_rfl) (fun _ _ _ h => h) rfl ?_ hS ?_
                  rotate_left
                  · (intro w' h; have c0 := (h m y HY.out); go_simp; (try with_reducible rfl))
                  (try simp only [Act.put, List.getElem_toArray, List.getElem_cons_zero, List.getElem_cons_succ, List.setIfInBounds_toArray, List.set_cons_zero, List.set_cons_succ])
                  have cH := has_any hP8.T (by omega) y
                  rw [hhas] at cH
                  refine anyH_pure 34 _ ?_ rfl (by kernel_rfl) (by kernel_rfl) (by kernel_rfl) (fun _ _ _ h => h) rfl ?_ hS ?_
                  rotate_left
                  · (intro w'; go_simp; (try with_reducible rfl))
                  (try simp only [Act.put, List.getElem_toArray, List.getElem_cons_zero, List.getElem_cons_succ, List.setIfInBounds_toArray, List.set_cons_zero, List.set_cons_succ])
                  refine anyH_pure 35 _ ?_ rfl (by kernel_rfl) (by kernel_rfl) (by kernel_rfl) (fun _ _ _ h => h) rfl ?_ hS ?_
                  rotate_left
                  · (intro w'; go_simp; (try with_reducible rfl))
                  (try simp only [Act.put, List.getElem_toArray, List.getElem_cons_zero, List.getElem_cons_succ, List.setIfInBounds_toArray, List.set_cons_zero, List.set_cons_succ])
                  refine anyH_callR 33 _ _ _ _ (by kernel_rfl) rfl rfl (by go_simp) (_) (cH) ?_
                  rintro w9 rfl
                  refine ⟨hS, ?_⟩
                  (try simp only [Act.put, List.getElem_toArray, List.getElem_cons_zero, List.getElem_cons_succ, List.setIfInBounds_toArray, List.set_cons_zero, List.set_cons_succ])
                  refine anyH_pure 36 _ ?_ rfl (by kernel_rfl) (by kernel_rfl) (by kernel_rfl) (fun _ _ _ h => h) rfl ?_ hS ?_
                  rotate_left
                  · (intro w'; go_simp; (try with_reducible rfl))
                  (try simp only [Act.put, List.getElem_toArray, List.getElem_cons_zero, List.getElem_cons_succ, List.setIfInBounds_toArray, List.set_cons_zero, List.set_cons_succ])
                  refine anyH_pure 37 _ ?_ rfl (by kernel_rfl) (by kernel_rfl) (by kernel_rfl) (fun _ _ _ h => h) rfl ?_ hS ?_
                  rotate_left
                  · (intro w'; go_simp; (try with_reducible rfl))
                  (try simp only [Act.put, List.getElem_toArray, List.getElem_cons_zero, List.getElem_cons_succ, List.setIfInBounds_toArray, List.set_cons_zero, List.set_cons_succ])
                  refine wpAnyH_done (by kernel_rfl) ?_ _
                  have hbf : Below w5.heap.size w5 w8 := ((hbq.drew.trans (hb6.mono hbq.size)).trans (hb7.mono (Nat.le_trans hbq.size hb6.size))).trans (hb8.mono (Nat.le_trans hbq.size (Nat.le_trans hb6.size hb7.size)))
                  clear hS hP6 hP7 hP8 cA cH cZ cY hb6 hb7 hb8 hPq hbq hgq hg6 hg7
                  go_wp2_with fail
                  go_roundw
                  case rel => exact ⟨m + 1, by go_num, by omega, hbf⟩
                  case measure => simp [intOf]; omega
              · obtain rfl : m = (L.erase x).length := by omega
                go_wp2_with fail
                go_roundw
                case rel => exact ⟨k + 1, by go_num, by omega, by omega, _, _, _, _, _, hPq, hLB, hNB⟩
                case measure => simp [intOf]; omega
        · have hb0 : (kk == 0) = false := by simp [hk0]
          have hb1 : (kk == 1) = false := by simp [hk1]
          clear hk0 hk1
          go_wp2_with fail
          have hLB : L.length ≤ k + 1 := by omega
          have hNB : N ≤ ((k + 1 : Nat) : Int) := by omega
          clear e0
          obtain ⟨ao', cp', hu⟩ := own_slice hP.D.own
          subst hu
          have hlen : (((L).length : Int) != ((R).length : Int)) = false := by rw [hP.rel.length]; simp
          have hq : P.rhas (R) x = P.has (L) x := hP.rel.has x
          go_wp2_with fail
          refine wp_region_held (S := (fun w' => Blk w' c #[.int .i64 kk, .int .i64 x] 28)) (by kernel_rfl) ?_
          change wpAnyH _ _ _ _ _ _ _ _ (w1).drew
          (try simp only [Act.put])
          have hS : Blk (w1).drew c #[.int .i64 kk, .int .i64 x] 28 := hE
          refine anyH_pure 0 _ ?_ rfl (by kernel_rfl) (by kernel_rfl) (by kernel_rfl) (fun _ _ _ h => h) rfl ?_ hS ?_
          rotate_left
          · (intro w'; go_simp; (try with_reducible rfl))
          (try simp only [Act.put, List.getElem_toArray, List.getElem_cons_zero, List.setIfInBounds_toArray, List.set_cons_zero, List.set_cons_succ])
          refine anyH_pure 1 _ ?_ rfl (by kernel_rfl) (by kernel_rfl) (by kernel_rfl) (fun _ _ _ h => h) rfl ?_ hS ?_
          rotate_left
          · (intro w'; go_simp; (try with_reducible rfl))
          (try simp only [Act.put, List.getElem_toArray, List.getElem_cons_zero, List.getElem_cons_succ, List.setIfInBounds_toArray, List.set_cons_zero, List.set_cons_succ])
          refine anyH_pure 2 _ ?_ rfl (by kernel_rfl) (by kernel_rfl) (by kernel_rfl) (fun _ _ _ h => h) rfl ?_ hS ?_
          rotate_left
          · (intro w'; go_simp; (try with_reducible rfl))
          (try simp only [Act.put, List.getElem_toArray, List.getElem_cons_zero, List.getElem_cons_succ, List.setIfInBounds_toArray, List.set_cons_zero, List.set_cons_succ])
          refine anyH_pure 3 _ ?_ rfl (by kernel_rfl) (by kernel_rfl) (by kernel_rfl) (fun _ _ _ h => h) rfl ?_ hS ?_
          rotate_left
          · (intro w'; go_simp; (try with_reducible rfl))
          (try simp only [Act.put, List.getElem_toArray, List.getElem_cons_zero, List.getElem_cons_succ, List.setIfInBounds_toArray, List.set_cons_zero, List.set_cons_succ])
          refine anyH_pure 4 _ ?_ rfl (by kernel_rfl) (by kernel_rfl) (by kernel_rfl) (fun _ _ _ h => h) rfl ?_ hS ?_
          rotate_left
          · (intro w'; go_simp; (try with_reducible rfl))
          (try simp only [Act.put, List.getElem_toArray, List.getElem_cons_zero, List.getElem_cons_succ, List.setIfInBounds_toArray, List.set_cons_zero, List.set_cons_succ])
          refine anyH_pure 5 _ ?_ rfl (by kernel_rfl) (by kernel_rfl) (by kernel_rfl) (fun _ _ _ h => h) rfl ?_ hS ?_
          rotate_left
          · (intro w'; go_simp; (try with_reducible rfl))
          (try simp only [Act.put, List.getElem_toArray, List.getElem_cons_zero, List.getElem_cons_succ, List.setIfInBounds_toArray, List.set_cons_zero, List.set_cons_succ])
          refine anyH_if 6 _ ?_ rfl (by kernel_rfl) (by kernel_rfl) (by kernel_rfl) (fun _ _ _ h => h) rfl ?_ hS ?_
          rotate_left
          · (intro w' h; have c0 := h.cell 1; go_simp; (try with_reducible rfl))
          (try simp only [Act.put, List.getElem_toArray, List.getElem_cons_zero, List.getElem_cons_succ, List.setIfInBounds_toArray, List.set_cons_zero, List.set_cons_succ])
          refine anyH_pure 8 _ ?_ rfl (by kernel_rfl) (by kernel_rfl) (by kernel_rfl) (fun _ _ _ h => h) rfl ?_ hS ?_
          rotate_left
          · (intro w'; go_simp; (try with_reducible rfl))
          (try simp only [Act.put, List.getElem_toArray, List.getElem_cons_zero, List.getElem_cons_succ, List.setIfInBounds_toArray, List.set_cons_zero, List.set_cons_succ])
          refine anyH_pure 9 _ ?_ rfl (by kernel_rfl) (by kernel_rfl) (by kernel_rfl) (fun _ _ _ h => h) rfl ?_ hS ?_
          rotate_left
          · (intro w'; go_simp; (try with_reducible rfl))
          (try simp only [Act.put, List.getElem_toArray, List.getElem_cons_zero, List.getElem_cons_succ, List.setIfInBounds_toArray, List.set_cons_zero, List.set_cons_succ])
          refine anyH_if 10 _ ?_ rfl (by kernel_rfl) (by kernel_rfl) (by kernel_rfl) (fun _ _ _ h => h) rfl ?_ hS ?_
          rotate_left
          · (intro w' h; have c0 := h.cell 1; go_simp; (try with_reducible rfl))
          (try simp only [Act.put, List.getElem_toArray, List.getElem_cons_zero, List.getElem_cons_succ, List.setIfInBounds_toArray, List.set_cons_zero, List.set_cons_succ])
          refine anyH_callR 7 _ _ _ _ (by kernel_rfl) rfl rfl (by go_simp) (_) (has_any hP.drew.T (by omega) x) ?_
          rintro w4 rfl
          refine ⟨hS, ?_⟩
          (try simp only [Act.put, List.getElem_toArray, List.getElem_cons_zero, List.getElem_cons_succ, List.setIfInBounds_toArray, List.set_cons_zero, List.set_cons_succ])
          have cB := refhas_any hP.drew.D (by rw [hP.rel.length]; omega) x
          rw [hq] at cB
          refine anyH_callR 11 _ _ _ _ (by kernel_rfl) rfl rfl (by go_simp) (_) (cB) ?_
          rintro w4 hb4
          have hP4 := hP.drew.go hb4
          have hS := hS.below hb4
          refine ⟨hS, ?_⟩
          (try simp only [Act.put, List.getElem_toArray, List.getElem_cons_zero, List.getElem_cons_succ, List.setIfInBounds_toArray, List.set_cons_zero, List.set_cons_succ])
          refine anyH_pure 12 _ ?_ rfl (by kernel_rfl) (by kernel_rfl) (by kernel_rfl) (fun _ _ _ h => h) rfl ?_ hS ?_
          rotate_left
          · (intro w'; go_simp; (try with_reducible rfl))
          (try simp only [Act.put, List.getElem_toArray, List.getElem_cons_zero, List.getElem_cons_succ, List.setIfInBounds_toArray, List.set_cons_zero, List.set_cons_succ])
          refine anyH_pure 13 _ ?_ rfl (by kernel_rfl) (by kernel_rfl) (by kernel_rfl) (fun _ _ _ h => h) rfl ?_ hS ?_
          rotate_left
          · (intro w'; go_simp; (try with_reducible rfl))
          (try simp only [Act.put, List.getElem_toArray, List.getElem_cons_zero, List.getElem_cons_succ, List.setIfInBounds_toArray, List.set_cons_zero, List.set_cons_succ])
          refine wpAnyH_done (by kernel_rfl) ?_ _
          clear hS hb4 hE hP hq cB
          go_wp2_with fail
          refine (line_any hP4.T (by omega)).mono ?_
          rintro e w5 ⟨l, rfl, hown, hb5⟩
          have hP5 := hP4.go hb5
          clear hP4 hb5
          have r0 : w5.cell? ⟨w.heap.size + 1, 0, none⟩ = some (.slice ao' (R).length cp') := hP5.D.blk.cell 0
          rcases own_cases hown with ⟨rfl, h0, h1⟩ | ⟨gl, cl, rfl, hcl, _, hgl, hgl2, hcc, _⟩
          · have hlen : ((0 : Int) != ((R).length : Int)) = false := by rw [hP5.rel.length, h0]; simp
            clear hown h1
            replace h0 := Lib.hid h0
            go_wp2_with fail
            refine wp_loop_rounds 1 ?_
            rw [rounds_succ]
            go_wp2_with fail
            go_roundw
            case rel => exact ⟨k + 1, by go_num, by omega, by omega, _, _, _, _, _, hP5, hLB, hNB⟩
            case measure => simp [intOf]; omega
          · have hrow : Row w5 gl (L) := fun j y hy => by rw [hcc j (List.getElem?_eq_some_iff.1 hy).1]; exact line_get hy
            have HR := Lib.hid hrow
            have HC := Lib.hid hP5
            clear hown hcc hrow
            go_wp2_with fail
            clear r0 hlen
            go_loopw [77] (fun j wq => ∃ m : Nat, j = .int .i64 m ∧ m ≤ (L).length ∧ Below w5.heap.size w5 wq) (fun j _ => (L).length - (intOf j).toNat)
            case atStart => exact ⟨0, rfl, by omega, Below.refl _ _⟩
            case round =>
              obtain ⟨m, rfl, hm, hbq⟩ := hrel
              have hPq := HC.out.go hbq
              by_cases hlm : m < (L).length
              · obtain ⟨y, hy⟩ : ∃ y, (L)[m]? = some y := ⟨_, List.getElem?_eq_getElem hlm⟩
                have HY := Lib.hid hy
                have hpos := hPq.rel.at_pos (List.mem_of_getElem? hy)
                have hmem := Lib.hid (List.mem_of_getElem? hy)
                have hRq := HR.out.go hgl2 hbq
                clear hy
                obtain ⟨A, hA⟩ : ∃ A, P.at' (R) y = A := ⟨_, rfl⟩
                rw [hA] at hpos
                have hA0 : (A == 0) = false := by rw [beq_eq_false_iff_ne]; omega
                replace hA := Lib.hid hA
                have cq := hRq m y HY.out
                have HRQ := Lib.hid hRq
                clear hRq hmem
                by_cases hm0 : m = 0
                · have g0 : decide ((0 : Int) < (m : Int)) = false := by simp [hm0]
                  have g1 : ((m : Int) == 0) = true := by simp [hm0]
                  have hhas := has_zero (by rw [← hm0]; exact HY.out)
                  replace hm0 := Lib.hid hm0
                  go_wp2_with fail
                  refine wp_region_held (S := (fun w' => Row w' gl (L))) (by kernel_rfl) ?_
                  change wpAnyH _ _ _ _ _ _ _ _ wr.drew
                  (try simp only [Act.put])
                  have hS : Row wr.drew gl (L) := HRQ.out
                  have hPq := hPq.drew
                  have hgq : gl < wr.drew.heap.size := Nat.lt_of_lt_of_le hgl2 hbq.size
                  refine anyH_pure 0 _ ?_ rfl (by kernel_rfl) (by kernel_rfl) (by kernel_rfl) (fun _ _ _ h => h) rfl ?_ hS ?_
                  rotate_left
                  · (intro w'; go_simp; (try with_reducible rfl))
                  (try simp only [Act.put, List.getElem_toArray, List.getElem_cons_zero, List.setIfInBounds_toArray, List.set_cons_zero, List.set_cons_succ])
                  refine anyH_pure 1 _ ?_ rfl (by kernel_rfl) (by kernel_rfl) (by kernel_rfl) (fun _ _ _ h => h) rfl ?_ hS ?_
                  rotate_left
                  · (intro w'; go_simp; (try with_reducible rfl))
                  (try simp only [Act.put, List.getElem_toArray, List.getElem_cons_zero, List.getElem_cons_succ, List.setIfInBounds_toArray, List.set_cons_zero, List.set_cons_succ])
                  refine anyH_pure 2 _ ?_ rfl (by kernel_rfl) (by kernel_rfl) (by kernel_rfl) (fun _ _ _ h => h) rfl ?_ hS ?_
                  rotate_left
                  · (intro w'; go_simp; (try with_reducible rfl))
                  (try simp only [Act.put, List.getElem_toArray, List.getElem_cons_zero, List.getElem_cons_succ, List.setIfInBounds_toArray, List.set_cons_zero, List.set_cons_succ])
                  refine anyH_pure 3 _ ?_ rfl (by kernel_rfl) (by kernel_rfl) (by kernel_rfl) (fun _ _ _ h => h) rfl ?_ hS ?_
                  rotate_left
                  · (intro w'; go_simp; (try with_reducible rfl))
                  (try simp only [Act.put, List.getElem_toArray, List.getElem_cons_zero, List.getElem_cons_succ, List.setIfInBounds_toArray, List.set_cons_zero, List.set_cons_succ])
                  refine anyH_if 4 _ ?_ rfl (by kernel_rfl) (by kernel_rfl) (by kernel_rfl) (fun _ _ _ h => h) rfl ?_ hS ?_
                  rotate_left
                  · (intro w' h; have c0 := (h m y HY.out); go_simp; (try with_reducible rfl))
                  (try simp only [Act.put, List.getElem_toArray, List.getElem_cons_zero, List.getElem_cons_succ, List.setIfInBounds_toArray, List.set_cons_zero, List.set_cons_succ])
                  have cA := refat_any hPq.D (by rw [hPq.rel.length]; omega) y
                  rw [hA.out] at cA
                  refine anyH_callR 5 _ _ _ _ (by kernel_rfl) rfl rfl (by go_simp) (_) (cA) ?_
                  rintro w6 hb6
                  have hS := hS.go hgq hb6
                  have hP6 := hPq.go hb6
                  refine ⟨hS, ?_⟩
                  (try simp only [Act.put, List.getElem_toArray, List.getElem_cons_zero, List.getElem_cons_succ, List.setIfInBounds_toArray, List.set_cons_zero, List.set_cons_succ])
                  refine anyH_pure 6 _ (.bool false) rfl (by kernel_rfl) (by kernel_rfl) (by kernel_rfl) (fun _ _ _ h => h) rfl ?_ hS ?_
                  · (intro w'; go_simp; (try simp [hA0]))
                  (try simp only [Act.put, List.getElem_toArray, List.getElem_cons_zero, List.getElem_cons_succ, List.setIfInBounds_toArray, List.set_cons_zero, List.set_cons_succ])
                  refine anyH_pure 7 _ ?_ rfl (by kernel_rfl) (by kernel_rfl) (by kernel_rfl) (fun _ _ _ h => h) rfl ?_ hS ?_
                  rotate_left
                  · (intro w'; go_simp; (try with_reducible rfl))
                  (try simp only [Act.put, List.getElem_toArray, List.getElem_cons_zero, List.getElem_cons_succ, List.setIfInBounds_toArray, List.set_cons_zero, List.set_cons_succ])
                  refine anyH_pure 8 _ ?_ rfl (by kernel_rfl) (by kernel_rfl) (by kernel_rfl) (fun _ _ _ h => h) rfl ?_ hS ?_
                  rotate_left
                  · (intro w'; go_simp; (try with_reducible rfl))
                  (try simp only [Act.put, List.getElem_toArray, List.getElem_cons_zero, List.getElem_cons_succ, List.setIfInBounds_toArray, List.set_cons_zero, List.set_cons_succ])
                  refine anyH_pure 9 _ (.bool false) rfl (by kernel_rfl) (by kernel_rfl) (by kernel_rfl) (fun _ _ _ h => h) rfl ?_ hS ?_
                  · (intro w'; go_simp; (try exact hm0.out))
                  (try simp only [Act.put, List.getElem_toArray, List.getElem_cons_zero, List.getElem_cons_succ, List.setIfInBounds_toArray, List.set_cons_zero, List.set_cons_succ])
                  refine anyH_pure 10 _ ?_ rfl (by kernel_rfl) (by kernel_rfl) (by kernel_rfl) (fun _ _ _ h => h) rfl ?_ hS ?_
                  rotate_left
                  · (intro w'; go_simp; (try with_reducible rfl))
                  (try simp only [Act.put, List.getElem_toArray, List.getElem_cons_zero, List.getElem_cons_succ, List.setIfInBounds_toArray, List.set_cons_zero, List.set_cons_succ])
                  refine anyH_skip 11 _ rfl (by kernel_rfl) (by kernel_rfl) (by kernel_rfl) (fun _ _ _ h => h) rfl hS ?_
                  (try simp only [Act.put, List.getElem_toArray, List.getElem_cons_zero, List.getElem_cons_succ, List.setIfInBounds_toArray, List.set_cons_zero, List.set_cons_succ])
                  refine anyH_skip 12 _ rfl (by kernel_rfl) (by kernel_rfl) (by kernel_rfl) (fun _ _ _ h => h) rfl hS ?_
                  (try simp only [Act.put, List.getElem_toArray, List.getElem_cons_zero, List.getElem_cons_succ, List.setIfInBounds_toArray, List.set_cons_zero, List.set_cons_succ])
                  refine anyH_skip 13 _ rfl (by kernel_rfl) (by kernel_rfl) (by kernel_rfl) (fun _ _ _ h => h) rfl hS ?_
                  (try simp only [Act.put, List.getElem_toArray, List.getElem_cons_zero, List.getElem_cons_succ, List.setIfInBounds_toArray, List.set_cons_zero, List.set_cons_succ])
                  refine anyH_skip 14 _ rfl (by kernel_rfl) (by kernel_rfl) (by kernel_rfl) (fun _ _ _ h => h) rfl hS ?_
                  (try simp only [Act.put, List.getElem_toArray, List.getElem_cons_zero, List.getElem_cons_succ, List.setIfInBounds_toArray, List.set_cons_zero, List.set_cons_succ])
                  refine anyH_skip 15 _ rfl (by kernel_rfl) (by kernel_rfl) (by kernel_rfl) (fun _ _ _ h => h) rfl hS ?_
                  (try simp only [Act.put, List.getElem_toArray, List.getElem_cons_zero, List.getElem_cons_succ, List.setIfInBounds_toArray, List.set_cons_zero, List.set_cons_succ])
                  refine anyH_skip 16 _ rfl (by kernel_rfl) (by kernel_rfl) (by kernel_rfl) (fun _ _ _ h => h) rfl hS ?_
                  (try simp only [Act.put, List.getElem_toArray, List.getElem_cons_zero, List.getElem_cons_succ, List.setIfInBounds_toArray, List.set_cons_zero, List.set_cons_succ])
                  refine anyH_skip 17 _ rfl (by kernel_rfl) (by kernel_rfl) (by kernel_rfl) (fun _ _ _ h => h) rfl hS ?_
                  (try simp only [Act.put, List.getElem_toArray, List.getElem_cons_zero, List.getElem_cons_succ, List.setIfInBounds_toArray, List.set_cons_zero, List.set_cons_succ])
                  refine anyH_skip 18 _ rfl (by kernel_rfl) (by kernel_rfl) (by kernel_rfl) (fun _ _ _ h => h) rfl hS ?_
                  (try simp only [Act.put, List.getElem_toArray, List.getElem_cons_zero, List.getElem_cons_succ, List.setIfInBounds_toArray, List.set_cons_zero, List.set_cons_succ])
                  refine anyH_skip 19 _ rfl (by kernel_rfl) (by kernel_rfl) (by kernel_rfl) (fun _ _ _ h => h) rfl hS ?_
                  (try simp only [Act.put, List.getElem_toArray, List.getElem_cons_zero, List.getElem_cons_succ, List.setIfInBounds_toArray, List.set_cons_zero, List.set_cons_succ])
                  refine anyH_skip 20 _ rfl (by kernel_rfl) (by kernel_rfl) (by kernel_rfl) (fun _ _ _ h => h) rfl hS ?_
                  (try simp only [Act.put, List.getElem_toArray, List.getElem_cons_zero, List.getElem_cons_succ, List.setIfInBounds_toArray, List.set_cons_zero, List.set_cons_succ])
                  refine anyH_skip 21 _ rfl (by kernel_rfl) (by kernel_rfl) (by kernel_rfl) (fun _ _ _ h => h) rfl hS ?_
                  (try simp only [Act.put, List.getElem_toArray, List.getElem_cons_zero, List.getElem_cons_succ, List.setIfInBounds_toArray, List.set_cons_zero, List.set_cons_succ])
                  refine anyH_skip 22 _ rfl (by kernel_rfl) (by kernel_rfl) (by kernel_rfl) (fun _ _ _ h => h) rfl hS ?_
                  (try simp only [Act.put, List.getElem_toArray, List.getElem_cons_zero, List.getElem_cons_succ, List.setIfInBounds_toArray, List.set_cons_zero, List.set_cons_succ])
                  refine anyH_skip 23 _ rfl (by kernel_rfl) (by kernel_rfl) (by kernel_rfl) (fun _ _ _ h => h) rfl hS ?_
                  (try simp only [Act.put, List.getElem_toArray, List.getElem_cons_zero, List.getElem_cons_succ, List.setIfInBounds_toArray, List.set_cons_zero, List.set_cons_succ])
                  refine anyH_skip 24 _ rfl (by kernel_rfl) (by kernel_rfl) (by kernel_rfl) (fun _ _ _ h => h) rfl hS ?_
                  (try simp only [Act.put, List.getElem_toArray, List.getElem_cons_zero, List.getElem_cons_succ, List.setIfInBounds_toArray, List.set_cons_zero, List.set_cons_succ])
                  refine anyH_pure 25 _ ?_ rfl (by kernel_rfl) (by kernel_rfl) (by kernel_rfl) (fun _ _ _ h => h) rfl ?_ hS ?_
                  rotate_left
                  · (intro w'; go_simp; (try with_reducible rfl))
                  (try simp only [Act.put, List.getElem_toArray, List.getElem_cons_zero, List.getElem_cons_succ, List.setIfInBounds_toArray, List.set_cons_zero, List.set_cons_succ])
                  refine anyH_pure 26 _ ?_ rfl (by kernel_rfl) (by kernel_rfl) (by kernel_rfl) (fun _ _ _ h => h) rfl ?_ hS ?_
                  rotate_left
                  · (intro w'; go_simp; (try with_reducible rfl))
                  (try simp only [Act.put, List.getElem_toArray, List.getElem_cons_zero, List.getElem_cons_succ, List.setIfInBounds_toArray, List.set_cons_zero, List.set_cons_succ])
                  refine anyH_pure 27 _ ?_ rfl (by kernel_rfl) (by kernel_rfl) (by kernel_rfl) (fun _ _ _ h => h) rfl ?_ hS ?_
                  rotate_left
                  · (intro w'; go_simp; (try with_reducible rfl))
                  (try simp only [Act.put, List.getElem_toArray, List.getElem_cons_zero, List.getElem_cons_succ, List.setIfInBounds_toArray, List.set_cons_zero, List.set_cons_succ])
                  refine anyH_pure 28 _ ?_ rfl (by kernel_rfl) (by kernel_rfl) (by kernel_rfl) (fun _ _ _ h => h) rfl ?_ hS ?_
                  rotate_left
                  · (intro w'; go_simp; (try with_reducible rfl))
                  (try simp only [Act.put, List.getElem_toArray, List.getElem_cons_zero, List.getElem_cons_succ, List.setIfInBounds_toArray, List.set_cons_zero, List.set_cons_succ])
                  refine anyH_pure 29 _ ?_ rfl (by kernel_rfl) (by kernel_rfl) (by kernel_rfl) (fun _ _ _ h => h) rfl ?_ hS ?_
                  rotate_left
                  · (intro w'; go_simp; (try with_reducible rfl))
                  (try simp only [Act.put, List.getElem_toArray, List.getElem_cons_zero, List.getElem_cons_succ, List.setIfInBounds_toArray, List.set_cons_zero, List.set_cons_succ])
                  refine anyH_pure 30 _ ?_ rfl (by kernel_rfl) (by kernel_rfl) (by kernel_rfl) (fun _ _ _ h => h) rfl ?_ hS ?_
                  rotate_left
                  · (intro w'; go_simp; (try with_reducible rfl))
                  (try simp only [Act.put, List.getElem_toArray, List.getElem_cons_zero, List.getElem_cons_succ, List.setIfInBounds_toArray, List.set_cons_zero, List.set_cons_succ])
                  refine anyH_pure 31 _ ?_ rfl (by kernel_rfl) (by kernel_rfl) (by kernel_rfl) (fun _ _ _ h => h) rfl ?_ hS ?_
                  rotate_left
                  · (intro w'; go_simp; (try with_reducible rfl))
                  (try simp only [Act.put, List.getElem_toArray, List.getElem_cons_zero, List.getElem_cons_succ, List.setIfInBounds_toArray, List.set_cons_zero, List.set_cons_succ])
                  refine anyH_if 32 _ ?_ rfl (by kernel_rfl) (by kernel_rfl) (by kernel_rfl) (fun _ _ _ h => h) rfl ?_ hS ?_
                  rotate_left
                  · (intro w' h; have c0 := (h m y HY.out); go_simp; (try with_reducible rfl))
                  (try simp only [Act.put, List.getElem_toArray, List.getElem_cons_zero, List.getElem_cons_succ, List.setIfInBounds_toArray, List.set_cons_zero, List.set_cons_succ])
                  have cH := has_any hP6.T (by omega) y
                  rw [hhas] at cH
                  refine anyH_pure 34 _ ?_ rfl (by kernel_rfl) (by kernel_rfl) (by kernel_rfl) (fun _ _ _ h => h) rfl ?_ hS ?_
                  rotate_left
                  · (intro w'; go_simp; (try with_reducible rfl))
                  (try simp only [Act.put, List.getElem_toArray, List.getElem_cons_zero, List.getElem_cons_succ, List.setIfInBounds_toArray, List.set_cons_zero, List.set_cons_succ])
                  refine anyH_pure 35 _ ?_ rfl (by kernel_rfl) (by kernel_rfl) (by kernel_rfl) (fun _ _ _ h => h) rfl ?_ hS ?_
                  rotate_left
                  · (intro w'; go_simp; (try with_reducible rfl))
                  (try simp only [Act.put, List.getElem_toArray, List.getElem_cons_zero, List.getElem_cons_succ, List.setIfInBounds_toArray, List.set_cons_zero, List.set_cons_succ])
                  refine anyH_callR 33 _ _ _ _ (by kernel_rfl) rfl rfl (by go_simp) (_) (cH) ?_
                  rintro w7 rfl
                  refine ⟨hS, ?_⟩
                  (try simp only [Act.put, List.getElem_toArray, List.getElem_cons_zero, List.getElem_cons_succ, List.setIfInBounds_toArray, List.set_cons_zero, List.set_cons_succ])
                  refine anyH_pure 36 _ ?_ rfl (by kernel_rfl) (by kernel_rfl) (by kernel_rfl) (fun _ _ _ h => h) rfl ?_ hS ?_
                  rotate_left
                  · (intro w'; go_simp; (try with_reducible rfl))
                  (try simp only [Act.put, List.getElem_toArray, List.getElem_cons_zero, List.getElem_cons_succ, List.setIfInBounds_toArray, List.set_cons_zero, List.set_cons_succ])
                  refine anyH_pure 37 _ ?_ rfl (by kernel_rfl) (by kernel_rfl) (by kernel_rfl) (fun _ _ _ h => h) rfl ?_ hS ?_
                  rotate_left
                  · (intro w'; go_simp; (try with_reducible rfl))
                  (try simp only [Act.put, List.getElem_toArray, List.getElem_cons_zero, List.getElem_cons_succ, List.setIfInBounds_toArray, List.set_cons_zero, List.set_cons_succ])
                  refine wpAnyH_done (by kernel_rfl) ?_ _
                  have hbf : Below w5.heap.size w5 w6 := hbq.drew.trans (hb6.mono hbq.size)
                  clear hS hP6 cA cH hb6 hPq hbq hgq
                  go_wp2_with fail
                  go_roundw
                  case rel => exact ⟨m + 1, by go_num, by omega, hbf⟩
                  case measure => simp [intOf]; omega
                · have g0 : decide ((0 : Int) < (m : Int)) = true := by simp; omega
                  have g1 : ((m : Int) == 0) = false := by simp; omega
                  have hhas := has_pos hPq.rel.nodup HY.out (by omega)
                  obtain ⟨z, hz⟩ : ∃ z, (L)[m - 1]? = some z := ⟨_, List.getElem?_eq_getElem (by omega)⟩
                  obtain ⟨A', hA'⟩ : ∃ A', P.at' (R) z = A' := ⟨_, rfl⟩
                  have hlt' : A' < A := by
                    have h1 := hPq.rel.at_lt (j := m - 1) (k := m) (by omega) hlm
                    have hy' : (L)[m] = y := by have := HY.out; rw [List.getElem?_eq_getElem hlm] at this; exact Option.some.inj this
                    have hz' : (L)[m - 1]'(by omega) = z := by rw [List.getElem?_eq_getElem (by omega)] at hz; exact Option.some.inj hz
                    rw [hy', hz', hA', hA.out] at h1
                    exact h1
                  have hm1 : 0 < m := by omega
                  replace hm0 := Lib.hid hm0
                  replace hA' := Lib.hid hA'
                  have cz := HRQ.out (m - 1) z hz
                  replace hz := Lib.hid hz
                  have i1 : IntKind.i64.wrap ((m : Int) - 1) = ((m - 1 : Nat) : Int) := by rw [IntWalk.i64_in _ (by omega)]; omega
                  have i2 : ((m : Int) - 1).toNat = m - 1 := by omega
                  go_wp2_with fail
                  refine wp_region_held (S := (fun w' => Row w' gl (L))) (by kernel_rfl) ?_
                  change wpAnyH _ _ _ _ _ _ _ _ wr.drew
                  (try simp only [Act.put])
                  have hS : Row wr.drew gl (L) := HRQ.out
                  have hPq := hPq.drew
                  have hgq : gl < wr.drew.heap.size := Nat.lt_of_lt_of_le hgl2 hbq.size
                  refine anyH_pure 0 _ ?_ rfl (by kernel_rfl) (by kernel_rfl) (by kernel_rfl) (fun _ _ _ h => h) rfl ?_ hS ?_
                  rotate_left
                  · (intro w'; go_simp; (try with_reducible rfl))
                  (try simp only [Act.put, List.getElem_toArray, List.getElem_cons_zero, List.setIfInBounds_toArray, List.set_cons_zero, List.set_cons_succ])
                  refine anyH_pure 1 _ ?_ rfl (by kernel_rfl) (by kernel_rfl) (by kernel_rfl) (fun _ _ _ h => h) rfl ?_ hS ?_
                  rotate_left
                  · (intro w'; go_simp; (try with_reducible rfl))
                  (try simp only [Act.put, List.getElem_toArray, List.getElem_cons_zero, List.getElem_cons_succ, List.setIfInBounds_toArray, List.set_cons_zero, List.set_cons_succ])
                  refine anyH_pure 2 _ ?_ rfl (by kernel_rfl) (by kernel_rfl) (by kernel_rfl) (fun _ _ _ h => h) rfl ?_ hS ?_
                  rotate_left
                  · (intro w'; go_simp; (try with_reducible rfl))
                  (try simp only [Act.put, List.getElem_toArray, List.getElem_cons_zero, List.getElem_cons_succ, List.setIfInBounds_toArray, List.set_cons_zero, List.set_cons_succ])
                  refine anyH_pure 3 _ ?_ rfl (by kernel_rfl) (by kernel_rfl) (by kernel_rfl) (fun _ _ _ h => h) rfl ?_ hS ?_
                  rotate_left
                  · (intro w'; go_simp; (try with_reducible rfl))
                  (try simp only [Act.put, List.getElem_toArray, List.getElem_cons_zero, List.getElem_cons_succ, List.setIfInBounds_toArray, List.set_cons_zero, List.set_cons_succ])
                  refine anyH_if 4 _ ?_ rfl (by kernel_rfl) (by kernel_rfl) (by kernel_rfl) (fun _ _ _ h => h) rfl ?_ hS ?_
                  rotate_left
                  · (intro w' h; have c0 := (h m y HY.out); go_simp; (try with_reducible rfl))
                  (try simp only [Act.put, List.getElem_toArray, List.getElem_cons_zero, List.getElem_cons_succ, List.setIfInBounds_toArray, List.set_cons_zero, List.set_cons_succ])
                  have cA := refat_any hPq.D (by rw [hPq.rel.length]; omega) y
                  rw [hA.out] at cA
                  refine anyH_callR 5 _ _ _ _ (by kernel_rfl) rfl rfl (by go_simp) (_) (cA) ?_
                  rintro w6 hb6
                  have hS := hS.go hgq hb6
                  have hP6 := hPq.go hb6
                  have hg6 := Nat.lt_of_lt_of_le hgq hb6.size
                  refine ⟨hS, ?_⟩
                  (try simp only [Act.put, List.getElem_toArray, List.getElem_cons_zero, List.getElem_cons_succ, List.setIfInBounds_toArray, List.set_cons_zero, List.set_cons_succ])
                  refine anyH_pure 6 _ (.bool false) rfl (by kernel_rfl) (by kernel_rfl) (by kernel_rfl) (fun _ _ _ h => h) rfl ?_ hS ?_
                  · (intro w'; go_simp; (try simp [hA0]))
                  (try simp only [Act.put, List.getElem_toArray, List.getElem_cons_zero, List.getElem_cons_succ, List.setIfInBounds_toArray, List.set_cons_zero, List.set_cons_succ])
                  refine anyH_pure 7 _ ?_ rfl (by kernel_rfl) (by kernel_rfl) (by kernel_rfl) (fun _ _ _ h => h) rfl ?_ hS ?_
                  rotate_left
                  · (intro w'; go_simp; (try with_reducible rfl))
                  (try simp only [Act.put, List.getElem_toArray, List.getElem_cons_zero, List.getElem_cons_succ, List.setIfInBounds_toArray, List.set_cons_zero, List.set_cons_succ])
                  refine anyH_pure 8 _ ?_ rfl (by kernel_rfl) (by kernel_rfl) (by kernel_rfl) (fun _ _ _ h => h) rfl ?_ hS ?_
                  rotate_left
                  · (intro w'; go_simp; (try with_reducible rfl))
                  (try simp only [Act.put, List.getElem_toArray, List.getElem_cons_zero, List.getElem_cons_succ, List.setIfInBounds_toArray, List.set_cons_zero, List.set_cons_succ])
                  refine anyH_pure 9 _ (.bool true) rfl (by kernel_rfl) (by kernel_rfl) (by kernel_rfl) (fun _ _ _ h => h) rfl ?_ hS ?_
                  · (intro w'; go_simp; (try omega))
                  (try simp only [Act.put, List.getElem_toArray, List.getElem_cons_zero, List.getElem_cons_succ, List.setIfInBounds_toArray, List.set_cons_zero, List.set_cons_succ])
                  refine anyH_pure 10 _ ?_ rfl (by kernel_rfl) (by kernel_rfl) (by kernel_rfl) (fun _ _ _ h => h) rfl ?_ hS ?_
                  rotate_left
                  · (intro w'; go_simp; (try with_reducible rfl))
                  (try simp only [Act.put, List.getElem_toArray, List.getElem_cons_zero, List.getElem_cons_succ, List.setIfInBounds_toArray, List.set_cons_zero, List.set_cons_succ])
                  refine anyH_pure 11 _ ?_ rfl (by kernel_rfl) (by kernel_rfl) (by kernel_rfl) (fun _ _ _ h => h) rfl ?_ hS ?_
                  rotate_left
                  · (intro w'; go_simp; (try with_reducible rfl))
                  (try simp only [Act.put, List.getElem_toArray, List.getElem_cons_zero, List.getElem_cons_succ, List.setIfInBounds_toArray, List.set_cons_zero, List.set_cons_succ])
                  refine anyH_pure 12 _ ?_ rfl (by kernel_rfl) (by kernel_rfl) (by kernel_rfl) (fun _ _ _ h => h) rfl ?_ hS ?_
                  rotate_left
                  · (intro w'; go_simp; (try with_reducible rfl))
                  (try simp only [Act.put, List.getElem_toArray, List.getElem_cons_zero, List.getElem_cons_succ, List.setIfInBounds_toArray, List.set_cons_zero, List.set_cons_succ])
                  refine anyH_pure 13 _ ?_ rfl (by kernel_rfl) (by kernel_rfl) (by kernel_rfl) (fun _ _ _ h => h) rfl ?_ hS ?_
                  rotate_left
                  · (intro w'; go_simp; (try with_reducible rfl))
                  (try simp only [Act.put, List.getElem_toArray, List.getElem_cons_zero, List.getElem_cons_succ, List.setIfInBounds_toArray, List.set_cons_zero, List.set_cons_succ])
                  refine anyH_pure 14 _ (.int .i64 ((m - 1 : Nat) : Int)) rfl (by kernel_rfl) (by kernel_rfl) (by kernel_rfl) (fun _ _ _ h => h) rfl ?_ hS ?_
                  · (intro w'; go_simp; (try omega))
                  (try simp only [Act.put, List.getElem_toArray, List.getElem_cons_zero, List.getElem_cons_succ, List.setIfInBounds_toArray, List.set_cons_zero, List.set_cons_succ])
                  refine anyH_pure 15 _ (.pointer (some ⟨gl, m - 1, none⟩)) rfl (by kernel_rfl) (by kernel_rfl) (by kernel_rfl) (fun _ _ _ h => h) rfl ?_ hS ?_
                  · (intro w'; go_simp; (try omega))
                  (try simp only [Act.put, List.getElem_toArray, List.getElem_cons_zero, List.getElem_cons_succ, List.setIfInBounds_toArray, List.set_cons_zero, List.set_cons_succ])
                  refine anyH_if 16 _ ?_ rfl (by kernel_rfl) (by kernel_rfl) (by kernel_rfl) (fun _ _ _ h => h) rfl ?_ hS ?_
                  rotate_left
                  · (intro w' h; have c0 := (h (m-1) z hz.out); go_simp; (try with_reducible rfl))
                  (try simp only [Act.put, List.getElem_toArray, List.getElem_cons_zero, List.getElem_cons_succ, List.setIfInBounds_toArray, List.set_cons_zero, List.set_cons_succ])
                  refine anyH_pure 18 _ ?_ rfl (by kernel_rfl) (by kernel_rfl) (by kernel_rfl) (fun _ _ _ h => h) rfl ?_ hS ?_
                  rotate_left
                  · (intro w'; go_simp; (try with_reducible rfl))
                  (try simp only [Act.put, List.getElem_toArray, List.getElem_cons_zero, List.getElem_cons_succ, List.setIfInBounds_toArray, List.set_cons_zero, List.set_cons_succ])
                  refine anyH_pure 19 _ ?_ rfl (by kernel_rfl) (by kernel_rfl) (by kernel_rfl) (fun _ _ _ h => h) rfl ?_ hS ?_
                  rotate_left
                  · (intro w'; go_simp; (try with_reducible rfl))
                  (try simp only [Act.put, List.getElem_toArray, List.getElem_cons_zero, List.getElem_cons_succ, List.setIfInBounds_toArray, List.set_cons_zero, List.set_cons_succ])
                  refine anyH_pure 20 _ ?_ rfl (by kernel_rfl) (by kernel_rfl) (by kernel_rfl) (fun _ _ _ h => h) rfl ?_ hS ?_
                  rotate_left
                  · (intro w'; go_simp; (try with_reducible rfl))
                  (try simp only [Act.put, List.getElem_toArray, List.getElem_cons_zero, List.getElem_cons_succ, List.setIfInBounds_toArray, List.set_cons_zero, List.set_cons_succ])
                  refine anyH_pure 21 _ ?_ rfl (by kernel_rfl) (by kernel_rfl) (by kernel_rfl) (fun _ _ _ h => h) rfl ?_ hS ?_
                  rotate_left
                  · (intro w'; go_simp; (try with_reducible rfl))
                  (try simp only [Act.put, List.getElem_toArray, List.getElem_cons_zero, List.getElem_cons_succ, List.setIfInBounds_toArray, List.set_cons_zero, List.set_cons_succ])
                  refine anyH_if 22 _ ?_ rfl (by kernel_rfl) (by kernel_rfl) (by kernel_rfl) (fun _ _ _ h => h) rfl ?_ hS ?_
                  rotate_left
                  · (intro w' h; have c0 := (h m y HY.out); go_simp; (try with_reducible rfl))
                  (try simp only [Act.put, List.getElem_toArray, List.getElem_cons_zero, List.getElem_cons_succ, List.setIfInBounds_toArray, List.set_cons_zero, List.set_cons_succ])
                  have cZ := refat_any hP6.D (by rw [hP6.rel.length]; omega) z
                  rw [hA'.out] at cZ
                  refine anyH_callR 17 _ _ _ _ (by kernel_rfl) rfl rfl (by go_simp) (_) (cZ) ?_
                  rintro w7 hb7
                  have hS := hS.go hg6 hb7
                  have hP7 := hP6.go hb7
                  have hg7 := Nat.lt_of_lt_of_le hg6 hb7.size
                  refine ⟨hS, ?_⟩
                  (try simp only [Act.put, List.getElem_toArray, List.getElem_cons_zero, List.getElem_cons_succ, List.setIfInBounds_toArray, List.set_cons_zero, List.set_cons_succ])
                  have cY := refat_any hP7.D (by rw [hP7.rel.length]; omega) y
                  rw [hA.out] at cY
                  refine anyH_callR 23 _ _ _ _ (by kernel_rfl) rfl rfl (by go_simp) (_) (cY) ?_
                  rintro w8 hb8
                  have hS := hS.go hg7 hb8
                  have hP8 := hP7.go hb8
                  refine ⟨hS, ?_⟩
                  (try simp only [Act.put, List.getElem_toArray, List.getElem_cons_zero, List.getElem_cons_succ, List.setIfInBounds_toArray, List.set_cons_zero, List.set_cons_succ])
                  refine anyH_pure 24 _ (.bool false) rfl (by kernel_rfl) (by kernel_rfl) (by kernel_rfl) (fun _ _ _ h => h) rfl ?_ hS ?_
                  · (intro w'; go_simp; (try omega))
                  (try simp only [Act.put, List.getElem_toArray, List.getElem_cons_zero, List.getElem_cons_succ, List.setIfInBounds_toArray, List.set_cons_zero, List.set_cons_succ])
                  refine anyH_pure 25 _ ?_ rfl (by kernel_rfl) (by kernel_rfl) (by kernel_rfl) (fun _ _ _ h => h) rfl ?_ hS ?_
                  rotate_left
                  · (intro w'; go_simp; (try with_reducible rfl))
                  (try simp only [Act.put, List.getElem_toArray, List.getElem_cons_zero, List.getElem_cons_succ, List.setIfInBounds_toArray, List.set_cons_zero, List.set_cons_succ])
                  refine anyH_pure 26 _ ?_ rfl (by kernel_rfl) (by kernel_rfl) (by kernel_rfl) (fun _ _ _ h => h) rfl ?_ hS ?_
                  rotate_left
                  · (intro w'; go_simp; (try with_reducible rfl))
                  (try simp only [Act.put, List.getElem_toArray, List.getElem_cons_zero, List.getElem_cons_succ, List.setIfInBounds_toArray, List.set_cons_zero, List.set_cons_succ])
                  refine anyH_pure 27 _ ?_ rfl (by kernel_rfl) (by kernel_rfl) (by kernel_rfl) (fun _ _ _ h => h) rfl ?_ hS ?_
                  rotate_left
                  · (intro w'; go_simp; (try with_reducible rfl))
                  (try simp only [Act.put, List.getElem_toArray, List.getElem_cons_zero, List.getElem_cons_succ, List.setIfInBounds_toArray, List.set_cons_zero, List.set_cons_succ])
                  refine anyH_pure 28 _ ?_ rfl (by kernel_rfl) (by kernel_rfl) (by kernel_rfl) (fun _ _ _ h => h) rfl ?_ hS ?_
                  rotate_left
                  · (intro w'; go_simp; (try with_reducible rfl))
                  (try simp only [Act.put, List.getElem_toArray, List.getElem_cons_zero, List.getElem_cons_succ, List.setIfInBounds_toArray, List.set_cons_zero, List.set_cons_succ])
                  refine anyH_pure 29 _ ?_ rfl (by kernel_rfl) (by kernel_rfl) (by kernel_rfl) (fun _ _ _ h => h) rfl ?_ hS ?_
                  rotate_left
                  · (intro w'; go_simp; (try with_reducible rfl))
                  (try simp only [Act.put, List.getElem_toArray, List.getElem_cons_zero, List.getElem_cons_succ, List.setIfInBounds_toArray, List.set_cons_zero, List.set_cons_succ])
                  refine anyH_pure 30 _ ?_ rfl (by kernel_rfl) (by kernel_rfl) (by kernel_rfl) (fun _ _ _ h => h) rfl ?_ hS ?_
                  rotate_left
                  · (intro w'; go_simp; (try with_reducible rfl))
                  (try simp only [Act.put, List.getElem_toArray, List.getElem_cons_zero, List.getElem_cons_succ, List.setIfInBounds_toArray, List.set_cons_zero, List.set_cons_succ])
                  refine anyH_pure 31 _ ?_ rfl (by kernel_rfl) (by kernel_rfl) (by kernel_rfl) (fun _ _ _ h => h) rfl ?_ hS ?_
                  rotate_left
                  · (intro w'; go_simp; (try with_reducible rfl))
                  (try simp only [Act.put, List.getElem_toArray, List.getElem_cons_zero, List.getElem_cons_succ, List.setIfInBounds_toArray, List.set_cons_zero, List.set_cons_succ])
                  refine anyH_if 32 _ ?_ rfl (by kernel_rfl) (by kernel_rfl) (by kernel_rfl) (fun _ _ _ h => h) rfl ?_ hS ?_
                  rotate_left
                  · (intro w' h; have c0 := (h m y HY.out); go_simp; (try with_reducible rfl))
                  (try simp only [Act.put, List.getElem_toArray, List.getElem_cons_zero, List.getElem_cons_succ, List.setIfInBounds_toArray, List.set_cons_zero, List.set_cons_succ])
                  have cH := has_any hP8.T (by omega) y
                  rw [hhas] at cH
                  refine anyH_pure 34 _ ?_ rfl (by kernel_rfl) (by kernel_rfl) (by kernel_rfl) (fun _ _ _ h => h) rfl ?_ hS ?_
                  rotate_left
                  · (intro w'; go_simp; (try with_reducible rfl))
                  (try simp only [Act.put, List.getElem_toArray, List.getElem_cons_zero, List.getElem_cons_succ, List.setIfInBounds_toArray, List.set_cons_zero, List.set_cons_succ])
                  refine anyH_pure 35 _ ?_ rfl (by kernel_rfl) (by kernel_rfl) (by kernel_rfl) (fun _ _ _ h => h) rfl ?_ hS ?_
                  rotate_left
                  · (intro w'; go_simp; (try with_reducible rfl))
                  (try simp only [Act.put, List.getElem_toArray, List.getElem_cons_zero, List.getElem_cons_succ, List.setIfInBounds_toArray, List.set_cons_zero, List.set_cons_succ])
                  refine anyH_callR 33 _ _ _ _ (by kernel_rfl) rfl rfl (by go_simp) (_) (cH) ?_
                  rintro w9 rfl
                  refine ⟨hS, ?_⟩
                  (try simp only [Act.put, List.getElem_toArray, List.getElem_cons_zero, List.getElem_cons_succ, List.setIfInBounds_toArray, List.set_cons_zero, List.set_cons_succ])
                  refine anyH_pure 36 _ ?_ rfl (by kernel_rfl) (by kernel_rfl) (by kernel_rfl) (fun _ _ _ h => h) rfl ?_ hS ?_
                  rotate_left
                  · (intro w'; go_simp; (try with_reducible rfl))
                  (try simp only [Act.put, List.getElem_toArray, List.getElem_cons_zero, List.getElem_cons_succ, List.setIfInBounds_toArray, List.set_cons_zero, List.set_cons_succ])
                  refine anyH_pure 37 _ ?_ rfl (by kernel_rfl) (by kernel_rfl) (by kernel_rfl) (fun _ _ _ h => h) rfl ?_ hS ?_
                  rotate_left
                  · (intro w'; go_simp; (try with_reducible rfl))
                  (try simp only [Act.put, List.getElem_toArray, List.getElem_cons_zero, List.getElem_cons_succ, List.setIfInBounds_toArray, List.set_cons_zero, List.set_cons_succ])
                  refine wpAnyH_done (by kernel_rfl) ?_ _
                  have hbf : Below w5.heap.size w5 w8 := ((hbq.drew.trans (hb6.mono hbq.size)).trans (hb7.mono (Nat.le_trans hbq.size hb6.size))).trans (hb8.mono (Nat.le_trans hbq.size (Nat.le_trans hb6.size hb7.size)))
                  clear hS hP6 hP7 hP8 cA cH cZ cY hb6 hb7 hb8 hPq hbq hgq hg6 hg7
                  go_wp2_with fail
                  go_roundw
                  case rel => exact ⟨m + 1, by go_num, by omega, hbf⟩
                  case measure => simp [intOf]; omega
              · obtain rfl : m = (L).length := by omega
                go_wp2_with fail
                go_roundw
                case rel => exact ⟨k + 1, by go_num, by omega, by omega, _, _, _, _, _, hPq, hLB, hNB⟩
                case measure => simp [intOf]; omega
    · have hor : (n : Int) ≤ k ∨ ((k : Int) < n ∧ (80 : Int) ≤ k) := by omega
      clear hlt
      rcases hor with h1 | ⟨h1, h2⟩
      all_goals
        go_wp2_with fail
        refine (awake_any _).mono ?_
        rintro e w1 ⟨rfl, hb1⟩
        go_wp2_with fail
        go_ret
        exact ⟨rfl, hP.below.trans (hb1.mono hP.below.size)⟩
end Go.Proofs.Ytphppojckbnaoaa
