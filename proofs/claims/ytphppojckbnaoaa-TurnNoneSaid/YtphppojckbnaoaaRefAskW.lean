/- The walks of the document's Ask and Leave. -/
import Derived.Test.YtphppojckbnaoaaRefW
namespace Go.Proofs.Ytphppojckbnaoaa
open Go.RowKit
set_option linter.unusedSimpArgs false
set_option linter.unusedVariables false
/-- The document's turn, its line still the old one, the number turned. -/
theorem RS.setN {B : Nat} {w : World} {t : Nat} {v : Value} {R : List (Int × Int)} {N : Int} (h : RS B w t v R N) (M : Int) : RS B (w.setCell ⟨t, 1, none⟩ (.int .i64 M)) t v R M ∧ Fr (foot t v) w (w.setCell ⟨t, 1, none⟩ (.int .i64 M)) := by
  refine ⟨⟨?_, ?_, h.ne, h.base⟩, (Fr.refl _ _).setCell _ _ fun _ => .inl rfl⟩
  · rw [h.blk.setCell]
    exact h.blk.setRow _
  · exact ownsRow_setCell_other h.own (a := ⟨t, 1, none⟩) h.ne _
set_option maxRecDepth 100000 in
set_option maxHeartbeats 2000000 in
theorem refask_any {B : Nat} {w : World} {t : Nat} {v : Value} {R : List (Int × Int)} {N : Int} (h : RS B w t v R N) (hl : R.length ≤ 900) (hN : 0 ≤ N ∧ N ≤ 1000) (x : Int) :
    Calls Try.prog 10 #[.pointer (some ⟨t, 0, none⟩), .int .i64 x] w fun e w' => e = .returned (.bool (P.rhas (P.rask R N x) x)) ∧ ∃ v', RS B w' t v' (P.rask R N x) (P.raskN R N x) ∧ Stp t v v' w w' := by
  obtain ⟨i42, hi42, hz0, hz1, hz2⟩ := info_parts info42
  by_cases hx : P.at' R x = 0
  · have HX := Lib.hid hx
    rw [P.rask, P.raskN, if_pos hx, if_pos hx]
    clear hx
    obtain ⟨n0, n1⟩ := hN
    go_enter Try.func10, Try.ntmps10
    go_wp2_with fail
    refine (refat_any h (by omega) x).mono ?_
    rintro e w1 ⟨rfl, hb⟩
    rw [HX.out]
    have h1 := h.go hb
    have c0 : w1.cell? ⟨t, 1, none⟩ = some (.int .i64 N) := by rw [h1.blk.cell]; rfl
    have f0 := h1.blk.free 1
    obtain ⟨h2, k2⟩ := h1.setN (N + 1)
    have k2' : Fr (foot t v) w (w1.setCell ⟨t, 1, none⟩ (.int .i64 (N + 1))) := (Fr.of_below hb (foot t v)).trans k2 fun _ _ h => h
    go_wp2_with fail
    change (Code.region _ _ _).wp _ _ _ (w1.setCell ⟨t, 1, none⟩ (.int .i64 (N + 1)))
    generalize w1.setCell ⟨t, 1, none⟩ (.int .i64 (N + 1)) = w2 at *
    clear k2 h1 c0 f0
    refine wp_region_K (k := 15) (S := (fun w' => RS B w' t v R (N + 1))) (by kernel_rfl) ?_
    change wpAnyK _ _ _ _ _ _ _ _ _ w2.drew
    (try simp only [Act.put])
    have hS : RS B w2.drew t v R (N + 1) := ⟨h2.blk, h2.own, h2.ne, h2.base⟩
    refine anyK_pure 0 _ ?_ rfl (by kernel_rfl) (by kernel_rfl) (by kernel_rfl) (fun _ _ _ h => h) (by decide) rfl ?_ hS ?_
    rotate_left
    · (intro w'; go_simp; (try with_reducible rfl))
    (try simp only [Act.put, List.getElem_toArray, List.getElem_cons_zero, List.setIfInBounds_toArray, List.set_cons_zero, List.set_cons_succ])
    refine anyK_pure 1 _ ?_ rfl (by kernel_rfl) (by kernel_rfl) (by kernel_rfl) (fun _ _ _ h => h) (by decide) rfl ?_ hS ?_
    rotate_left
    · (intro w'; go_simp; (try with_reducible rfl))
    (try simp only [Act.put, List.getElem_toArray, List.getElem_cons_zero, List.getElem_cons_succ, List.setIfInBounds_toArray, List.set_cons_zero, List.set_cons_succ])
    refine anyK_pure 2 _ ?_ rfl (by kernel_rfl) (by kernel_rfl) (by kernel_rfl) (fun _ _ _ h => h) (by decide) rfl ?_ hS ?_
    rotate_left
    · (intro w'; go_simp; (try with_reducible rfl))
    (try simp only [Act.put, List.getElem_toArray, List.getElem_cons_zero, List.getElem_cons_succ, List.setIfInBounds_toArray, List.set_cons_zero, List.set_cons_succ])
    refine anyK_pure 3 _ ?_ rfl (by kernel_rfl) (by kernel_rfl) (by kernel_rfl) (fun _ _ _ h => h) (by decide) rfl ?_ hS ?_
    rotate_left
    · (intro w'; go_simp; (try with_reducible rfl))
    (try simp only [Act.put, List.getElem_toArray, List.getElem_cons_zero, List.getElem_cons_succ, List.setIfInBounds_toArray, List.set_cons_zero, List.set_cons_succ])
    refine anyK_pure 4 _ ?_ rfl (by kernel_rfl) (by kernel_rfl) (by kernel_rfl) (fun _ _ _ h => h) (by decide) rfl ?_ hS ?_
    rotate_left
    · (intro w'; go_simp; (try with_reducible rfl))
    (try simp only [Act.put, List.getElem_toArray, List.getElem_cons_zero, List.getElem_cons_succ, List.setIfInBounds_toArray, List.set_cons_zero, List.set_cons_succ])
    refine anyK_if 5 _ ?_ rfl (by kernel_rfl) (by kernel_rfl) (by kernel_rfl) (fun _ _ _ h => h) (by decide) (by kernel_rfl) (by kernel_rfl) rfl ?_ hS ?_
    rotate_left
    · (intro w' h; have c0 := h.blk.cell 1; go_simp; (try with_reducible rfl))
    (try simp only [Act.put, List.getElem_toArray, List.getElem_cons_zero, List.getElem_cons_succ, List.setIfInBounds_toArray, List.set_cons_zero, List.set_cons_succ])
    refine anyK_pure 6 _ ?_ rfl (by kernel_rfl) (by kernel_rfl) (by kernel_rfl) (fun _ _ _ h => h) (by decide) rfl ?_ hS ?_
    rotate_left
    · (intro w'; go_simp; (try with_reducible rfl))
    (try simp only [Act.put, List.getElem_toArray, List.getElem_cons_zero, List.getElem_cons_succ, List.setIfInBounds_toArray, List.set_cons_zero, List.set_cons_succ])
    refine anyK_pure 8 _ ?_ rfl (by kernel_rfl) (by kernel_rfl) (by kernel_rfl) (fun _ _ _ h => h) (by decide) rfl ?_ hS ?_
    rotate_left
    · (intro w'; go_simp; (try with_reducible rfl))
    (try simp only [Act.put, List.getElem_toArray, List.getElem_cons_zero, List.getElem_cons_succ, List.setIfInBounds_toArray, List.set_cons_zero, List.set_cons_succ])
    refine anyK_pure 9 _ ?_ rfl (by kernel_rfl) (by kernel_rfl) (by kernel_rfl) (fun _ _ _ h => h) (by decide) rfl ?_ hS ?_
    rotate_left
    · (intro w'; go_simp; (try with_reducible rfl))
    (try simp only [Act.put, List.getElem_toArray, List.getElem_cons_zero, List.getElem_cons_succ, List.setIfInBounds_toArray, List.set_cons_zero, List.set_cons_succ])
    refine anyK_pure 10 _ ?_ rfl (by kernel_rfl) (by kernel_rfl) (by kernel_rfl) (fun _ _ _ h => h) (by decide) rfl ?_ hS ?_
    rotate_left
    · (intro w'; go_simp; (try with_reducible rfl))
    (try simp only [Act.put, List.getElem_toArray, List.getElem_cons_zero, List.getElem_cons_succ, List.setIfInBounds_toArray, List.set_cons_zero, List.set_cons_succ])
    refine anyK_if 11 _ ?_ rfl (by kernel_rfl) (by kernel_rfl) (by kernel_rfl) (fun _ _ _ h => h) (by decide) (by kernel_rfl) (by kernel_rfl) rfl ?_ hS ?_
    rotate_left
    · (intro w' h; have c0 := h.blk.cell 0; go_simp; (try with_reducible rfl))
    (try simp only [Act.put, List.getElem_toArray, List.getElem_cons_zero, List.getElem_cons_succ, List.setIfInBounds_toArray, List.set_cons_zero, List.set_cons_succ])
    refine anyK_one 7 _ (by kernel_rfl) rfl rfl (wp_buildSlice 32 42 1 _ rfl #[.int .i64 x, .int .i64 (N + 1)] i42 _ Try.underlying32 hi42 hz0 (by rw [hz1]; decide) (by rw [hz1]; decide) ?c1 ?_)
    case c1 => (simp only [hz1]; go_simp)
    have hS1 : RS B (w2.drew.alloc (.cells #[.int .i64 x, .int .i64 (N + 1)] 42)) t v R (N + 1) := h2.fr (((Fr.refl (fun _ => False) w2).drew).alloc _) fun _ _ h => h
    refine ⟨hS1, ?_⟩
    (try simp only [Act.put, List.getElem_toArray, List.getElem_cons_zero, List.getElem_cons_succ, List.setIfInBounds_toArray, List.set_cons_zero, List.set_cons_succ])
    have own1 : (w2.drew.alloc (.cells #[.int .i64 x, .int .i64 (N + 1)] 42)).ownsRow B 42 2 (.slice (some ⟨w2.drew.heap.size, 0, none⟩) 1 1) 1 #[.int .i64 x, .int .i64 (N + 1)].toList :=
      World.ownsRow_lit _ _ 1 (Nat.le_of_lt (Nat.lt_of_le_of_lt h2.base h2.blk.lt)) (by unfold maxLen; omega) rfl
    refine anyK_one 12 _ (by kernel_rfl) rfl rfl (wp_append_src _ _ 32 rfl B 42 i42 _ 2 16 Try.underlying32 hi42 hz0 hz1 hz2 rfl (by decide) _ 1 _ rfl own1 v R.length (flat R) rfl (SrcAt.own hS1.own) ?_ (flat_one _) ?_ ?_ ?_ ?_)
    · exact flat_length R
    · unfold maxLen; omega
    · omega
    · have := h2.base; have := hS1.blk.lt; omega
    intro v' w3 own3 gr3 _ hloc
    have ht2 := h2.blk.lt
    have hd : w2.drew.heap.size = w2.heap.size := rfl
    have n3 : ∀ b, v'.ownBlock = some b → w2.heap.size ≤ b := fun b hb => by
      rcases hloc with e | e
      · rw [e] at hb; have hb' : w2.drew.heap.size = b := Option.some.inj hb; omega
      · rw [e] at hb; have hb' := Option.some.inj hb; simp at hb'; omega
    have k3 : Fr (fun _ => False) w2 w3 := (((Fr.refl (fun _ => False) w2).drew).alloc _).grown gr3 fun k hk hk2 => by have hk3 : w2.drew.heap.size = k := Option.some.inj hk2; omega
    have hS3 : RS B w3 t v R (N + 1) := h2.fr k3 fun _ _ h => h
    refine ⟨hS3, ?_⟩
    (try simp only [Act.put, List.getElem_toArray, List.getElem_cons_zero, List.getElem_cons_succ, List.setIfInBounds_toArray, List.set_cons_zero, List.set_cons_succ])
    have hS := hS3
    refine anyK_pure 13 _ ?_ rfl (by kernel_rfl) (by kernel_rfl) (by kernel_rfl) (fun _ _ _ h => h) (by decide) rfl ?_ hS ?_
    rotate_left
    · (intro w'; go_simp; (try with_reducible rfl))
    (try simp only [Act.put, List.getElem_toArray, List.getElem_cons_zero, List.getElem_cons_succ, List.setIfInBounds_toArray, List.set_cons_zero, List.set_cons_succ])
    refine anyK_pure 14 _ ?_ rfl (by kernel_rfl) (by kernel_rfl) (by kernel_rfl) (fun _ _ _ h => h) (by decide) rfl ?_ hS ?_
    rotate_left
    · (intro w'; go_simp; (try with_reducible rfl))
    (try simp only [Act.put, List.getElem_toArray, List.getElem_cons_zero, List.getElem_cons_succ, List.setIfInBounds_toArray, List.set_cons_zero, List.set_cons_succ])
    have hne3 : v'.ownBlock ≠ some t := fun e => by have := n3 t e; omega
    have hfin : RS B (w3.setCell ⟨t, 0, none⟩ v') t v' ((x, N + 1) :: R) (N + 1) := by
      refine ⟨?_, ?_, hne3, h.base⟩
      · rw [hS3.blk.setCell]
        exact hS3.blk.setRow _
      · have := ownsRow_setCell_other own3 (a := ⟨t, 0, none⟩) hne3 v'
        rw [show ((x, N + 1) :: R).length = 1 + R.length by simp; omega]
        exact this
    have hstp : Stp t v v' w (w3.setCell ⟨t, 0, none⟩ v') := ⟨(k2'.trans k3 fun _ _ h => h.elim).setCell _ _ fun _ => .inl rfl, .inr fun b hb => by have := n3 b hb; have := k2'.size; omega⟩
    refine anyK_last _ (by kernel_rfl) rfl (by decide) rfl (wp_store_one 32 _ _ rfl ⟨t, 0, none⟩ _ v' rfl rfl size32 (own_one own3) (hS3.blk.cell 0) (hS3.blk.free 0) ?_)
    refine anyK_done (by kernel_rfl) ?_ _
    generalize w3.setCell ⟨t, 0, none⟩ v' = w4 at *
    go_wp2_with fail
    refine (refhas_any hfin (by simp; omega) x).mono ?_
    rintro e w5 ⟨rfl, hb5⟩
    go_wp2_with fail
    go_ret
    exact ⟨rfl, v', hfin.go hb5, ⟨hstp.fr.trans (Fr.of_below hb5 fun _ => False) fun _ _ h => h.elim, hstp.new⟩⟩
  · have HX := Lib.hid hx
    rw [P.rask, P.raskN, if_neg hx, if_neg hx]
    obtain ⟨A, hA⟩ : ∃ A, P.at' R x = A := ⟨_, rfl⟩
    rw [hA] at hx
    have hb0 : (A == 0) = false := by simp [hx]
    have HA := Lib.hid hA
    clear hA hx
    go_enter Try.func10, Try.ntmps10
    go_wp2_with fail
    refine (refat_any h (by omega) x).mono ?_
    rintro e w1 ⟨rfl, hb⟩
    rw [HA.out]
    go_wp2_with fail
    refine (refhas_any (h.go hb) (by omega) x).mono ?_
    rintro e w2 ⟨rfl, hb2⟩
    go_wp2_with fail
    go_ret
    exact ⟨rfl, v, (h.go hb).go hb2, ⟨(Fr.of_below hb _).trans (Fr.of_below hb2 fun _ => False) fun _ _ h => h.elim, .inl rfl⟩⟩

set_option maxRecDepth 100000 in
set_option maxHeartbeats 2000000 in
theorem refleave_any {B : Nat} {w : World} {t : Nat} {v : Value} {R : List (Int × Int)} {N : Int} (h : RS B w t v R N) (hl : R.length ≤ 900) (x : Int) :
    Calls Try.prog 12 #[.pointer (some ⟨t, 0, none⟩), .int .i64 x] w fun e w' => e = .returned (.bool (decide ((P.rleave R x).length < R.length))) ∧ ∃ v', RS B w' t v' (P.rleave R x) N ∧ Stp t v v' w w' := by
  obtain ⟨i42, hi42, hz0, hz1, hz2⟩ := info_parts info42
  have c0 : w.cell? ⟨t, 0, none⟩ = some v := by rw [h.blk.cell]; rfl
  have f0 := h.blk.free 0
  rcases own_cases_n h.own with ⟨rfl, h0, h1⟩ | ⟨g, cap, rfl, hcap, hm, hg, hlt, hc, _⟩
  · obtain rfl : R = [] := List.eq_nil_of_length_eq_zero h0
    go_enter Try.func12, Try.ntmps12
    go_wp2
    refine wp_loop_rounds 1 ?_
    rw [rounds_succ]
    go_wp2
    go_ret
    obtain ⟨h2, k2⟩ : RS B (w.setCell ⟨t, 0, none⟩ (.slice none 0 0)) t (.slice none 0 0) [] N ∧ True := ⟨⟨by rw [h.blk.setCell]; exact h.blk.setRow _, World.ownsRow_nil _ _ _ _, h.ne, h.base⟩, trivial⟩
    exact ⟨rfl, _, h2, ⟨(Fr.refl _ _).setCell _ _ fun _ => .inl rfl, .inl rfl⟩⟩
  · have HC := Lib.hid hc
    clear hc c0 f0
    have ht := h.blk.lt
    have hB : B ≤ w.heap.size := Nat.le_of_lt (Nat.lt_of_le_of_lt h.base h.blk.lt)
    go_enter Try.func12, Try.ntmps12
    have c0 : w.cell? ⟨t, 0, none⟩ = some (.slice (some ⟨g, 0, none⟩) R.length cap) := by rw [h.blk.cell]; rfl
    go_wp2
    go_loopw [14, 5] (fun i u wr => ∃ k : Nat, i = .int .i64 k ∧ k ≤ R.length ∧ wr.ownsRow w.heap.size 42 2 u (P.rleave (R.take k) x).length (flat (P.rleave (R.take k) x)) ∧ Below w.heap.size w wr) (fun i _ _ => R.length - (intOf i).toNat)
    case atStart => exact ⟨0, rfl, by omega, World.ownsRow_nil _ _ _ _, Below.refl _ _⟩
    case round =>
      clear c0
      obtain ⟨k, rfl, hk, hown, hb⟩ := hrel
      by_cases hlt' : k < R.length
      · obtain ⟨p, hp⟩ : ∃ p, R[k]? = some p := ⟨_, List.getElem?_eq_getElem hlt'⟩
        have c1 : wr.cell? ⟨g, k * 2, none⟩ = some (.int .i64 p.1) := by rw [hb.cell hlt]; exact (HC.out (k * 2) (by omega)).trans (flat_get hp).1
        have c2 : wr.cell? ⟨g, k * 2 + 1, none⟩ = some (.int .i64 p.2) := by rw [hb.cell hlt]; exact (HC.out (k * 2 + 1) (by omega)).trans (flat_get hp).2
        have hts : R.take (k + 1) = R.take k ++ [p] := by rw [List.take_add_one, hp]; rfl
        have hln : (P.rleave (R.take k) x).length ≤ k := Nat.le_trans (List.length_filter_le _ _) (by simp; omega)
        by_cases hx : p.1 = x
        · have hbx : (p.1 != x) = false := by simp [hx]
          have HT : Hid (P.rleave (R.take (k + 1)) x = P.rleave (R.take k) x) := by rw [hts]; unfold Hid; simp [P.rleave, hx]
          clear hx hts hp
          go_wp2
          go_roundw
          case rel => exact ⟨k + 1, by go_num, by omega, by rw [HT.out]; exact hown.alloc _, hb.alloc hb.size _⟩
          case measure => simp [intOf]; omega
        · have hbx : (p.1 != x) = true := by simp [hx]
          have HT : Hid (P.rleave (R.take (k + 1)) x = P.rleave (R.take k) x ++ [p]) := by rw [hts]; unfold Hid; simp [P.rleave, hx]
          clear hx hts hp
          go_wp2_with (at_builtin; refine wpList_append_src rfl (.tmp 22) (.tmp 24) 32 rfl w.heap.size 42 i42 _ 2 16 Try.underlying32 hi42 hz0 hz1 hz2 rfl (by decide) _ _ _ rfl ((hown.alloc _).alloc _) _ 1 #[.int .i64 p.1, .int .i64 p.2].toList rfl ?c0 rfl ?c1 ?c2 ?c3 ?c4 ?_)
          case c0 => exact SrcAt.lit (wr.alloc _) _ _ _ _ _ (by simp)
          case c1 => exact ⟨rfl, rfl⟩
          case c2 => unfold maxLen; omega
          case c3 => omega
          case c4 => have := hb.size; simp; omega
          intro v' w1 hown' hgrow _ _
          have hb' : Below w.heap.size w w1 := ((hb.alloc hb.size _).alloc (by have := hb.size; simp; omega) _).grown hgrow (by have := hb.size; simp; omega) fun k hk => (hown.lt k hk).1
          replace hown' : w1.ownsRow w.heap.size 42 2 v' (P.rleave (R.take (k + 1)) x).length (flat (P.rleave (R.take (k + 1)) x)) := by
            rw [HT.out, flat_append, List.length_append]; exact hown'
          clear hgrow hown hb c1 c2
          go_wp2
          go_roundw
          case rel => exact ⟨k + 1, by go_num, by omega, hown', hb'⟩
          case measure => simp [intOf]; omega
      · obtain rfl : k = R.length := by omega
        rw [List.take_length] at hown
        have c0 : wr.cell? ⟨t, 0, none⟩ = some (.slice (some ⟨g, 0, none⟩) R.length cap) := by rw [hb.cell ht, h.blk.cell]; rfl
        have f0 : wr.frozen? ⟨t, 0, none⟩ = false := by rw [hb.frozen ht, h.blk.free]
        obtain ⟨ao, cc, hu⟩ := own_slice hown
        subst hu
        go_wp2
        go_ret
        have hne : (Value.slice ao (P.rleave R x).length cc).ownBlock ≠ some t := fun e => by have := (hown.lt t e).1; omega
        have hS : RS B wr t (.slice (some ⟨g, 0, none⟩) R.length cap) R N := h.go hb
        refine ⟨ret_bool ?_, _, ⟨?_, ?_, hne, h.base⟩, ⟨(Fr.of_below hb _).setCell _ _ fun _ => .inl rfl, .inr fun b hb' => (hown.lt b hb').1⟩⟩
        · simp
        · rw [hS.blk.setCell]
          exact hS.blk.setRow _
        · have := ownsRow_setCell_other hown (a := ⟨t, 0, none⟩) hne (Value.slice ao (P.rleave R x).length cc)
          exact ⟨this.1, this.2.imp id fun ⟨g, cap, cur, h1, h2, h3⟩ => ⟨g, cap, cur, h1, Nat.le_trans hB h2, h3⟩⟩
end Go.Proofs.Ytphppojckbnaoaa
