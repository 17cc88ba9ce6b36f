/- The walk of delta's each, over each of its three closures: whatever St says of the pieces that were handed on, it says it of all. -/
import Derived.Test.YtlnfolikociodaaRefMakeW
import Derived.Test.YtlnfolikociodaaRd
import Derived.Laws.DeepStrings4
import Derived.Laws.Strings3
namespace Go.Proofs.Ytlnfolikociodaa
open Go.RowKit
/-- A text's bytes. -/
def bl (d : ByteArray) : List (BitVec 8) := d.data.toList.map UInt8.toBitVec
theorem bl_length (d : ByteArray) : (bl d).length = d.size := by
  unfold bl
  rw [List.length_map, Array.length_toList]
  rfl
theorem str_bl (d : ByteArray) : str (bl d) = d := by
  apply ByteArray.ext
  simp [str, bl, Function.comp_def]
theorem bl_str (l : List (BitVec 8)) : bl (str l) = l := by
  simp [str, bl, Function.comp_def]
theorem bl_get (d : ByteArray) {i : Nat} (h : i < d.size) : (bl d)[i]? = some d[i].toBitVec := by
  have h' : i < d.data.toList.length := by rw [Array.length_toList]; exact h
  simp only [bl, List.getElem?_map]
  rw [List.getElem?_eq_getElem h']
  rfl
theorem bl_drop (d : ByteArray) {i : Nat} (h : i < d.size) : (bl d).drop i = d[i].toBitVec :: (bl d).drop (i + 1) := by
  have h' : i < (bl d).length := by rw [bl_length]; exact h
  rw [List.drop_eq_getElem_cons h']
  have := bl_get d h
  rw [List.getElem?_eq_getElem h', Option.some.injEq] at this
  rw [this]
theorem bl_extract (d : ByteArray) (a b : Nat) : d.extract a b = str (((bl d).drop a).take (b - a)) := by
  apply ByteArray.ext
  simp only [str, bl, ← List.map_drop, ← List.map_take, List.map_map]
  rw [show (UInt8.ofBitVec ∘ UInt8.toBitVec) = id by funext x; rfl, List.map_id]
  apply Array.ext'
  rw [ByteArray.data_extract]
  simp [List.extract_eq_take_drop]
theorem bl_sub (d : ByteArray) (a b : Nat) : bl (d.extract a b) = ((bl d).drop a).take (b - a) := by rw [bl_extract, bl_str]
theorem size_sub (d : ByteArray) {a b : Nat} (h : b ≤ d.size) : (d.extract a b).size = b - a := by
  rw [← bl_length, bl_sub, List.length_take, List.length_drop, bl_length]; omega
theorem run_ix (d : ByteArray) {i : Nat} (h : i + 1 < d.size) (W : World) : (Instr.index 9 (.string d) (.int .i64 ((i : Int) + 1))).run Try.prog W = .ok (.int .u8 (d[i+1].toNat : Int)) W := by
  have e : ((i : Int) + 1).toNat = i + 1 := by omega
  rw [run_index_string W 9 d .i64 _ Try.underlying9, dif_pos ⟨by omega, by omega⟩]
  simp only [e]
structure EachRel (St : List Piece → World → Prop) (ps0 : List Piece) (d : ByteArray) (wr : World) (i nx : Nat) : Prop where
  i_le : i ≤ d.size
  nx_le : nx ≤ 65
  st : ∃ ps, St (ps0 ++ ps) wr ∧ read 0 (bl d) = (ps ++ (read nx ((bl d).drop i)).1, (read nx ((bl d).drop i)).2)
structure EachPost (St : List Piece → World → Prop) (ps0 : List Piece) (d : ByteArray) (e : Ending) (w' : World) : Prop where
  e : e = .returned (.bool (read 0 (bl d)).2)
  st : ∃ ps, St (ps0 ++ ps) w' ∧ ((read 0 (bl d)).2 = true → ps = (read 0 (bl d)).1)
theorem bit_of_ret {a b : Bool} (h : a = b) : Ending.returned (.bool a) = .returned (.bool b) := by rw [h]
set_option maxRecDepth 100000 in
set_option maxHeartbeats 4000000 in
theorem each_22  (St : List Piece → World → Prop) (hdr : ∀ ps W n, St ps W → St ps (World.drewN W n))
    (hcl : ∀ ps (a : Nat) (s : ByteArray) W, St ps W → 1 ≤ s.size → a + s.size ≤ 64 → Calls Try.prog 22 #[.int .i64 a, .string s] W fun e w' => e = .returned (.tuple #[]) ∧ St (ps ++ [(a, bl s)]) w')
    (d : ByteArray) (hd : d.size ≤ 140737488351232) (ps0 : List Piece) (w : World) (h0 : St ps0 w) :
    Calls Try.prog 19 #[.string d, .func (.func 22) #[] #[]] w fun e w' => EachPost St ps0 d e w' := by
  replace h0 := hid h0
  replace hcl := hid hcl
  replace hdr := hid hdr
  go_enter Try.func19, Try.ntmps19
  go_wp2
  go_loopw [5, 6] (fun v i wr => ∃ n k : Nat, v = .int .i64 n ∧ i = .int .i64 k ∧ EachRel St ps0 d wr k n) (fun _ i _ => d.size - (intOf i).toNat)
  case atStart => exact ⟨0, 0, rfl, rfl, Nat.zero_le _, by omega, [], by simpa using h0.out, by simp⟩
  case round =>
    clear h0
    obtain ⟨nx, i, rfl, rfl, hi, hnx, ps, hs, hrd⟩ := hrel
    replace hrd := hid hrd
    replace hs := hid hs
    by_cases hlt : i < d.size
    · have hlt' := hlt
      by_cases h2 : i + 2 ≤ d.size
      · have hlt1 : i + 1 < d.size := by omega
        have h2' : (i : Int) + 2 ≤ d.size := by omega
        have hA : (d[i].toBitVec).toNat = d[i].toNat := rfl
        have hdr1 := hid ((bl_drop d hlt).trans (by rw [bl_drop d hlt1]))
        have a256 : d[i].toNat < 256 := by have := d[i].toBitVec.isLt; exact this
        have n256 : d[i+1].toNat < 256 := by have := d[i+1].toBitVec.isLt; exact this
        clear hA
        by_cases hbad : Bad nx d[i].toBitVec d[i+1].toBitVec ((bl d).drop (i + 2))
        · have hb2 : (d[i+1].toNat : Int) < 1 ∨ (1 ≤ (d[i+1].toNat : Int) ∧ ((d[i].toNat : Int) < nx ∨ ((nx : Int) ≤ d[i].toNat ∧ ((64 : Int) < (d[i].toNat : Int) + d[i+1].toNat ∨ ((d[i].toNat : Int) + d[i+1].toNat ≤ 64 ∧ (d.size : Int) < (i : Int) + 2 + d[i+1].toNat))))) := by
            unfold Bad at hbad
            rw [List.length_drop, bl_length] at hbad
            change d[i+1].toNat < 1 ∨ d[i].toNat < nx ∨ 64 < d[i].toNat + d[i+1].toNat ∨ d.size - (i + 2) < d[i+1].toNat at hbad
            omega
          have hrd2 := hid (hrd.out.trans (by rw [hdr1.out, read_bad hbad]))
          clear hbad hdr1
          rcases hb2 with h3 | ⟨h3, h4 | ⟨h4, h5 | ⟨h5, h6⟩⟩⟩
          all_goals
            go_wp2
            have q1 := run_ix d hlt1
            have q3 : IntKind.i64.wrap ((i : Int) + 1) = (i : Int) + 1 := IntWalk.i64_in _ (by omega)
            go_quiet (fail)
            clear q1 q3
            go_wp2
            go_ret
            exact ⟨bit_of_ret (by rw [hrd2.out]), ps, hdr.out _ _ _ hs.out, fun h => by rw [hrd2.out] at h; cases h⟩
        · have hg : 1 ≤ (d[i+1].toNat : Int) ∧ (nx : Int) ≤ d[i].toNat ∧ (d[i].toNat : Int) + d[i+1].toNat ≤ 64 ∧ (i : Int) + 2 + d[i+1].toNat ≤ d.size := by
            unfold Bad at hbad
            rw [List.length_drop, bl_length] at hbad
            change ¬ (d[i+1].toNat < 1 ∨ d[i].toNat < nx ∨ 64 < d[i].toNat + d[i+1].toNat ∨ d.size - (i + 2) < d[i+1].toNat) at hbad
            omega
          obtain ⟨h3, h4, h5, h6⟩ := hg
          have hrd2 := hid (hrd.out.trans (by rw [hdr1.out, read_good hbad]))
          clear hbad hdr1
          go_wp2
          have q1 := run_ix d hlt1
          have q3 : IntKind.i64.wrap ((i : Int) + 1) = (i : Int) + 1 := IntWalk.i64_in _ (by omega)
          go_quiet (fail)
          clear q1 q3
          go_wp2_with fail
          refine (hcl.out _ _ _ _ (hdr.out _ _ _ hs.out) (by rw [size_sub _ (by omega)]; omega) (by rw [size_sub _ (by omega)]; omega)).mono ?_
          rintro e w1 ⟨rfl, hs1⟩
          replace hs1 := hid hs1
          go_wp2
          go_roundw
          case rel => exact ⟨d[i].toNat + d[i+1].toNat + 1, i + (2 + d[i+1].toNat), by go_num, by go_num, by omega, by omega, ps ++ [(d[i].toNat, ((bl d).drop (i + 2)).take d[i+1].toNat)], by have h := hs1.out; rw [bl_sub] at h; simpa using h, by rw [hrd2.out]; simp [List.drop_drop, Nat.add_assoc]⟩
          case measure => simp [intOf]; omega
      · have h2' : (d.size : Int) < (i : Int) + 2 := by omega
        have hrd2 := hid (hrd.out.trans (by rw [bl_drop d hlt, List.drop_eq_nil_of_le (by rw [bl_length]; omega), read_one]))
        go_wp2
        go_ret
        exact ⟨bit_of_ret (by rw [hrd2.out]), ps, hs.out, fun h => by rw [hrd2.out] at h; cases h⟩
    · have hlt' : d.size ≤ i := by omega
      have hrd2 := hid (hrd.out.trans (by rw [List.drop_eq_nil_of_le (by rw [bl_length]; omega), read_nil]))
      go_wp2
      go_ret
      exact ⟨bit_of_ret (by rw [hrd2.out]), ps, hs.out, fun h => by rw [hrd2.out]; simp⟩
set_option maxRecDepth 100000 in
set_option maxHeartbeats 4000000 in
theorem each_20 (p : Addr) (St : List Piece → World → Prop) (hdr : ∀ ps W n, St ps W → St ps (World.drewN W n))
    (hcl : ∀ ps (a : Nat) (s : ByteArray) W, St ps W → 1 ≤ s.size → a + s.size ≤ 64 → Calls Try.prog 20 #[.int .i64 a, .string s, .pointer (some p)] W fun e w' => e = .returned (.tuple #[]) ∧ St (ps ++ [(a, bl s)]) w')
    (d : ByteArray) (hd : d.size ≤ 140737488351232) (ps0 : List Piece) (w : World) (h0 : St ps0 w) :
    Calls Try.prog 19 #[.string d, .func (.func 20) #[] #[.pointer (some p)]] w fun e w' => EachPost St ps0 d e w' := by
  replace h0 := hid h0
  replace hcl := hid hcl
  replace hdr := hid hdr
  go_enter Try.func19, Try.ntmps19
  go_wp2
  go_loopw [5, 6] (fun v i wr => ∃ n k : Nat, v = .int .i64 n ∧ i = .int .i64 k ∧ EachRel St ps0 d wr k n) (fun _ i _ => d.size - (intOf i).toNat)
  case atStart => exact ⟨0, 0, rfl, rfl, Nat.zero_le _, by omega, [], by simpa using h0.out, by simp⟩
  case round =>
    clear h0
    obtain ⟨nx, i, rfl, rfl, hi, hnx, ps, hs, hrd⟩ := hrel
    replace hrd := hid hrd
    replace hs := hid hs
    by_cases hlt : i < d.size
    · have hlt' := hlt
      by_cases h2 : i + 2 ≤ d.size
      · have hlt1 : i + 1 < d.size := by omega
        have h2' : (i : Int) + 2 ≤ d.size := by omega
        have hA : (d[i].toBitVec).toNat = d[i].toNat := rfl
        have hdr1 := hid ((bl_drop d hlt).trans (by rw [bl_drop d hlt1]))
        have a256 : d[i].toNat < 256 := by have := d[i].toBitVec.isLt; exact this
        have n256 : d[i+1].toNat < 256 := by have := d[i+1].toBitVec.isLt; exact this
        clear hA
        by_cases hbad : Bad nx d[i].toBitVec d[i+1].toBitVec ((bl d).drop (i + 2))
        · have hb2 : (d[i+1].toNat : Int) < 1 ∨ (1 ≤ (d[i+1].toNat : Int) ∧ ((d[i].toNat : Int) < nx ∨ ((nx : Int) ≤ d[i].toNat ∧ ((64 : Int) < (d[i].toNat : Int) + d[i+1].toNat ∨ ((d[i].toNat : Int) + d[i+1].toNat ≤ 64 ∧ (d.size : Int) < (i : Int) + 2 + d[i+1].toNat))))) := by
            unfold Bad at hbad
            rw [List.length_drop, bl_length] at hbad
            change d[i+1].toNat < 1 ∨ d[i].toNat < nx ∨ 64 < d[i].toNat + d[i+1].toNat ∨ d.size - (i + 2) < d[i+1].toNat at hbad
            omega
          have hrd2 := hid (hrd.out.trans (by rw [hdr1.out, read_bad hbad]))
          clear hbad hdr1
          rcases hb2 with h3 | ⟨h3, h4 | ⟨h4, h5 | ⟨h5, h6⟩⟩⟩
          all_goals
            go_wp2
            have q1 := run_ix d hlt1
            have q3 : IntKind.i64.wrap ((i : Int) + 1) = (i : Int) + 1 := IntWalk.i64_in _ (by omega)
            go_quiet (fail)
            clear q1 q3
            go_wp2
            go_ret
            exact ⟨bit_of_ret (by rw [hrd2.out]), ps, hdr.out _ _ _ hs.out, fun h => by rw [hrd2.out] at h; cases h⟩
        · have hg : 1 ≤ (d[i+1].toNat : Int) ∧ (nx : Int) ≤ d[i].toNat ∧ (d[i].toNat : Int) + d[i+1].toNat ≤ 64 ∧ (i : Int) + 2 + d[i+1].toNat ≤ d.size := by
            unfold Bad at hbad
            rw [List.length_drop, bl_length] at hbad
            change ¬ (d[i+1].toNat < 1 ∨ d[i].toNat < nx ∨ 64 < d[i].toNat + d[i+1].toNat ∨ d.size - (i + 2) < d[i+1].toNat) at hbad
            omega
          obtain ⟨h3, h4, h5, h6⟩ := hg
          have hrd2 := hid (hrd.out.trans (by rw [hdr1.out, read_good hbad]))
          clear hbad hdr1
          go_wp2
          have q1 := run_ix d hlt1
          have q3 : IntKind.i64.wrap ((i : Int) + 1) = (i : Int) + 1 := IntWalk.i64_in _ (by omega)
          go_quiet (fail)
          clear q1 q3
          go_wp2_with fail
          refine (hcl.out _ _ _ _ (hdr.out _ _ _ hs.out) (by rw [size_sub _ (by omega)]; omega) (by rw [size_sub _ (by omega)]; omega)).mono ?_
          rintro e w1 ⟨rfl, hs1⟩
          replace hs1 := hid hs1
          go_wp2
          go_roundw
          case rel => exact ⟨d[i].toNat + d[i+1].toNat + 1, i + (2 + d[i+1].toNat), by go_num, by go_num, by omega, by omega, ps ++ [(d[i].toNat, ((bl d).drop (i + 2)).take d[i+1].toNat)], by have h := hs1.out; rw [bl_sub] at h; simpa using h, by rw [hrd2.out]; simp [List.drop_drop, Nat.add_assoc]⟩
          case measure => simp [intOf]; omega
      · have h2' : (d.size : Int) < (i : Int) + 2 := by omega
        have hrd2 := hid (hrd.out.trans (by rw [bl_drop d hlt, List.drop_eq_nil_of_le (by rw [bl_length]; omega), read_one]))
        go_wp2
        go_ret
        exact ⟨bit_of_ret (by rw [hrd2.out]), ps, hs.out, fun h => by rw [hrd2.out] at h; cases h⟩
    · have hlt' : d.size ≤ i := by omega
      have hrd2 := hid (hrd.out.trans (by rw [List.drop_eq_nil_of_le (by rw [bl_length]; omega), read_nil]))
      go_wp2
      go_ret
      exact ⟨bit_of_ret (by rw [hrd2.out]), ps, hs.out, fun h => by rw [hrd2.out]; simp⟩
set_option maxRecDepth 100000 in
set_option maxHeartbeats 4000000 in
theorem each_23 (p q : Addr) (St : List Piece → World → Prop) (hdr : ∀ ps W n, St ps W → St ps (World.drewN W n))
    (hcl : ∀ ps (a : Nat) (s : ByteArray) W, St ps W → 1 ≤ s.size → a + s.size ≤ 64 → Calls Try.prog 23 #[.int .i64 a, .string s, .pointer (some p), .pointer (some q)] W fun e w' => e = .returned (.tuple #[]) ∧ St (ps ++ [(a, bl s)]) w')
    (d : ByteArray) (hd : d.size ≤ 140737488351232) (ps0 : List Piece) (w : World) (h0 : St ps0 w) :
    Calls Try.prog 19 #[.string d, .func (.func 23) #[] #[.pointer (some p), .pointer (some q)]] w fun e w' => EachPost St ps0 d e w' := by
  replace h0 := hid h0
  replace hcl := hid hcl
  replace hdr := hid hdr
  go_enter Try.func19, Try.ntmps19
  go_wp2
  go_loopw [5, 6] (fun v i wr => ∃ n k : Nat, v = .int .i64 n ∧ i = .int .i64 k ∧ EachRel St ps0 d wr k n) (fun _ i _ => d.size - (intOf i).toNat)
  case atStart => exact ⟨0, 0, rfl, rfl, Nat.zero_le _, by omega, [], by simpa using h0.out, by simp⟩
  case round =>
    clear h0
    obtain ⟨nx, i, rfl, rfl, hi, hnx, ps, hs, hrd⟩ := hrel
    replace hrd := hid hrd
    replace hs := hid hs
    by_cases hlt : i < d.size
    · have hlt' := hlt
      by_cases h2 : i + 2 ≤ d.size
      · have hlt1 : i + 1 < d.size := by omega
        have h2' : (i : Int) + 2 ≤ d.size := by omega
        have hA : (d[i].toBitVec).toNat = d[i].toNat := rfl
        have hdr1 := hid ((bl_drop d hlt).trans (by rw [bl_drop d hlt1]))
        have a256 : d[i].toNat < 256 := by have := d[i].toBitVec.isLt; exact this
        have n256 : d[i+1].toNat < 256 := by have := d[i+1].toBitVec.isLt; exact this
        clear hA
        by_cases hbad : Bad nx d[i].toBitVec d[i+1].toBitVec ((bl d).drop (i + 2))
        · have hb2 : (d[i+1].toNat : Int) < 1 ∨ (1 ≤ (d[i+1].toNat : Int) ∧ ((d[i].toNat : Int) < nx ∨ ((nx : Int) ≤ d[i].toNat ∧ ((64 : Int) < (d[i].toNat : Int) + d[i+1].toNat ∨ ((d[i].toNat : Int) + d[i+1].toNat ≤ 64 ∧ (d.size : Int) < (i : Int) + 2 + d[i+1].toNat))))) := by
            unfold Bad at hbad
            rw [List.length_drop, bl_length] at hbad
            change d[i+1].toNat < 1 ∨ d[i].toNat < nx ∨ 64 < d[i].toNat + d[i+1].toNat ∨ d.size - (i + 2) < d[i+1].toNat at hbad
            omega
          have hrd2 := hid (hrd.out.trans (by rw [hdr1.out, read_bad hbad]))
          clear hbad hdr1
          rcases hb2 with h3 | ⟨h3, h4 | ⟨h4, h5 | ⟨h5, h6⟩⟩⟩
          all_goals
            go_wp2
            have q1 := run_ix d hlt1
            have q3 : IntKind.i64.wrap ((i : Int) + 1) = (i : Int) + 1 := IntWalk.i64_in _ (by omega)
            go_quiet (fail)
            clear q1 q3
            go_wp2
            go_ret
            exact ⟨bit_of_ret (by rw [hrd2.out]), ps, hdr.out _ _ _ hs.out, fun h => by rw [hrd2.out] at h; cases h⟩
        · have hg : 1 ≤ (d[i+1].toNat : Int) ∧ (nx : Int) ≤ d[i].toNat ∧ (d[i].toNat : Int) + d[i+1].toNat ≤ 64 ∧ (i : Int) + 2 + d[i+1].toNat ≤ d.size := by
            unfold Bad at hbad
            rw [List.length_drop, bl_length] at hbad
            change ¬ (d[i+1].toNat < 1 ∨ d[i].toNat < nx ∨ 64 < d[i].toNat + d[i+1].toNat ∨ d.size - (i + 2) < d[i+1].toNat) at hbad
            omega
          obtain ⟨h3, h4, h5, h6⟩ := hg
          have hrd2 := hid (hrd.out.trans (by rw [hdr1.out, read_good hbad]))
          clear hbad hdr1
          go_wp2
          have q1 := run_ix d hlt1
          have q3 : IntKind.i64.wrap ((i : Int) + 1) = (i : Int) + 1 := IntWalk.i64_in _ (by omega)
          go_quiet (fail)
          clear q1 q3
          go_wp2_with fail
          refine (hcl.out _ _ _ _ (hdr.out _ _ _ hs.out) (by rw [size_sub _ (by omega)]; omega) (by rw [size_sub _ (by omega)]; omega)).mono ?_
          rintro e w1 ⟨rfl, hs1⟩
          replace hs1 := hid hs1
          go_wp2
          go_roundw
          case rel => exact ⟨d[i].toNat + d[i+1].toNat + 1, i + (2 + d[i+1].toNat), by go_num, by go_num, by omega, by omega, ps ++ [(d[i].toNat, ((bl d).drop (i + 2)).take d[i+1].toNat)], by have h := hs1.out; rw [bl_sub] at h; simpa using h, by rw [hrd2.out]; simp [List.drop_drop, Nat.add_assoc]⟩
          case measure => simp [intOf]; omega
      · have h2' : (d.size : Int) < (i : Int) + 2 := by omega
        have hrd2 := hid (hrd.out.trans (by rw [bl_drop d hlt, List.drop_eq_nil_of_le (by rw [bl_length]; omega), read_one]))
        go_wp2
        go_ret
        exact ⟨bit_of_ret (by rw [hrd2.out]), ps, hs.out, fun h => by rw [hrd2.out] at h; cases h⟩
    · have hlt' : d.size ≤ i := by omega
      have hrd2 := hid (hrd.out.trans (by rw [List.drop_eq_nil_of_le (by rw [bl_length]; omega), read_nil]))
      go_wp2
      go_ret
      exact ⟨bit_of_ret (by rw [hrd2.out]), ps, hs.out, fun h => by rw [hrd2.out]; simp⟩
end Go.Proofs.Ytlnfolikociodaa
