/- The laws' own test of names ('known'): it answers true. NameBack: the walk. -/
import Derived.Test.YtgppdndpnflkeaaDoorNl
namespace Go.Proofs.YtgppdndpnflkeaaDoor
open Go.RowKit Go.Rv

theorem k1 : ofPathL [47, 118, 97, 114, 47, 108, 111, 103] = ([118, 97, 114, 45, 108, 111, 103], 0) := by decide +kernel
theorem k2 : expandL [37, 112, 32, 111, 102, 32, 37, 105] [97, 64, 98, 46, 115, 101, 114, 118, 105, 99, 101] = ([97, 32, 111, 102, 32, 98], 0) := by decide +kernel
theorem k3 : pT [120, 46, 116, 105, 109, 101, 114] = ([120], [], false, 3) := by decide +kernel
theorem k4 : (partsO [46, 115, 101, 114, 118, 105, 99, 101]).isSome = false := by decide +kernel

theorem known_calls (w : World) : Calls Tryd.prog 8 #[] w fun e w' => e = .returned (.bool true) ∧ Below w.heap.size w w' := by
  have C1 : Hid (∀ W, Calls Tryd.prog 13 #[.string ⟨#[47, 118, 97, 114, 47, 108, 111, 103]⟩] W fun e w' => e = .returned (.tuple #[.string ⟨#[118, 97, 114, 45, 108, 111, 103]⟩, .int .i64 0]) ∧ Below W.heap.size W w') := Lib.hid fun W => by
    refine (ofPath_calls _ (by decide) W).mono fun e w' ⟨h1, h2⟩ => ⟨?_, h2⟩
    rw [h1, k1]; rfl
  have C2 : Hid (∀ W, Calls Tryd.prog 9 #[.string ⟨#[37, 112, 32, 111, 102, 32, 37, 105]⟩, .string ⟨#[97, 64, 98, 46, 115, 101, 114, 118, 105, 99, 101]⟩] W fun e w' => e = .returned (.tuple #[.string ⟨#[97, 32, 111, 102, 32, 98]⟩, .int .i64 0]) ∧ Below W.heap.size W w') := Lib.hid fun W => by
    refine (expand_calls _ _ (by decide) (by decide) W).mono fun e w' ⟨h1, h2⟩ => ⟨?_, h2⟩
    rw [h1, k2]; rfl
  have C3 : Hid (∀ W, Calls Tryd.prog 18 #[.string ⟨#[120, 46, 116, 105, 109, 101, 114]⟩] W fun e w' => e = .returned (.int .i64 3) ∧ Below W.heap.size W w') := Lib.hid fun W => by
    refine (kind_calls _ (by decide) W).mono fun e w' ⟨h1, h2⟩ => ⟨?_, h2⟩
    rw [h1, k3]; rfl
  have C4 : Hid (∀ W, Calls Tryd.prog 14 #[.string ⟨#[46, 115, 101, 114, 118, 105, 99, 101]⟩] W fun e w' => e = .returned (.bool false) ∧ Below W.heap.size W w') := Lib.hid fun W => by
    refine (is_calls _ (by decide) W).mono fun e w' ⟨h1, h2⟩ => ⟨?_, h2⟩
    rw [h1, k4]
  go_enter Tryd.func8, Tryd.ntmps8
  go_wp2_with fail
  refine (C1.out _).mono ?_
  rintro e w1 ⟨rfl, hb1⟩
  go_wp2_with fail
  refine (C2.out _).mono ?_
  rintro e w2 ⟨rfl, hb2⟩
  go_wp2_with fail
  refine (C3.out _).mono ?_
  rintro e w3 ⟨rfl, hb3⟩
  go_wp2_with fail
  refine (C4.out _).mono ?_
  rintro e w4 ⟨rfl, hb4⟩
  go_wp2_with fail
  go_ret
  exact ⟨rfl, ((hb1.trans (hb2.mono hb1.size)).trans (hb3.mono (Nat.le_trans hb1.size hb2.size))).trans (hb4.mono (Nat.le_trans hb1.size (Nat.le_trans hb2.size hb3.size)))⟩

theorem ofPath_err (l : List UInt8) : (∃ p, ofPathL l = (p, 0)) ∨ ofPathL l = ([], 41) := by
  unfold ofPathL
  split
  · exact .inr rfl
  · split
    · exact .inl ⟨_, rfl⟩
    · split
      · exact .inl ⟨_, rfl⟩
      · exact .inr rfl
theorem escape_at (s : ByteArray) (l : List UInt8) (h : s.data.toList = l) (hs : s.size ≤ 1000000) (w : World) : Calls Tryd.prog 11 #[.string s] w fun e w' => e = .returned (.string (mkS (escL l))) ∧ Below w.heap.size w w' := by
  subst h; exact escape_calls s hs w
theorem bstep {w w1 w2 : World} (h : Below w.heap.size w w1) (h2 : Below w1.heap.size w1 w2) : Below w.heap.size w w2 := h.trans (h2.mono h.size)
theorem back_walk (a b : ByteArray) (w : World) : Calls Tryd.prog 4 #[.string a, .string b] w fun e w' => e = .returned (.bool true) ∧ Below w.heap.size w w' := by
  by_cases ha : (100 : Int) < (a.size : Int)
  · go_enter Tryd.func4, Tryd.ntmps4
    go_wp2_with (go_at_call 8; refine (known_calls _).mono ?_; rintro e w1 ⟨rfl, hb1⟩)
    go_ret
    exact ⟨rfl, hb1⟩
  by_cases hb : (100 : Int) < (b.size : Int)
  · go_enter Tryd.func4, Tryd.ntmps4
    go_wp2_with (go_at_call 8; refine (known_calls _).mono ?_; rintro e w1 ⟨rfl, hb1⟩)
    go_ret
    exact ⟨rfl, hb1⟩
  have hl : a.data.toList.length ≤ 100 := by rw [← Lib.size_eq]; omega
  have hel : (escL a.data.toList).length ≤ 4 * a.data.toList.length := escN_len _ _
  have CA : Hid (∀ W, Calls Tryd.prog 11 #[.string a] W fun e w' => e = .returned (.string (mkS (escL a.data.toList))) ∧ Below W.heap.size W w') := Lib.hid fun W => escape_calls a (by omega) W
  have CB : Hid (∀ W, Calls Tryd.prog 11 #[.string b] W fun e w' => e = .returned (.string (mkS (escL b.data.toList))) ∧ Below W.heap.size W w') := Lib.hid fun W => escape_calls b (by omega) W
  have CU : Hid (∀ W, Calls Tryd.prog 12 #[.string (mkS (escL a.data.toList))] W fun e w' => e = .returned (.tuple #[.string a, .int .i64 0]) ∧ Below W.heap.size W w') := Lib.hid fun W => by
    have := unescape_calls (mkS (escL a.data.toList)) (by rw [size_mkS]; omega) W
    unfold UnPost at this
    rw [data_mkS, unescL_escL, mkS_data] at this
    exact this
  obtain ⟨⟨p, n⟩, hp⟩ : ∃ q, ofPathL a.data.toList = q := ⟨_, rfl⟩
  have CP : Hid (∀ W, Calls Tryd.prog 13 #[.string a] W fun e w' => e = .returned (.tuple #[.string (mkS p), .int .i64 n]) ∧ Below W.heap.size W w') := Lib.hid fun W => by
    have := ofPath_calls a (by omega) W
    unfold OfPost at this
    rw [hp] at this
    exact this
  have hx : ((mkS (escL a.data.toList)).toList == (mkS (escL b.data.toList)).toList) = (a.toList == b.toList) := by
    rw [Lib.toList_data, Lib.toList_data, Lib.toList_data, Lib.toList_data, data_mkS, data_mkS, Bool.eq_iff_iff]
    simp only [beq_iff_eq]
    exact escL_inj
  obtain ⟨A, hA⟩ : ∃ A, escL a.data.toList = A := ⟨_, rfl⟩
  obtain ⟨B, hB⟩ : ∃ B, escL b.data.toList = B := ⟨_, rfl⟩
  rw [hA] at CA CU hx
  rw [hB] at CB hx
  have hst : n = 0 → p ≠ [] ∧ ∀ x ∈ p, goodB x = true ∧ x ≠ 64 := fun h => ofPath_stem (by rw [hp, h])
  have hn : n = 0 ∨ n = 41 := by
    rcases ofPath_err a.data.toList with ⟨q, h⟩ | h
    · rw [hp] at h; cases h; exact .inl rfl
    · rw [hp] at h; cases h; exact .inr rfl
  have HST := Lib.hid hst
  have HX := Lib.hid hx
  clear hA hB hp hl hel hx hst
  rcases hab : (a.toList == b.toList) with _ | _
  all_goals
    have hxx := HX.out
    rw [hab] at hxx
    rcases hn with rfl | rfl
    · by_cases hpl : (50 : Int) < ((mkS p).size : Int)
      · go_enter Tryd.func4, Tryd.ntmps4
        go_wp2_with (go_at_call 8; refine (known_calls _).mono ?_; rintro e w1 ⟨rfl, hb1⟩)
        refine (CA.out _).mono ?_
        rintro e w2 ⟨rfl, hb2⟩
        go_wp2_with fail
        refine (CB.out _).mono ?_
        rintro e w3 ⟨rfl, hb3⟩
        go_wp2_with fail
        refine (CU.out _).mono ?_
        rintro e w4 ⟨rfl, hb4⟩
        go_wp2_with fail
        refine (CP.out _).mono ?_
        rintro e w5 ⟨rfl, hb5⟩
        go_wp2_with fail
        go_ret
        exact ⟨rfl, bstep (bstep (bstep (bstep hb1 hb2) hb3) hb4) hb5⟩
      · obtain ⟨h1, h2⟩ := HST.out rfl
        have hpl' : p.length ≤ 54 := by rw [size_mkS] at hpl; omega
        have hadd := add_str (a := mkS p) (b := ⟨#[46, 109, 111, 117, 110, 116]⟩) (by rw [size_mkS, show (⟨#[46, 109, 111, 117, 110, 116]⟩ : ByteArray).size = 6 from rfl]; omega)
        have hps : (mkS p ++ ⟨#[46, 109, 111, 117, 110, 116]⟩).size ≤ 1000000 := by rw [ByteArray.size_append, size_mkS, show (⟨#[46, 109, 111, 117, 110, 116]⟩ : ByteArray).size = 6 from rfl]; omega
        have hsum : ¬ 9223372036854775807 < (mkS p).size + 6 := by rw [size_mkS]; omega
        have CI : Hid (∀ W, Calls Tryd.prog 14 #[.string (mkS p ++ ⟨#[46, 109, 111, 117, 110, 116]⟩)] W fun e w' => e = .returned (.bool true) ∧ Below W.heap.size W w') := Lib.hid fun W => by
          have := is_calls (mkS p ++ ⟨#[46, 109, 111, 117, 110, 116]⟩) hps W
          rw [show (⟨#[46, 109, 111, 117, 110, 116]⟩ : ByteArray) = mkS mountE from rfl, mkS_append, data_mkS, name_mount h1 h2 hpl'] at this
          exact this
        have HPS := Lib.hid hps
        clear h1 h2 hpl' hps
        go_enter Tryd.func4, Tryd.ntmps4
        go_wp2_with (go_at_call 8; refine (known_calls _).mono ?_; rintro e w1 ⟨rfl, hb1⟩)
        refine (CA.out _).mono ?_
        rintro e w2 ⟨rfl, hb2⟩
        go_wp2_with fail
        refine (CB.out _).mono ?_
        rintro e w3 ⟨rfl, hb3⟩
        go_wp2_with fail
        refine (CU.out _).mono ?_
        rintro e w4 ⟨rfl, hb4⟩
        go_wp2_with fail
        refine (CP.out _).mono ?_
        rintro e w5 ⟨rfl, hb5⟩
        go_wp2_with fail
        refine (CI.out _).mono ?_
        rintro e w6 ⟨rfl, hb6⟩
        go_wp2_with fail
        go_ret
        exact ⟨rfl, bstep (bstep (bstep (bstep (bstep hb1 hb2) hb3) hb4) hb5) hb6⟩
    · go_enter Tryd.func4, Tryd.ntmps4
      go_wp2_with (go_at_call 8; refine (known_calls _).mono ?_; rintro e w1 ⟨rfl, hb1⟩)
      refine (CA.out _).mono ?_
      rintro e w2 ⟨rfl, hb2⟩
      go_wp2_with fail
      refine (CB.out _).mono ?_
      rintro e w3 ⟨rfl, hb3⟩
      go_wp2_with fail
      refine (CU.out _).mono ?_
      rintro e w4 ⟨rfl, hb4⟩
      go_wp2_with fail
      refine (CP.out _).mono ?_
      rintro e w5 ⟨rfl, hb5⟩
      go_wp2_with fail
      go_ret
      exact ⟨rfl, bstep (bstep (bstep (bstep hb1 hb2) hb3) hb4) hb5⟩
end Go.Proofs.YtgppdndpnflkeaaDoor
