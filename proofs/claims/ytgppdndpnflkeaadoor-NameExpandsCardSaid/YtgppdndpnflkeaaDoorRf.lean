/- Contracts of the reference: With. -/
import Derived.Test.YtgppdndpnflkeaaDoorRe
namespace Go.Proofs.YtgppdndpnflkeaaDoor
open Go.RowKit Go.Rv

/-- What a template with an instance is, told as the reference does. -/
theorem with_same (l inst : List UInt8) : withL l inst = if (pT l).2.2.1 = false ∨ (pT l).2.1 ≠ [] then ([], 40)
    else if (partsO ((pT l).1 ++ 64 :: (inst ++ endingL l))).isSome = false then ([], 40) else ((pT l).1 ++ 64 :: (inst ++ endingL l), 0) := by
  obtain ⟨h1, h2, h3⟩ := kind_same l
  unfold withL
  by_cases hf : (pT l).2.2.1 = false ∨ (pT l).2.1 ≠ []
  · rw [if_pos hf, if_pos hf]
  · rw [if_neg hf, if_neg hf]
    have hf1 : (pT l).2.2.1 = true := by
      cases h : (pT l).2.2.1 with
      | true => rfl
      | false => exact absurd (.inl h) hf
    obtain ⟨g1, _, _⟩ := pT_at hf1
    have hk := h2.2 g1
    obtain ⟨_, h5, h6, h7, _⟩ := h3 hk
    have he : endingL l = tailL l := by rw [endingL, if_neg hk]
    rw [he]
    obtain ⟨k, hkk⟩ : ∃ k, kindL l = k + 1 := ⟨kindL l - 1, by omega⟩
    rw [hkk, Nat.add_sub_cancel] at h6
    have hk6 : k < 6 := by omega
    obtain ⟨r, e1, e2, e3, _⟩ := end_shape k hk6
    have hout : (pT l).1 ++ 64 :: (inst ++ tailL l) = ((pT l).1 ++ 64 :: inst) ++ tailL l := by simp
    have hd : dotO ((pT l).1 ++ 64 :: (inst ++ tailL l)) = some ((pT l).1 ++ 64 :: inst, tailL l) := by
      rw [hout, h6, e1]; exact dotO_at _ _ e2
    have hc := cutL_at (pT l).1 inst h5
    cases hs : partsO ((pT l).1 ++ 64 :: (inst ++ tailL l)) with
    | none => rw [if_pos (.inl rfl)]; rfl
    | some q =>
      have hq := hs
      unfold partsO at hq
      rw [hd] at hq
      dsimp only at hq
      split at hq
      · cases hq
      · rw [Parted.of_def, hc, h6, e3] at hq
        dsimp only at hq
        rw [if_neg (by omega)] at hq
        have hq2 : q = ((pT l).1, inst, true, k + 1) := by
          split at hq
          · cases hq
          · split at hq
            · cases hq
            · split at hq
              · cases hq
              · exact (Option.some.inj hq).symm
        have hp : pT ((pT l).1 ++ 64 :: (inst ++ tailL l)) = q := by rw [pT, hs]; rfl
        rw [hp, hq2, if_neg, if_neg (by simp)]
        rw [← h1, hkk]; simp
theorem withR_calls (s t : ByteArray) (hs : s.size ≤ 1000000) (ht : t.size ≤ 900000) (w : World) : Calls Tryd.prog 26 #[.string s, .string t] w (WithPost s t w) := by
  have hW := with_same s.data.toList t.data.toList
  obtain ⟨_, h2, _⟩ := kind_same s.data.toList
  obtain ⟨⟨p, i, f, k⟩, hp⟩ : ∃ q, pT s.data.toList = q := ⟨_, rfl⟩
  rw [hp] at hW
  dsimp only at hW
  have CI : Hid (∀ W, Calls Tryd.prog 16 #[.string s] W fun e w' => e = .returned (.tuple #[.string (mkS i), .bool f]) ∧ Below W.heap.size W w') := Lib.hid fun W => by
    have := instanceR_calls s hs W
    rw [hp] at this; exact this
  have CP : Hid (∀ W, Calls Tryd.prog 21 #[.string s] W fun e w' => e = .returned (.string (mkS p)) ∧ Below W.heap.size W w') := Lib.hid fun W => by
    have := prefixR_calls s hs W
    rw [hp] at this; exact this
  have CE : Hid (∀ W, Calls Tryd.prog 44 #[.string s] W fun e w' => e = .returned (.string (mkS (endingL s.data.toList))) ∧ Below W.heap.size W w') := Lib.hid fun W => endingR_calls s hs W
  have HW := Lib.hid hW
  rcases f with _ | _
  · have E := Lib.hid (HW.out.trans (if_pos (.inl rfl)))
    clear h2 hp hW
    go_enter Tryd.func26, Tryd.ntmps26
    go_wp2_with (go_at_call 16; refine (CI.out _).mono ?_; rintro e w1 ⟨rfl, hb1⟩)
    go_ret2
    exact with_bad E.out rfl hb1
  by_cases hi : i = []
  · subst hi
    obtain ⟨g1, _, g3⟩ := pT_at (l := s.data.toList) (by rw [hp])
    have e1 : endingL s.data.toList = tailL s.data.toList := by rw [endingL, if_neg (h2.2 g1)]
    have hpl := (pT_len s.data.toList).1
    rw [hp] at hpl
    dsimp only at hpl
    have htl := tailL_len s.data.toList
    rw [← e1] at htl
    obtain ⟨X, hX⟩ : ∃ X, endingL s.data.toList = X := ⟨_, rfl⟩
    rw [hX] at CE htl HW
    have h64 : (⟨#[64]⟩ : ByteArray).size = 1 := rfl
    have hs1 : ¬ 9223372036854775807 < (mkS p).size + 1 := by rw [size_mkS]; omega
    have hs2 : ¬ 9223372036854775807 < (mkS p).size + 1 + t.size := by rw [size_mkS]; omega
    have hs3 : ¬ 9223372036854775807 < (mkS p).size + 1 + t.size + (mkS X).size := by rw [size_mkS, size_mkS]; omega
    have hsz : (mkS p ++ ⟨#[64]⟩ ++ t ++ mkS X).size ≤ 1000000 := by rw [ByteArray.size_append, ByteArray.size_append, ByteArray.size_append, size_mkS, size_mkS, h64]; omega
    have hd : (mkS p ++ ⟨#[64]⟩ ++ t ++ mkS X).data.toList = p ++ 64 :: (t.data.toList ++ X) := by
      rw [ByteArray.data_append, Array.toList_append, ByteArray.data_append, Array.toList_append, ByteArray.data_append, Array.toList_append, data_mkS, data_mkS]; simp
    have CO : Hid (∀ W, Calls Tryd.prog 17 #[.string (mkS p ++ ⟨#[64]⟩ ++ t ++ mkS X)] W fun e w' => e = .returned (.bool (partsO (p ++ 64 :: (t.data.toList ++ X))).isSome) ∧ Below W.heap.size W w') := Lib.hid fun W => by
      have := isR_calls (mkS p ++ ⟨#[64]⟩ ++ t ++ mkS X) hsz W
      rw [hd] at this; exact this
    have hW2 := HW.out
    rw [if_neg (by simp)] at hW2
    have hem : (mkS []).toList.isEmpty = true := by rw [Lib.toList_data, data_mkS]; rfl
    have HD := Lib.hid hd
    rcases hok : (partsO (p ++ 64 :: (t.data.toList ++ X))).isSome with _ | _
    · rw [hok] at CO
      have E : Hid (withL s.data.toList t.data.toList = ([], 40)) := Lib.hid (by rw [hW2, if_pos hok])
      clear h2 hp hW g1 g3 e1 hpl htl hX h64 hsz hd hW2 hok
      go_enter Tryd.func26, Tryd.ntmps26
      go_wp2_with (go_at_call 16; refine (CI.out _).mono ?_; rintro e w1 ⟨rfl, hb1⟩)
      refine (CP.out _).mono ?_
      rintro e w2 ⟨rfl, hb2⟩
      go_wp2_with fail
      refine (CE.out _).mono ?_
      rintro e w3 ⟨rfl, hb3⟩
      go_wp2_with fail
      refine (CO.out _).mono ?_
      rintro e w4 ⟨rfl, hb4⟩
      go_wp2_with fail
      go_ret2
      exact with_bad E.out rfl (bstep (bstep (bstep hb1 hb2) hb3) hb4)
    · rw [hok] at CO
      have E : Hid (withL s.data.toList t.data.toList = (p ++ 64 :: (t.data.toList ++ X), 0)) := Lib.hid (by rw [hW2, if_neg (by rw [hok]; simp)])
      clear h2 hp hW g1 g3 e1 hpl htl hX h64 hsz hd hW2 hok
      go_enter Tryd.func26, Tryd.ntmps26
      go_wp2_with (go_at_call 16; refine (CI.out _).mono ?_; rintro e w1 ⟨rfl, hb1⟩)
      refine (CP.out _).mono ?_
      rintro e w2 ⟨rfl, hb2⟩
      go_wp2_with fail
      refine (CE.out _).mono ?_
      rintro e w3 ⟨rfl, hb3⟩
      go_wp2_with fail
      refine (CO.out _).mono ?_
      rintro e w4 ⟨rfl, hb4⟩
      go_wp2_with fail
      go_ret2
      exact ⟨by rw [E.out, ← HD.out, mkS_data]; rfl, bstep (bstep (bstep hb1 hb2) hb3) hb4⟩
  · have hem : (mkS i).toList.isEmpty = false := by rw [Lib.toList_data, data_mkS]; simpa using hi
    have E := Lib.hid (HW.out.trans (if_pos (.inr hi)))
    have HI := Lib.hid hi
    clear h2 hp hW hi
    go_enter Tryd.func26, Tryd.ntmps26
    go_wp2_with (go_at_call 16; refine (CI.out _).mono ?_; rintro e w1 ⟨rfl, hb1⟩)
    go_ret2
    exact with_bad E.out rfl hb1
end Go.Proofs.YtgppdndpnflkeaaDoor
