/- Contracts of the reference: Is, Prefix, Instance, Ending, Template, With. -/
import Derived.Test.YtgppdndpnflkeaaDoorRd
namespace Go.Proofs.YtgppdndpnflkeaaDoor
open Go.RowKit Go.Rv

theorem isR_calls (s : ByteArray) (hs : s.size ≤ 1000000) (w : World) : Calls Tryd.prog 17 #[.string s] w fun e w' => e = .returned (.bool (partsO s.data.toList).isSome) ∧ Below w.heap.size w w' := by
  have h := (kind_same s.data.toList).2.1
  obtain ⟨K, hK⟩ : ∃ K, kindL s.data.toList = K := ⟨_, rfl⟩
  rw [hK] at h
  have CK : Hid (∀ W, Calls Tryd.prog 19 #[.string s] W fun e w' => e = .returned (.int .i64 (K : Int)) ∧ Below W.heap.size W w') := Lib.hid fun W => by
    have := kindR_calls s hs W
    unfold KdPost at this
    rw [hK] at this; exact this
  have e : (partsO s.data.toList).isSome = decide (0 < K) := by
    rw [Bool.eq_iff_iff, ← h]; simp; omega
  have E := Lib.hid e
  clear h hK e
  go_enter Tryd.func17, Tryd.ntmps17
  go_wp2_with (go_at_call 19; refine (CK.out _).mono ?_; rintro e w1 ⟨rfl, hb⟩)
  go_ret
  exact ⟨by rw [E.out]; rfl, hb⟩

theorem none_parts {l : List UInt8} (h : (partsO l).isSome = false) : pT l = ([], [], false, 0) := by
  unfold pT
  cases hp : partsO l with
  | none => rfl
  | some q => rw [hp] at h; cases h
theorem index_stem_no {p : List UInt8} (h : ∀ x ∈ p, x ≠ (64 : UInt8)) : Lib.indexByte p 64 = -1 :=
  index_miss fun _ _ e => h 64 (List.mem_of_getElem? e) rfl
theorem index_stem {p i : List UInt8} (h : ∀ x ∈ p, x ≠ (64 : UInt8)) : Lib.indexByte (p ++ 64 :: i) 64 = (p.length : Int) := by
  refine index_is (by simp) fun j hj e => ?_
  rw [List.getElem?_append_left hj] at e
  exact h 64 (List.mem_of_getElem? e) rfl
theorem prefixR_calls (s : ByteArray) (hs : s.size ≤ 1000000) (w : World) : Calls Tryd.prog 21 #[.string s] w fun e w' => e = .returned (.string (mkS (pT s.data.toList).1)) ∧ Below w.heap.size w w' := by
  obtain ⟨h1, h2, h3⟩ := kind_same s.data.toList
  have CI : Hid (∀ W, Calls Tryd.prog 17 #[.string s] W fun e w' => e = .returned (.bool (partsO s.data.toList).isSome) ∧ Below W.heap.size W w') := Lib.hid fun W => isR_calls s hs W
  have hlen := partedL_len s.data.toList
  rw [← Lib.size_eq] at hlen
  obtain ⟨⟨st, K⟩, hst⟩ : ∃ q, partedL s.data.toList = q := ⟨_, rfl⟩
  have CP : Hid (∀ W, Calls Tryd.prog 40 #[.string s] W fun e w' => e = .returned (.tuple #[.string (mkS st), .int .i64 (K : Int)]) ∧ Below W.heap.size W w') := Lib.hid fun W => by
    have := parted_calls s hs W
    unfold PdPost at this
    rw [hst] at this; exact this
  rw [hst] at h3 hlen
  dsimp only at h3 hlen
  rcases hok : (partsO s.data.toList).isSome with _ | _
  · have E := Lib.hid (none_parts hok)
    rw [hok] at CI
    clear h1 h2 h3 hok hst
    go_enter Tryd.func21, Tryd.ntmps21
    go_wp2_with (go_at_call 17; refine (CI.out _).mono ?_; rintro e w1 ⟨rfl, hb⟩)
    go_ret
    exact ⟨by rw [E.out]; rfl, hb⟩
  · obtain ⟨h4, h5, _⟩ := h3 (h2.2 hok)
    rw [hok] at CI
    obtain ⟨⟨p, i, f, k⟩, hp⟩ : ∃ q, pT s.data.toList = q := ⟨_, rfl⟩
    rw [hp] at h4 h5 ⊢
    dsimp only at h4 h5 ⊢
    have CA : Hid (∀ W, Calls Tryd.prog 41 #[.string (mkS st)] W fun e w' => e = .returned (.int .i64 (Lib.indexByte st 64)) ∧ w' = W) := Lib.hid fun W => by
      have := at_calls (mkS st) (by rw [size_mkS]; omega) W
      rw [data_mkS] at this; exact this
    rcases f with _ | _
    · have e : Lib.indexByte st 64 = -1 := by rw [h4]; exact index_stem_no h5
      have e2 : st = p := h4
      rw [e] at CA
      subst e2
      clear h1 h2 h3 h4 h5 hok hst hp e
      go_enter Tryd.func21, Tryd.ntmps21
      go_wp2_with (go_at_call 17; refine (CI.out _).mono ?_; rintro e w1 ⟨rfl, hb⟩)
      refine (CP.out _).mono ?_
      rintro e w2 ⟨rfl, hb2⟩
      go_wp2_with fail
      refine (CA.out _).mono ?_
      rintro e w3 ⟨rfl, rfl⟩
      go_wp2_with fail
      go_ret
      exact ⟨rfl, bstep hb hb2⟩
    · have e : Lib.indexByte st 64 = (p.length : Int) := by rw [h4]; exact index_stem h5
      have e2 : st = p ++ 64 :: i := h4
      rw [e] at CA
      have e3 : (mkS st).extract 0 p.length = mkS p := by rw [Lib.extract_upto, data_mkS, e2]; simp [mkS]
      have hpl : (p.length : Int) ≤ ((mkS st).size : Int) := by rw [size_mkS, e2]; simp; omega
      have E3 := Lib.hid e3
      clear h1 h2 h3 h4 h5 hok hst hp e e2 e3
      go_enter Tryd.func21, Tryd.ntmps21
      go_wp2_with (go_at_call 17; refine (CI.out _).mono ?_; rintro e w1 ⟨rfl, hb⟩)
      refine (CP.out _).mono ?_
      rintro e w2 ⟨rfl, hb2⟩
      go_wp2_with fail
      refine (CA.out _).mono ?_
      rintro e w3 ⟨rfl, rfl⟩
      go_wp2_with fail
      go_ret
      exact ⟨by rw [← E3.out]; rfl, bstep hb hb2⟩
theorem instanceR_calls (s : ByteArray) (hs : s.size ≤ 1000000) (w : World) : Calls Tryd.prog 16 #[.string s] w fun e w' => e = .returned (.tuple #[.string (mkS (pT s.data.toList).2.1), .bool (pT s.data.toList).2.2.1]) ∧ Below w.heap.size w w' := by
  obtain ⟨h1, h2, h3⟩ := kind_same s.data.toList
  have CI : Hid (∀ W, Calls Tryd.prog 17 #[.string s] W fun e w' => e = .returned (.bool (partsO s.data.toList).isSome) ∧ Below W.heap.size W w') := Lib.hid fun W => isR_calls s hs W
  have hlen := partedL_len s.data.toList
  rw [← Lib.size_eq] at hlen
  obtain ⟨⟨st, K⟩, hst⟩ : ∃ q, partedL s.data.toList = q := ⟨_, rfl⟩
  have CP : Hid (∀ W, Calls Tryd.prog 40 #[.string s] W fun e w' => e = .returned (.tuple #[.string (mkS st), .int .i64 (K : Int)]) ∧ Below W.heap.size W w') := Lib.hid fun W => by
    have := parted_calls s hs W
    unfold PdPost at this
    rw [hst] at this; exact this
  rw [hst] at h3 hlen
  dsimp only at h3 hlen
  rcases hok : (partsO s.data.toList).isSome with _ | _
  · have E := Lib.hid (none_parts hok)
    rw [hok] at CI
    clear h1 h2 h3 hok hst
    go_enter Tryd.func16, Tryd.ntmps16
    go_wp2_with (go_at_call 17; refine (CI.out _).mono ?_; rintro e w1 ⟨rfl, hb⟩)
    go_ret2
    exact ⟨by rw [E.out]; rfl, hb⟩
  · obtain ⟨h4, h5, _, _, h6⟩ := h3 (h2.2 hok)
    rw [hok] at CI
    obtain ⟨⟨p, i, f, k⟩, hp⟩ : ∃ q, pT s.data.toList = q := ⟨_, rfl⟩
    rw [hp] at h4 h5 h6 ⊢
    dsimp only at h4 h5 h6 ⊢
    have CA : Hid (∀ W, Calls Tryd.prog 41 #[.string (mkS st)] W fun e w' => e = .returned (.int .i64 (Lib.indexByte st 64)) ∧ w' = W) := Lib.hid fun W => by
      have := at_calls (mkS st) (by rw [size_mkS]; omega) W
      rw [data_mkS] at this; exact this
    rcases f with _ | _
    · have e : Lib.indexByte st 64 = -1 := by rw [h4]; exact index_stem_no h5
      have e2 := h6 rfl
      rw [e] at CA
      subst e2
      clear h1 h2 h3 h4 h5 h6 hok hst hp e
      go_enter Tryd.func16, Tryd.ntmps16
      go_wp2_with (go_at_call 17; refine (CI.out _).mono ?_; rintro e w1 ⟨rfl, hb⟩)
      refine (CP.out _).mono ?_
      rintro e w2 ⟨rfl, hb2⟩
      go_wp2_with fail
      refine (CA.out _).mono ?_
      rintro e w3 ⟨rfl, rfl⟩
      go_wp2_with fail
      go_ret2
      exact ⟨rfl, bstep hb hb2⟩
    · have e : Lib.indexByte st 64 = (p.length : Int) := by rw [h4]; exact index_stem h5
      have e2 : st = p ++ 64 :: i := h4
      rw [e] at CA
      have e3 : (mkS st).extract (p.length + 1) (mkS st).size = mkS i := by rw [Lib.extract_from, data_mkS, e2]; simp [mkS]
      have hpl : (p.length : Int) + 1 ≤ ((mkS st).size : Int) := by rw [size_mkS, e2]; simp; omega
      have hpl2 : (p.length : Int) ≤ 1000000 := by rw [e2] at hlen; simp at hlen; omega
      have E3 := Lib.hid e3
      clear h1 h2 h3 h4 h5 h6 hok hst hp e e2 e3 hlen
      go_enter Tryd.func16, Tryd.ntmps16
      go_wp2_with (go_at_call 17; refine (CI.out _).mono ?_; rintro e w1 ⟨rfl, hb⟩)
      refine (CP.out _).mono ?_
      rintro e w2 ⟨rfl, hb2⟩
      go_wp2_with fail
      refine (CA.out _).mono ?_
      rintro e w3 ⟨rfl, rfl⟩
      go_wp2_with fail
      go_ret2
      exact ⟨by rw [← E3.out]; rfl, bstep hb hb2⟩

theorem tailL_len (l : List UInt8) : (tailL l).length ≤ l.length := by
  unfold tailL
  cases hd : dotO l with
  | none => simp
  | some q =>
    obtain ⟨x, y⟩ := q
    have hl := congrArg List.length (dotO_app hd)
    rw [List.length_append] at hl
    dsimp only
    omega
/-- What the reference takes for a name's ending. -/
def endingL (l : List UInt8) : List UInt8 := if kindL l = 0 then [] else tailL l
theorem endingR_calls (s : ByteArray) (hs : s.size ≤ 1000000) (w : World) : Calls Tryd.prog 44 #[.string s] w fun e w' => e = .returned (.string (mkS (endingL s.data.toList))) ∧ Below w.heap.size w w' := by
  obtain ⟨h1, h2, h3⟩ := kind_same s.data.toList
  obtain ⟨K, hK⟩ : ∃ K, kindL s.data.toList = K := ⟨_, rfl⟩
  have CK : Hid (∀ W, Calls Tryd.prog 19 #[.string s] W fun e w' => e = .returned (.int .i64 (K : Int)) ∧ Below W.heap.size W w') := Lib.hid fun W => by
    have := kindR_calls s hs W
    unfold KdPost at this
    rw [hK] at this; exact this
  rw [hK] at h3
  have hE : endingL s.data.toList = if K = 0 then [] else tailL s.data.toList := by rw [endingL, hK]
  have HE := Lib.hid hE
  clear h1 h2 hK hE
  by_cases hk : K = 0
  · have E : Hid (endingL s.data.toList = []) := Lib.hid (by rw [HE.out, if_pos hk])
    subst hk
    clear h3
    go_enter Tryd.func44, Tryd.ntmps44
    go_wp2_with (go_at_call 56; refine (endings_calls _).mono ?_; rintro e w1 ⟨rfl, hb1⟩; unfold eV)
    refine (CK.out _).mono ?_
    rintro e w2 ⟨rfl, hb2⟩
    go_wp2_with fail
    go_ret
    exact ⟨by rw [E.out]; rfl, bstep (hb1.alloc hb1.size _) hb2⟩
  · obtain ⟨_, _, h4, h5, _⟩ := h3 hk
    obtain ⟨k, rfl⟩ : ∃ k, K = k + 1 := ⟨K - 1, by omega⟩
    rw [Nat.add_sub_cancel] at h4
    have hk6 : k < 6 := by omega
    have E : Hid (endingL s.data.toList = endL.getD k []) := Lib.hid (by rw [HE.out, if_neg hk, h4])
    obtain ⟨X, hX⟩ : ∃ X, mkS (endL.getD k []) = X := ⟨_, rfl⟩
    have he := eV_at hk6
    rw [hX] at he
    have HX := Lib.hid hX
    have hcast : ((k + 1 : Nat) : Int) = (k : Int) + 1 := by omega
    rw [hcast] at CK
    have hne : ¬ (k : Int) + 1 = 0 := by omega
    have hnb : ((k : Int) + 1 == 0) = false := by simp; omega
    have hki : (k : Int) < 6 := by omega
    have HEV := Lib.hid he
    clear h3 h4 h5 hk he hX hcast
    go_enter Tryd.func44, Tryd.ntmps44
    go_wp2_with (go_at_call 56; refine (endings_calls _).mono ?_; rintro e w1 ⟨rfl, hb1⟩; unfold eV)
    refine (CK.out _).mono ?_
    rintro e w2 ⟨rfl, hb2⟩
    have hc : w2.cell? ⟨w1.heap.size, k, none⟩ = some (.string X) := by
      rw [hp_cell ((hb2.block _ (by simp)).trans (hp_alloc_new w1 _))]
      exact HEV.out
    go_wp2_with fail
    go_ret
    exact ⟨by rw [E.out, HX.out]; rfl, bstep (hb1.alloc hb1.size _) hb2⟩
theorem templateR_calls (s : ByteArray) (hs : s.size ≤ 1000000) (w : World) : Calls Tryd.prog 23 #[.string s] w fun e w' => e = .returned (.string (mkS (templateL s.data.toList))) ∧ Below w.heap.size w w' := by
  obtain ⟨_, h2, _⟩ := kind_same s.data.toList
  obtain ⟨⟨p, i, f, k⟩, hp⟩ : ∃ q, pT s.data.toList = q := ⟨_, rfl⟩
  have CI : Hid (∀ W, Calls Tryd.prog 16 #[.string s] W fun e w' => e = .returned (.tuple #[.string (mkS i), .bool f]) ∧ Below W.heap.size W w') := Lib.hid fun W => by
    have := instanceR_calls s hs W
    rw [hp] at this; exact this
  have CP : Hid (∀ W, Calls Tryd.prog 21 #[.string s] W fun e w' => e = .returned (.string (mkS p)) ∧ Below W.heap.size W w') := Lib.hid fun W => by
    have := prefixR_calls s hs W
    rw [hp] at this; exact this
  have CE : Hid (∀ W, Calls Tryd.prog 44 #[.string s] W fun e w' => e = .returned (.string (mkS (endingL s.data.toList))) ∧ Below W.heap.size W w') := Lib.hid fun W => endingR_calls s hs W
  rcases f with _ | _
  · have E : Hid (templateL s.data.toList = []) := Lib.hid (by rw [templateL, hp]; rfl)
    clear h2 hp
    go_enter Tryd.func23, Tryd.ntmps23
    go_wp2_with (go_at_call 16; refine (CI.out _).mono ?_; rintro e w1 ⟨rfl, hb1⟩)
    go_ret
    exact ⟨by rw [E.out]; rfl, hb1⟩
  · obtain ⟨g1, _, g3⟩ := pT_at (l := s.data.toList) (by rw [hp])
    have e1 : endingL s.data.toList = tailL s.data.toList := by rw [endingL, if_neg (h2.2 g1)]
    have E : Hid (templateL s.data.toList = p ++ 64 :: endingL s.data.toList) := Lib.hid (by rw [templateL, hp, e1]; rfl)
    have hpl := (pT_len s.data.toList).1
    rw [hp] at hpl
    have htl := tailL_len s.data.toList
    obtain ⟨X, hX⟩ : ∃ X, endingL s.data.toList = X := ⟨_, rfl⟩
    rw [hX] at CE E
    rw [← e1, hX] at htl
    have hs1 : ¬ 9223372036854775807 < (mkS p).size + 1 := by rw [size_mkS]; dsimp only at hpl; omega
    have hs2 : ¬ 9223372036854775807 < (mkS p).size + 1 + (mkS X).size := by rw [size_mkS, size_mkS]; dsimp only at hpl; omega
    clear h2 hp g1 g3 e1 hpl hX htl
    go_enter Tryd.func23, Tryd.ntmps23
    go_wp2_with (go_at_call 16; refine (CI.out _).mono ?_; rintro e w1 ⟨rfl, hb1⟩)
    refine (CP.out _).mono ?_
    rintro e w2 ⟨rfl, hb2⟩
    go_wp2_with fail
    refine (CE.out _).mono ?_
    rintro e w3 ⟨rfl, hb3⟩
    go_wp2_with fail
    go_ret
    have e3 : mkS (p ++ 64 :: X) = mkS p ++ ⟨#[64]⟩ ++ mkS X := by
      rw [show (⟨#[64]⟩ : ByteArray) = mkS [64] from rfl, mkS_append, mkS_append]; simp
    exact ⟨by rw [E.out, e3]; rfl, bstep (bstep hb1 hb2) hb3⟩
end Go.Proofs.YtgppdndpnflkeaaDoor
