/- Plain laws: a name's parts; the walk of the law's own 'plain'. -/
import Derived.Test.YtgppdndpnflkeaaDoorNm
namespace Go.Proofs.YtgppdndpnflkeaaDoor
open Go.RowKit Go.Rv

def plainI (c : Int) : Bool := (decide (97 ≤ c) && decide (c ≤ 122)) || (decide (48 ≤ c) && decide (c ≤ 57)) || decide (c = 45) || decide (c = 95) || decide (c = 58)
def plainC (c : UInt8) : Bool := plainI (c.toNat : Int)
def plainAll (l : List UInt8) : Bool := l.all plainC
theorem plainC_good (c : UInt8) : plainC c = true → goodB c = true ∧ c ≠ 64 ∧ c ≠ 46 :=
  all_u8 (p := fun c => plainC c = true → goodB c = true ∧ c ≠ 64 ∧ c ≠ 46) (by decide +kernel) c
theorem plain29_calls (s : ByteArray) (hs : s.size ≤ 1000000) (w : World) : Calls Tryd.prog 29 #[.string s] w fun e w' => e = .returned (.bool (plainAll s.data.toList)) ∧ w' = w := by
  go_enter Tryd.func29, Tryd.ntmps29
  go_wp2
  go_loop [3] (fun i => ∃ k : Nat, k ≤ s.size ∧ i = .int .i64 k ∧ Hid ((s.data.toList.take k).all plainC = true)) (fun i => s.size - (intOf i).toNat)
  case atStart => exact ⟨0, by omega, rfl, Lib.hid rfl⟩
  case round =>
    obtain ⟨k, hk, rfl, HK⟩ := hrel
    by_cases hlt : (k : Int) < (s.size : Int)
    · have hk' : k < s.size := by omega
      obtain ⟨x, hx⟩ : ∃ x : UInt8, s[k] = x := ⟨_, rfl⟩
      have Hx := Lib.hid (show s.data.toList[k]? = some x by rw [← hx]; exact Lib.data_getElem? s k hk')
      have key : ∀ b, Hid (plainI (x.toNat : Int) = b) → Hid (plainC x = b) := fun b h => Lib.hid h.out
      obtain ⟨c, hc⟩ : ∃ c : Int, (x.toNat : Int) = c := ⟨_, rfl⟩
      have HC := Lib.hid hc
      rw [hc] at key
      have Key := Lib.hid key
      clear key
      have yes : Hid (Hid (plainI c = true) → (s.data.toList.take (k + 1)).all plainC = true) := Lib.hid fun h => by
        rw [List.take_add_one, List.all_append, HK.out, Hx.out]
        simp [(Key.out _ h).out]
      have no : Hid (Hid (plainI c = false) → plainAll s.data.toList = false) := Lib.hid fun h => by
        rw [plainAll, List.all_eq_false]
        exact ⟨x, List.mem_of_getElem? Hx.out, by rw [(Key.out _ h).out]; simp⟩
      clear Key HC
      by_cases h1 : c < 97 <;> by_cases h2 : 122 < c <;> by_cases h3 : c < 48 <;> by_cases h4 : 57 < c <;> by_cases h5 : c = 45 <;> by_cases h6 : c = 95 <;> by_cases h7 : c = 58 <;> first | omega | skip
      all_goals (try have m5 : (c != 45) = true := by simp [h5])
      all_goals (try have m6 : (c != 95) = true := by simp [h6])
      all_goals (try have m7 : (c != 58) = true := by simp [h7])
      all_goals
        first
          | (have hno := Lib.hid (no.out (Lib.hid (by first | (subst h5; decide) | (subst h6; decide) | (subst h7; decide) | (simp only [plainI, Bool.or_eq_false_iff, Bool.and_eq_false_iff, decide_eq_false_iff_not]; omega))))
             go_wp2
             go_ret
             exact ⟨by rw [hno.out]; rfl, rfl⟩)
          | (have hyes := Lib.hid (yes.out (Lib.hid (by first | (subst h5; decide) | (subst h6; decide) | (subst h7; decide) | (simp only [plainI, Bool.or_eq_true, Bool.and_eq_true, decide_eq_true_eq]; omega))))
             go_wp2
             go_round
             case rel => exact ⟨k + 1, by omega, by go_num, hyes⟩
             case measure => simp [intOf]; omega)
    · obtain rfl : k = s.size := by omega
      go_wp2
      go_ret
      refine ⟨?_, rfl⟩
      have := HK.out
      rw [List.take_of_length_le (by rw [Lib.size_eq]; exact Nat.le_refl _)] at this
      rw [plainAll, this]; rfl

/-! ### a name out of its parts -/
theorem end_shape (k : Nat) (hk : k < 6) : ∃ r, endL.getD k [] = 46 :: r ∧ (∀ x ∈ r, x ≠ (46 : UInt8)) ∧ endK (endL.getD k []) = k + 1 ∧ (endL.getD k []).length ≤ 8 := by
  have key : ∀ a : Fin 6, (endL.getD a.1 []) = 46 :: (endL.getD a.1 []).drop 1 ∧ (∀ x ∈ (endL.getD a.1 []).drop 1, x ≠ (46 : UInt8)) ∧ endK (endL.getD a.1 []) = a.1 + 1 ∧ (endL.getD a.1 []).length ≤ 8 := by decide +kernel
  have := key ⟨k, hk⟩
  exact ⟨_, this.1, this.2.1, this.2.2.1, this.2.2.2⟩
def stemL (p i : List UInt8) (b : Bool) : List UInt8 := if b then p ++ 64 :: i else p
theorem parts_name {p i : List UInt8} {k : Nat} (b : Bool) (hp : plainAll p = true) (hi : plainAll i = true) (h0 : p ≠ []) (hk : k < 6) :
    dotO (stemL p i b ++ endL.getD k []) = some (stemL p i b, endL.getD k []) ∧
      partsO (stemL p i b ++ endL.getD k []) = if (stemL p i b ++ endL.getD k []).length > 60 then none else some (p, if b then i else [], b, k + 1) := by
  obtain ⟨r, h1, h2, h3, h4⟩ := end_shape k hk
  have hd : dotO (stemL p i b ++ endL.getD k []) = some (stemL p i b, endL.getD k []) := by
    rw [h1]; exact dotO_at _ _ h2
  refine ⟨hd, ?_⟩
  have gp : goodAll p = true := by
    rw [goodAll, List.all_eq_true]
    intro x hx
    exact (plainC_good x (List.all_eq_true.1 hp x hx)).1
  have gi : goodAll i = true := by
    rw [goodAll, List.all_eq_true]
    intro x hx
    exact (plainC_good x (List.all_eq_true.1 hi x hx)).1
  have np : ∀ x ∈ p, x ≠ 64 := fun x hx => (plainC_good x (List.all_eq_true.1 hp x hx)).2.1
  have hc : cutL 64 (stemL p i b) = (p, if b then i else [], b) := by
    cases b
    · exact cutL_none np
    · exact cutL_at p i np
  rw [partsO, hd]
  dsimp only
  split
  · rfl
  · rw [Parted.of_def, h3, hc, if_neg (by omega)]
    dsimp only
    rw [if_neg (by simpa using h0), if_neg (by rw [gp]; simp)]
    cases b
    · rw [if_neg (by simp [goodAll])]
    · rw [if_neg (by simp [gi])]
theorem name_long {p i : List UInt8} {k : Nat} (b : Bool) (hp : plainAll p = true) (hi : plainAll i = true) (h0 : p ≠ []) (hk : k < 6) (hl : (stemL p i b ++ endL.getD k []).length > 60) :
    partsO (stemL p i b ++ endL.getD k []) = none ∧ pT (stemL p i b ++ endL.getD k []) = ([], [], false, 0) := by
  have := (parts_name b hp hi h0 hk).2
  rw [if_pos hl] at this
  exact ⟨this, by rw [pT, this]; rfl⟩
theorem name_short {p i : List UInt8} {k : Nat} (b : Bool) (hp : plainAll p = true) (hi : plainAll i = true) (h0 : p ≠ []) (hk : k < 6) (hl : ¬ (stemL p i b ++ endL.getD k []).length > 60) :
    partsO (stemL p i b ++ endL.getD k []) = some (p, if b then i else [], b, k + 1) ∧ pT (stemL p i b ++ endL.getD k []) = (p, if b then i else [], b, k + 1) ∧ tailL (stemL p i b ++ endL.getD k []) = endL.getD k [] := by
  have h := parts_name b hp hi h0 hk
  have h2 := h.2
  rw [if_neg hl] at h2
  exact ⟨h2, by rw [pT, h2]; rfl, by rw [tailL, h.1]⟩
theorem name_with {p i : List UInt8} {k : Nat} (hp : plainAll p = true) (hi : plainAll i = true) (h0 : p ≠ []) (hk : k < 6) (hl : ¬ (stemL p i true ++ endL.getD k []).length > 60) :
    templateL (stemL p i true ++ endL.getD k []) = p ++ 64 :: endL.getD k [] ∧ withL (p ++ 64 :: endL.getD k []) i = (stemL p i true ++ endL.getD k [], 0) := by
  obtain ⟨a1, a2, a3⟩ := name_short true hp hi h0 hk hl
  have e1 : stemL p [] true ++ endL.getD k [] = p ++ 64 :: endL.getD k [] := by simp [stemL]
  obtain ⟨b1, b2, b3⟩ := name_short (i := []) true hp rfl h0 hk (by
    simp only [stemL, if_true, List.length_append, List.length_cons] at hl ⊢
    simp only [List.length_nil]
    omega)
  rw [e1] at b1 b2 b3
  refine ⟨by rw [templateL, a2, a3]; rfl, ?_⟩
  rw [withL, b2, b3]
  dsimp only
  rw [if_neg (by simp)]
  have e2 : p ++ 64 :: (i ++ endL.getD k []) = stemL p i true ++ endL.getD k [] := by simp [stemL]
  rw [e2, a1, a2]
  rw [if_neg (by simp)]
end Go.Proofs.YtgppdndpnflkeaaDoor
