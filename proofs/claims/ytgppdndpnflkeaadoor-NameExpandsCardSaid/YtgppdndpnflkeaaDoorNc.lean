/- Contracts of package name: a name's ending, a text cut at a byte, bytes that may stand in a name. -/
import Derived.Test.YtgppdndpnflkeaaDoorNb
namespace Go.Proofs.YtgppdndpnflkeaaDoor
open Go.RowKit Go.Rv

theorem bcell {W w1 : World} (hb : Below W.heap.size W w1) : (∀ b o, b < W.heap.size → w1.cell? ⟨b, o, none⟩ = W.cell? ⟨b, o, none⟩) ∧ (∀ b o, b < W.heap.size → w1.frozen? ⟨b, o, none⟩ = W.frozen? ⟨b, o, none⟩) :=
  ⟨fun b o h => hb.cell (p := ⟨b, o, none⟩) h, fun b o h => hb.frozen (p := ⟨b, o, none⟩) h⟩
theorem below_drewN (B : Nat) (w : World) (n : Nat) : Below B w (w.drewN n) := ⟨rfl, rfl, rfl, Nat.le_refl _, fun _ _ => rfl⟩

/-! ### a text cut at a byte -/
def cutL (c : UInt8) (l : List UInt8) : List UInt8 × List UInt8 × Bool := (l.takeWhile (· != c), (l.dropWhile (· != c)).drop 1, l.any (· == c))
theorem cutL_none {c : UInt8} {l : List UInt8} (h : ∀ x ∈ l, x ≠ c) : cutL c l = (l, [], false) := by
  induction l with
  | nil => rfl
  | cons x l ih =>
    have hx := h x (by simp)
    have := ih fun y hy => h y (by simp [hy])
    simp only [cutL, Prod.mk.injEq] at this ⊢
    obtain ⟨h1, h2, h3⟩ := this
    simp only [List.drop_one] at h2
    simp [hx, h1, h2]
    simpa using h3
theorem cutL_at {c : UInt8} (a b : List UInt8) (h : ∀ x ∈ a, x ≠ c) : cutL c (a ++ c :: b) = (a, b, true) := by
  induction a with
  | nil => simp [cutL]
  | cons x a ih =>
    have hx := h x (by simp)
    have := ih fun y hy => h y (by simp [hy])
    simp only [cutL, Prod.mk.injEq] at this ⊢
    simp [hx, this.1]
    simpa using this.2.1
theorem index_parts {c : UInt8} {l : List UInt8} {i : Nat} (h : Lib.indexByte l c = (i : Int)) : i < l.length ∧ l = l.take i ++ c :: l.drop (i + 1) ∧ ∀ x ∈ l.take i, x ≠ c := by
  obtain ⟨h1, h2⟩ := Lib.indexByte_some h
  have ho : i < l.length := (List.getElem?_eq_some_iff.1 h1).1
  refine ⟨ho, ?_, ?_⟩
  · obtain ⟨_, h3⟩ := List.getElem?_eq_some_iff.1 h1
    rw [← h3, List.getElem_cons_drop, List.take_append_drop]
  · intro x hx ec
    obtain ⟨k, hk, rfl⟩ := List.getElem_of_mem hx
    have hk' : k < i := by simp at hk; omega
    refine h2 k hk' ?_
    rw [← ec, List.getElem_take, List.getElem?_eq_getElem]
theorem index_none {c : UInt8} {l : List UInt8} (h : Lib.indexByte l c < 0) : ∀ x ∈ l, x ≠ c := by
  have h1 : Lib.indexByte l c = -1 := by have := Lib.indexByte_ge l c; omega
  have h2 := Lib.indexByte_none h1
  intro x hx e
  obtain ⟨k, hk, rfl⟩ := List.getElem_of_mem hx
  exact h2 k (by rw [List.getElem?_eq_getElem hk, e])

theorem cut0_calls (s : ByteArray) (c : UInt8) (hs : s.size < 4611686018427387904) (w : World) :
    Calls Tryd.prog 47 #[.string s, .string ⟨#[c]⟩] w fun e w' => e = .returned (.tuple #[.string (mkS (cutL c s.data.toList).1), .string (mkS (cutL c s.data.toList).2.1), .bool (cutL c s.data.toList).2.2]) ∧ Below w.heap.size w w' := by
  by_cases hi : Lib.indexByte s.data.toList c < 0
  · rw [cutL_none (index_none hi)]
    dsimp only
    rw [mkS_data]
    go_enter Tryd.func47, Tryd.ntmps47
    go_wp2_with (go_at_call 58; refine (Tryd.stringslite_Index_one _ _ _).mono ?_; rintro e w' ⟨rfl, rfl⟩)
    go_ret3
    exact ⟨rfl, Below.refl _ _⟩
  · obtain ⟨i, hix⟩ := Int.eq_ofNat_of_zero_le (Int.not_lt.1 hi)
    obtain ⟨h1, h2, h3⟩ := index_parts hix
    have h4 : (cutL c s.data.toList) = (s.data.toList.take i, s.data.toList.drop (i + 1), true) := by
      conv => lhs; rw [h2]
      exact cutL_at _ _ h3
    rw [h4]
    dsimp only
    have e1 : mkS (s.data.toList.take i) = s.extract 0 i := (Lib.extract_upto _ _).symm
    have e2 : mkS (s.data.toList.drop (i + 1)) = s.extract (i + 1) s.size := (Lib.extract_from _ _).symm
    rw [e1, e2]
    have Hix := Lib.hid hix
    rw [← Lib.size_eq] at h1
    clear hix hi h2 h3 h4 e1 e2
    have c2 : (↑i : Int) ≤ ↑s.size := by omega
    have c4 : (↑i + 1 : Int) ≤ ↑s.size := by omega
    go_enter Tryd.func47, Tryd.ntmps47
    go_wp2_with (go_at_call 58; refine (Tryd.stringslite_Index_one _ _ _).mono ?_; rintro e w' ⟨rfl, rfl⟩; rw [Hix.out])
    go_region
    go_wp2
    go_ret3
    exact ⟨rfl, below_drewN _ _ 1⟩

theorem cut_calls (s : ByteArray) (c : UInt8) (hs : s.size < 4611686018427387904) (w : World) :
    Calls Tryd.prog 30 #[.string s, .string ⟨#[c]⟩] w fun e w' => e = .returned (.tuple #[.string (mkS (cutL c s.data.toList).1), .string (mkS (cutL c s.data.toList).2.1), .bool (cutL c s.data.toList).2.2]) ∧ Below w.heap.size w w' := by
  go_enter Tryd.func30, Tryd.ntmps30
  go_wp2_with (go_at_call 47; refine (cut0_calls _ _ hs _).mono ?_; rintro e w' ⟨rfl, hb⟩)
  go_ret3
  exact ⟨rfl, hb⟩

/-! ### an ending -/
def endS : List ByteArray := [⟨#[46, 115, 101, 114, 118, 105, 99, 101]⟩, ⟨#[46, 115, 111, 99, 107, 101, 116]⟩, ⟨#[46, 116, 105, 109, 101, 114]⟩, ⟨#[46, 112, 97, 116, 104]⟩, ⟨#[46, 109, 111, 117, 110, 116]⟩, ⟨#[46, 116, 97, 114, 103, 101, 116]⟩]
def endL : List (List UInt8) := [[46, 115, 101, 114, 118, 105, 99, 101], [46, 115, 111, 99, 107, 101, 116], [46, 116, 105, 109, 101, 114], [46, 112, 97, 116, 104], [46, 109, 111, 117, 110, 116], [46, 116, 97, 114, 103, 101, 116]]
/-- The kind that an ending tells; 0: none. -/
def endN (l : List UInt8) : Nat → List (List UInt8) → Nat
  | _, [] => 0
  | k, x :: r => if l = x then k else endN l (k + 1) r
def endK (l : List UInt8) : Nat := endN l 1 endL
theorem endN_idx (s : ByteArray) (zs : List ByteArray) (k : Nat) : (endN s.data.toList (k + 1) (zs.map fun z => z.data.toList) : Int) = 1 + Lib.idxFromS zs s k := by
  induction zs generalizing k with
  | nil => rfl
  | cons z zs ih =>
    simp only [List.map_cons, endN, Lib.idxFromS]
    by_cases h : z = s
    · subst h; simp; omega
    · have h' : ¬ s.data.toList = z.data.toList := fun e => h (ByteArray.ext (Array.toList_inj.1 e)).symm
      rw [if_neg h', if_neg h, ih]
theorem endK_idx (s : ByteArray) : 1 + Lib.idxOfS endS s = (endK s.data.toList : Int) := (endN_idx s endS 0).symm
theorem endN_le (l : List UInt8) (zs : List (List UInt8)) (k : Nat) : endN l k zs = 0 ∨ (k ≤ endN l k zs ∧ endN l k zs < k + zs.length) := by
  induction zs generalizing k with
  | nil => exact .inl rfl
  | cons z zs ih =>
    unfold endN
    split
    · simp
    · rcases ih (k + 1) with h | h
      · exact .inl h
      · simp; omega
theorem endK_le (l : List UInt8) : endK l ≤ 6 := by
  have := endN_le l endL 1
  unfold endK
  simp [endL] at this ⊢
  omega
theorem ending_calls (s : ByteArray) (w : World) : Calls Tryd.prog 53 #[.string s] w fun e w' => e = .returned (.int .i64 (endK s.data.toList : Int)) ∧ Below w.heap.size w w' := by
  have hc : ∀ w : World, ∀ j, j < endS.length → (w.alloc (.cells #[.string ⟨#[46, 115, 101, 114, 118, 105, 99, 101]⟩, .string ⟨#[46, 115, 111, 99, 107, 101, 116]⟩, .string ⟨#[46, 116, 105, 109, 101, 114]⟩, .string ⟨#[46, 112, 97, 116, 104]⟩, .string ⟨#[46, 109, 111, 117, 110, 116]⟩, .string ⟨#[46, 116, 97, 114, 103, 101, 116]⟩] 9)).cell? ⟨w.heap.size, 0 + j, none⟩ = some (.string (endS.getD j ByteArray.empty)) := by
    intro w j hj
    rw [hp_cell (hp_alloc_new w _)]
    have : j = 0 ∨ j = 1 ∨ j = 2 ∨ j = 3 ∨ j = 4 ∨ j = 5 := by simp [endS] at hj; omega
    rcases this with rfl | rfl | rfl | rfl | rfl | rfl <;> rfl
  have Hc := Lib.hid hc
  clear hc
  have he := endK_idx s
  have hl := endK_le s.data.toList
  have hi : 0 ≤ 1 + Lib.idxOfS endS s ∧ 1 + Lib.idxOfS endS s ≤ 6 := by omega
  have Hi := Lib.hid hi
  have He := Lib.hid he
  clear hi he hl
  go_enter Tryd.func53, Tryd.ntmps53
  go_wp2_with (go_at_call 66; refine (Tryd.slices_Index_string _ 0 6 6 endS _ _ (by decide) (by decide) (Hc.out _)).mono ?_; rintro e w1 ⟨rfl, rfl⟩; rw [show List.take 6 endS = endS from rfl]; have h1 := Hi.out)
  go_ret
  exact ⟨by rw [← He.out]; rfl, (Below.refl _ _).alloc (Nat.le_refl _) _⟩
end Go.Proofs.YtgppdndpnflkeaaDoor
