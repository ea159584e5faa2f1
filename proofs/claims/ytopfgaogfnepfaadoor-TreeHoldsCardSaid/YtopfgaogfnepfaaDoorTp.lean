/- Plain laws on paths: whether a text is a path, its folder, and what lies below it, told over lists of bytes. -/
import Derived.Test.YtopfgaogfnepfaaDoorTc
namespace Go.Proofs.YtopfgaogfnepfaaDoor
open Go.RowKit Go.Rv

def okL (l : List UInt8) : Bool := !l.isEmpty && !(l == [46]) && !(l == [46, 46]) && decide (l.length ≤ 40)
def rightL (l : List UInt8) : Bool :=
  (l == [47]) || (Lib.hasPrefix l [47] && decide (Lib.indexByte l 0 < 0) && ((splitB 47 (Lib.trimPrefix l [47])).all okL && decide ((splitB 47 (Lib.trimPrefix l [47])).length ≤ 8)))

theorem okPart_eq (p : ByteArray) : okPart p = okL p.data.toList := by
  unfold okPart okL
  rw [Lib.toList_data, Lib.size_eq]
theorem rightB_eq (s : ByteArray) : rightB s = rightL s.data.toList := by
  unfold rightB rightL partsOf splitS
  rw [Lib.toList_data, data_mkS, List.length_map, List.all_map]
  congr 4
  funext l
  simp [okPart_eq, data_mkS]

/-- The last place of a byte, told over a list: what stands ahead of it. -/
def beforeLast (c : UInt8) : List UInt8 → Option (List UInt8)
  | [] => none
  | x :: l => match beforeLast c l with
    | some p => some (x :: p)
    | none => if x = c then some [] else none
def folderL (l : List UInt8) : List UInt8 :=
  match beforeLast 47 l with
  | some (x :: p) => x :: p
  | _ => [47]

theorem beforeLast_none {c : UInt8} {l : List UInt8} (h : ∀ x ∈ l, x ≠ c) : beforeLast c l = none := by
  induction l with
  | nil => rfl
  | cons x l ih =>
    have hx := h x (by simp)
    simp [beforeLast, ih (fun y hy => h y (by simp [hy])), hx]
theorem beforeLast_at {c : UInt8} (a b : List UInt8) (h : ∀ x ∈ b, x ≠ c) : beforeLast c (a ++ c :: b) = some a := by
  induction a with
  | nil => simp [beforeLast, beforeLast_none h]
  | cons x a ih => simp [beforeLast, ih]

theorem byte_at (s : ByteArray) (i : Nat) (h : i < s.size) : s.data[i]! = s.data.toList[i]'(by rw [Lib.size_eq] at h; exact h) := by
  have h' : i < s.data.size := h
  rw [getElem!_pos s.data i h']
  simp

theorem folderOf_eq (s : ByteArray) : folderOf s = mkS (folderL s.data.toList) := by
  unfold folderOf folderL
  have hl : s.data.toList.length = s.size := (Lib.size_eq s).symm
  rcases Lib.lastIndexByte_spec s 47 with ⟨h, hn⟩ | ⟨i, hi, h, hc, hn⟩
  · have : beforeLast 47 s.data.toList = none := by
      refine beforeLast_none fun x hx e => ?_
      obtain ⟨j, hj, rfl⟩ := List.getElem_of_mem hx
      have hj' : j < s.size := by omega
      refine hn j hj' ?_
      rw [byte_at s j hj', e]; rfl
    rw [h, this]; rfl
  · have hi' : i < s.data.toList.length := by omega
    have e47 : s.data.toList[i] = 47 := by
      rw [← byte_at s i hi]
      have : (s.data[i]!).toNat = 47 := by omega
      exact UInt8.toNat_inj.1 this
    have hsp : s.data.toList = s.data.toList.take i ++ 47 :: s.data.toList.drop (i + 1) := by
      rw [← e47, List.getElem_cons_drop, List.take_append_drop]
    have hb : beforeLast 47 s.data.toList = some (s.data.toList.take i) := by
      conv => lhs; rw [hsp]
      refine beforeLast_at _ _ fun x hx e => ?_
      obtain ⟨j, hj, rfl⟩ := List.getElem_of_mem hx
      have hj' : i + 1 + j < s.size := by simp at hj; omega
      refine hn (i + 1 + j) (by omega) hj' ?_
      have e2 : s.data.toList[i + 1 + j]'(by rw [Lib.size_eq] at hj'; exact hj') = 47 := by rw [← e, List.getElem_drop]
      rw [byte_at s _ hj', e2]; rfl
    rw [h, hb]
    by_cases h0 : 0 < i
    · rw [if_pos (show (0 : Int) < (i : Int) by omega)]
      have hne : s.data.toList.take i ≠ [] := by
        intro e
        have := congrArg List.length e
        rw [List.length_take, List.length_nil] at this
        omega
      cases ht : s.data.toList.take i with
      | nil => exact absurd ht hne
      | cons x p =>
        show s.extract 0 (Int.toNat i) = mkS (x :: p)
        rw [Int.toNat_natCast, Lib.extract_upto, ht]; rfl
    · rw [if_neg (show ¬ (0 : Int) < (i : Int) by omega)]
      have : i = 0 := by omega
      subst this
      rfl

def isUnderL (path p : List UInt8) : Bool := !(p == path) && Lib.hasPrefix p (Lib.trimSuffix path [47] ++ [47])
theorem isUnder_eq (path p : ByteArray) : isUnder path p = isUnderL path.data.toList p.data.toList := by
  unfold isUnder isUnderL
  rw [Lib.toList_data, Lib.toList_data]

theorem folder_mk (l : List UInt8) : folderOf (mkS l) = mkS (folderL l) := by rw [folderOf_eq, data_mkS]
theorem right_mk (l : List UInt8) : rightB (mkS l) = rightL l := by rw [rightB_eq, data_mkS]
theorem mkS_inj {a b : List UInt8} (h : mkS a = mkS b) : a = b := by rw [← data_mkS a, h, data_mkS]


/-! ### what 'known' comes to -/
def sR : ByteArray := ⟨#[47]⟩
def sA : ByteArray := ⟨#[47, 97]⟩
def sAB : ByteArray := ⟨#[47, 97, 47, 98]⟩
def sABC : ByteArray := ⟨#[47, 97, 47, 98, 47, 99]⟩
theorem rA : rightB sA = true := by rw [rightB_eq]; decide +kernel
theorem rAB : rightB sAB = true := by rw [rightB_eq]; decide +kernel
theorem rABC : rightB sABC = true := by rw [rightB_eq]; decide +kernel
theorem fA : folderOf sA = sR := by rw [folderOf_eq]; decide +kernel
theorem fAB : folderOf sAB = sA := by rw [folderOf_eq]; decide +kernel
theorem fABC : folderOf sABC = sAB := by rw [folderOf_eq]; decide +kernel
theorem ne1 : sR ≠ sA := by decide +kernel
theorem ne2 : sR ≠ sAB := by decide +kernel
theorem ne3 : sA ≠ sAB := by decide +kernel
theorem ne4 : sR ≠ sABC := by decide +kernel
theorem ne5 : sA ≠ sABC := by decide +kernel
theorem ne6 : sAB ≠ sABC := by decide +kernel
end Go.Proofs.YtopfgaogfnepfaaDoor
