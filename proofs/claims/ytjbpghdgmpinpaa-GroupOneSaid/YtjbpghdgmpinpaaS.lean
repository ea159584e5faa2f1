/- Plain laws on texts: a text parted at a byte. -/
import Derived.Test.YtjbpghdgmpinpaaR
import Derived.Lib.IndexLaws
import Derived.Lib.IndexBytes
import Derived.Lib.TrimByte
namespace Go.Rv

/-- The parts of l between the bytes c. -/
def splitB (c : UInt8) : List UInt8 → List (List UInt8)
  | [] => [[]]
  | x :: l => if x = c then [] :: splitB c l else match splitB c l with
    | [] => [[x]]
    | p :: ps => (x :: p) :: ps

theorem splitB_ne (c : UInt8) (l : List UInt8) : splitB c l ≠ [] := by
  induction l with
  | nil => simp [splitB]
  | cons x l ih =>
    unfold splitB
    split
    · simp
    · split <;> simp

theorem splitB_none {c : UInt8} {l : List UInt8} (h : ∀ x ∈ l, x ≠ c) : splitB c l = [l] := by
  induction l with
  | nil => rfl
  | cons x l ih =>
    have hx := h x (by simp)
    rw [splitB, if_neg hx, ih fun y hy => h y (by simp [hy])]

theorem splitB_at {c : UInt8} (a b : List UInt8) (h : ∀ x ∈ a, x ≠ c) : splitB c (a ++ c :: b) = a :: splitB c b := by
  induction a with
  | nil => simp [splitB]
  | cons x a ih =>
    have hx := h x (by simp)
    rw [List.cons_append, splitB, if_neg hx, ih fun y hy => h y (by simp [hy])]

def mkS (l : List UInt8) : ByteArray := ⟨l.toArray⟩
theorem mkS_data (s : ByteArray) : mkS s.data.toList = s := Lib.mk_data s
theorem data_mkS (l : List UInt8) : (mkS l).data.toList = l := by simp [mkS]

def splitS (c : UInt8) (s : ByteArray) : List ByteArray := (splitB c s.data.toList).map mkS

theorem splitS_none {c : UInt8} {s : ByteArray} (h : Lib.indexByte s.data.toList c < 0) : splitS c s = [s] := by
  have h1 : Lib.indexByte s.data.toList c = -1 := by
    have := Lib.indexByte_ge s.data.toList c
    omega
  have h2 := Lib.indexByte_none h1
  rw [splitS, splitB_none, List.map_singleton, mkS_data]
  intro x hx e
  obtain ⟨k, hk, rfl⟩ := List.getElem_of_mem hx
  exact h2 k (by rw [List.getElem?_eq_getElem hk, e])

theorem splitS_some {c : UInt8} {s : ByteArray} {o : Nat} (h : Lib.indexByte s.data.toList c = (o : Int)) : o < s.size ∧ splitS c s = s.extract 0 o :: splitS c (s.extract (o + 1) s.size) := by
  obtain ⟨h1, h2⟩ := Lib.indexByte_some h
  have ho : o < s.data.toList.length := (List.getElem?_eq_some_iff.1 h1).1
  refine ⟨by rw [Lib.size_eq]; exact ho, ?_⟩
  have e : s.data.toList = s.data.toList.take o ++ c :: s.data.toList.drop (o + 1) := by
    have := List.getElem?_eq_some_iff.1 h1
    obtain ⟨_, h3⟩ := this
    rw [← h3, List.getElem_cons_drop, List.take_append_drop]
  rw [Lib.extract_upto, Lib.extract_from]
  show (splitB c s.data.toList).map mkS = _
  conv => lhs; rw [e]
  rw [splitB_at _ _ ?_]
  · simp [splitS, mkS]
  · intro x hx ec
    obtain ⟨k, hk, rfl⟩ := List.getElem_of_mem hx
    have hk' : k < o := by simp at hk; omega
    refine h2 k hk' ?_
    rw [← ec, List.getElem_take, List.getElem?_eq_getElem]
end Go.Rv
