/- TreeDeep: plain laws on its paths. -/
import Derived.Test.YtopfgaogfnepfaaDoorTk
namespace Go.Proofs.YtopfgaogfnepfaaDoor
open Go.RowKit Go.Rv

def part (z : Nat) : List UInt8 := List.replicate z 112
def P (z : Nat) : Nat → List UInt8
  | 0 => []
  | i + 1 => P z i ++ 47 :: part z
def Pq (z : Nat) : Nat → List UInt8
  | 0 => part z
  | i + 1 => Pq z i ++ 47 :: part z

theorem splitB_snoc (c : UInt8) (a b : List UInt8) : splitB c (a ++ c :: b) = splitB c a ++ splitB c b := by
  induction a with
  | nil => simp [splitB]
  | cons x a ih =>
    rw [List.cons_append, splitB]
    by_cases hx : x = c
    · rw [if_pos hx, ih]; conv => rhs; rw [splitB, if_pos hx]
      rfl
    · rw [if_neg hx, ih]; conv => rhs; rw [splitB, if_neg hx]
      cases h : splitB c a with
      | nil => exact absurd h (splitB_ne c a)
      | cons p ps => rfl

theorem P_succ (z i : Nat) : P z (i + 1) = 47 :: Pq z i := by
  induction i with
  | zero => rfl
  | succ i ih => rw [P, ih, Pq]; rfl
theorem part_mem {z : Nat} : ∀ x ∈ part z, x = 112 := fun _ h => List.eq_of_mem_replicate h
theorem part_ne {z : Nat} : ∀ x ∈ part z, x ≠ 47 := fun x h => by rw [part_mem x h]; decide
theorem part_len (z : Nat) : (part z).length = z := List.length_replicate
theorem split_Pq (z i : Nat) : splitB 47 (Pq z i) = List.replicate (i + 1) (part z) := by
  induction i with
  | zero => rw [Pq, splitB_none part_ne]; rfl
  | succ i ih => rw [Pq, splitB_snoc, ih, splitB_none part_ne, List.replicate_succ' (n := i + 1)]
theorem Pq_mem (z i : Nat) : ∀ x ∈ Pq z i, x = 112 ∨ x = 47 := by
  induction i with
  | zero => intro x h; exact .inl (part_mem x h)
  | succ i ih =>
    intro x h
    rw [Pq, List.mem_append, List.mem_cons] at h
    rcases h with h | h | h
    · exact ih x h
    · exact .inr h
    · exact .inl (part_mem x h)
theorem P_len (z i : Nat) : (P z i).length = i * (z + 1) := by
  induction i with
  | zero => simp [P]
  | succ i ih => rw [P, List.length_append, List.length_cons, ih, part_len, Nat.succ_mul]
theorem P_inj {z i j : Nat} (h : P z i = P z j) : i = j := by
  have := congrArg List.length h
  rw [P_len, P_len] at this
  exact Nat.eq_of_mul_eq_mul_right (by omega) this
theorem indexByte_neg {l : List UInt8} {c : UInt8} (h : ∀ x ∈ l, x ≠ c) : Lib.indexByte l c < 0 := by
  have h1 := Lib.indexByte_ge l c
  by_cases h2 : Lib.indexByte l c < 0
  · exact h2
  · obtain ⟨o, ho⟩ : ∃ o : Nat, Lib.indexByte l c = (o : Int) := ⟨(Lib.indexByte l c).toNat, by omega⟩
    obtain ⟨h3, _⟩ := Lib.indexByte_some ho
    exact absurd rfl (h c (List.mem_of_getElem? h3))

theorem okL_part {z : Nat} (hz : 1 ≤ z) : okL (part z) = decide (z ≤ 40) := by
  unfold okL
  rw [part_len]
  have h1 : (part z).isEmpty = false := by cases z with
    | zero => omega
    | succ z => rfl
  have hm : ∀ l : List UInt8, 112 ∉ l → (part z == l) = false := by
    intro l hl
    rw [beq_eq_false_iff_ne]
    intro e
    refine hl (e ▸ List.mem_replicate.2 ⟨by omega, rfl⟩)
  rw [h1, hm [46] (by decide), hm [46, 46] (by decide)]
  rfl

theorem rightL_P {z i : Nat} (hz : 1 ≤ z) : rightL (P z (i + 1)) = (decide (z ≤ 40) && decide (i + 1 ≤ 8)) := by
  rw [P_succ]
  unfold rightL
  have hne : (47 :: Pq z i == [47]) = false := by
    rw [beq_eq_false_iff_ne]
    intro e
    have : splitB 47 (Pq z i) = [[]] := by rw [(List.cons.inj e).2]; rfl
    rw [split_Pq, List.replicate_succ] at this
    have h := (List.cons.inj this).1
    have := congrArg List.length h
    rw [part_len, List.length_nil] at this
    omega
  have hp : Lib.hasPrefix (47 :: Pq z i) [47] = true := by simp [Lib.hasPrefix, List.isPrefixOf]
  have ht : Lib.trimPrefix (47 :: Pq z i) [47] = Pq z i := by rw [Lib.trimPrefix, if_pos hp]; rfl
  have hi : Lib.indexByte (47 :: Pq z i) 0 < 0 := indexByte_neg fun x hx => by
    rcases List.mem_cons.1 hx with rfl | hx
    · decide
    · rcases Pq_mem z i x hx with rfl | rfl <;> decide
  rw [hne, hp, ht, decide_eq_true hi, split_Pq, List.length_replicate]
  have : (List.replicate (i + 1) (part z)).all okL = decide (z ≤ 40) := by
    rw [List.all_replicate, okL_part hz]; simp
  rw [this]; simp

theorem folderL_P (z i : Nat) : folderL (P z (i + 1)) = if i = 0 then [47] else P z i := by
  unfold folderL
  have hb : beforeLast 47 (P z (i + 1)) = some (P z i) := by rw [P]; exact beforeLast_at _ _ part_ne
  rw [hb]
  cases i with
  | zero => rfl
  | succ i => rw [P_succ, if_neg (by omega)]

/-- What is there after j rounds. -/
structure DT (z j : Nat) (th : List (ByteArray × Bool)) : Prop where
  root : kget th sR = some true
  at_ : ∀ q, 1 ≤ q → kget th (mkS (P z q)) = if z ≤ 40 ∧ q ≤ j ∧ q ≤ 8 then some true else none

theorem sR_mk : sR = mkS [47] := rfl
theorem P_ne_root {z q : Nat} (hz : 1 ≤ z) (hq : 1 ≤ q) : mkS (P z q) ≠ sR := fun e => by
  rw [sR_mk] at e
  have := congrArg List.length (mkS_inj e)
  rw [P_len] at this
  have h2 : 1 * (z + 1) ≤ q * (z + 1) := Nat.mul_le_mul_right _ hq
  simp at this
  omega
theorem dt_zero {z : Nat} (hz : 1 ≤ z) : DT z 0 [(sR, true)] where
  root := by simp [kget]
  at_ q hq := by
    rw [if_neg (by omega)]
    have := P_ne_root hz hq
    simp [kget, Ne.symm this]
theorem dt_make_no {z j : Nat} {th : List (ByteArray × Bool)} (hz : 1 ≤ z) (h : ¬ (z ≤ 40 ∧ j + 1 ≤ 8)) : makeE th (mkS (P z (j + 1))) = 111 := by
  rw [makeE, right_mk, rightL_P hz, if_neg (by simpa using h)]
theorem dt_step_no {z j : Nat} {th : List (ByteArray × Bool)} (hd : DT z j th) (h : ¬ (z ≤ 40 ∧ j + 1 ≤ 8)) : DT z (j + 1) th where
  root := hd.root
  at_ q hq := by
    rw [hd.at_ q hq]
    by_cases h1 : z ≤ 40 ∧ q ≤ j ∧ q ≤ 8
    · rw [if_pos h1, if_pos ⟨h1.1, by omega, h1.2.2⟩]
    · rw [if_neg h1, if_neg fun h2 => h ⟨h2.1, by by_cases e : q = j + 1 <;> omega⟩]
theorem dt_make_yes {z j : Nat} {th : List (ByteArray × Bool)} (hz : 1 ≤ z) (hd : DT z j th) (h : z ≤ 40 ∧ j + 1 ≤ 8) : makeE th (mkS (P z (j + 1))) = 0 := by
  have h0 : kget th (mkS (P z (j + 1))) = none := by rw [hd.at_ _ (by omega), if_neg (by omega)]
  have h1 : kget th (folderOf (mkS (P z (j + 1)))) = some true := by
    rw [folder_mk, folderL_P]
    by_cases hj : j = 0
    · rw [if_pos hj]; exact hd.root
    · rw [if_neg hj, hd.at_ _ (by omega), if_pos ⟨h.1, by omega, by omega⟩]
  rw [makeE, right_mk, rightL_P hz, if_pos (by simpa using h), h0, h1]; rfl
theorem dt_step_yes {z j : Nat} {th : List (ByteArray × Bool)} (hz : 1 ≤ z) (hd : DT z j th) (h : z ≤ 40 ∧ j + 1 ≤ 8) : DT z (j + 1) (kput th (mkS (P z (j + 1))) true) where
  root := by rw [look_upd_other _ _ (P_ne_root hz (by omega)).symm]; exact hd.root
  at_ q hq := by
    by_cases e : q = j + 1
    · subst e; rw [look_upd_same, if_pos ⟨h.1, by omega, h.2⟩]
    · rw [look_upd_other _ _ (fun e2 => e (P_inj (mkS_inj e2))), hd.at_ q hq]
      by_cases h1 : z ≤ 40 ∧ q ≤ j ∧ q ≤ 8
      · rw [if_pos h1, if_pos ⟨h1.1, by omega, h1.2.2⟩]
      · rw [if_neg h1, if_neg (by omega)]
theorem make_bad {th : List (ByteArray × Bool)} {s : ByteArray} (h : rightB s = false) : makeE th s = 111 := by rw [makeE, h]; rfl
theorem make_root {th : List (ByteArray × Bool)} (h : kget th sR = some true) : makeE th sR = 112 := by
  have : rightB sR = true := by rw [rightB_eq]; decide +kernel
  rw [makeE, this, h]; rfl
theorem bad1 : rightB ⟨#[47, 97, 47, 46]⟩ = false := by rw [rightB_eq]; decide +kernel
theorem bad2 : rightB ⟨#[47, 46, 46]⟩ = false := by rw [rightB_eq]; decide +kernel
theorem bad3 : rightB ⟨#[]⟩ = false := by rw [rightB_eq]; decide +kernel
theorem bad4 : rightB ⟨#[47, 120, 47]⟩ = false := by rw [rightB_eq]; decide +kernel
end Go.Proofs.YtopfgaogfnepfaaDoor
