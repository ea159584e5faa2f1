/- GroupOne: the plain law. -/
import Derived.Test.YtjbpghdgmpinpaaGc
namespace Go.Proofs.Ytjbpghdgmpinpaa
open Go.RowKit Go.Rv

def nm : Nat → ByteArray
  | 0 => ⟨#[97]⟩
  | 1 => ⟨#[98]⟩
  | 2 => ⟨#[99]⟩
  | _ => ⟨#[100]⟩
theorem nm_inj {i j : Nat} (hi : i < 4) (hj : j < 4) (h : nm i = nm j) : i = j := by
  have e : ∀ i j : Fin 4, nm i = nm j → i = j := by decide
  have := e ⟨i, hi⟩ ⟨j, hj⟩ h
  exact congrArg Fin.val this
def gOf (L : Nat → List Int) : List (ByteArray × List Int) := [(nm 0, L 0), (nm 1, L 1), (nm 2, L 2), (nm 3, L 3)]
theorem lt4 {P : Nat → Prop} {j : Nat} (hj : j < 4) (h0 : P 0) (h1 : P 1) (h2 : P 2) (h3 : P 3) : P j := by
  rcases j with _ | _ | _ | _ | j
  · exact h0
  · exact h1
  · exact h2
  · exact h3
  · omega
theorem ne01 : nm 0 ≠ nm 1 := by decide
theorem ne02 : nm 0 ≠ nm 2 := by decide
theorem ne03 : nm 0 ≠ nm 3 := by decide
theorem ne12 : nm 1 ≠ nm 2 := by decide
theorem ne13 : nm 1 ≠ nm 3 := by decide
theorem ne23 : nm 2 ≠ nm 3 := by decide
theorem gOf_get (L : Nat → List Int) {j : Nat} (hj : j < 4) : kget (gOf L) (nm j) = some (L j) :=
  lt4 (P := fun j => kget (gOf L) (nm j) = some (L j)) hj (by simp [gOf, kget]) (by simp [gOf, kget, ne01]) (by simp [gOf, kget, ne02, ne12]) (by simp [gOf, kget, ne03, ne13, ne23])
theorem gOf_set (L : Nat → List Int) {j : Nat} (hj : j < 4) (f : List Int → List Int) : setIn (gOf L) (nm j) f = gOf fun i => if i = j then f (L i) else L i :=
  lt4 (P := fun j => setIn (gOf L) (nm j) f = gOf fun i => if i = j then f (L i) else L i) hj (by simp [gOf, setIn, ne01.symm, ne02.symm, ne03.symm]) (by simp [gOf, setIn, ne01, ne12.symm, ne13.symm]) (by simp [gOf, setIn, ne02, ne12, ne23.symm]) (by simp [gOf, setIn, ne03, ne13, ne23])
theorem gOf_some {L : Nat → List Int} {n : ByteArray} (h : ∃ j, j < 4 ∧ n = nm j) : (kget (gOf L) n).isSome = true := by
  obtain ⟨j, hj, rfl⟩ := h
  rw [gOf_get L hj]; rfl

structure One (a : Int → Nat) (L : Nat → List Int) (of : List (Int × ByteArray)) (notes : List ByteArray) : Prop where
  rng : ∀ q, a q ≠ 0 → 2 ≤ q ∧ q < 10
  top : ∀ q, a q ≤ 4
  mem : ∀ k, k < 4 → ∀ q, q ∈ L k ↔ a q = k + 1
  nd : ∀ k, k < 4 → (L k).Nodup
  of_ : ∀ q, kget of q = if a q = 0 then none else some (nm (a q - 1))
  ofn : (of.map Prod.fst).Nodup
  nn : notes.Nodup
  nin : ∀ n ∈ notes, ∃ k, k < 4 ∧ n = nm k
def updA (a : Int → Nat) (p : Int) (k : Nat) : Int → Nat := fun q => if q = p then k else a q

section
variable {a : Int → Nat} {L : Nat → List Int} {of : List (Int × ByteArray)} {notes : List ByteArray}
theorem one_start : One (fun _ => 0) (fun _ => []) [] [] := ⟨by simp, by simp, by simp, by simp, by simp [kget], by simp, by simp, by simp⟩
theorem One.hin (h : One a L of notes) : ∀ q n, kget of q = some n → (kget (gOf L) n).isSome = true := fun q n hq => by
  rw [h.of_] at hq
  have := h.top q
  split at hq
  · cases hq
  · cases hq
    exact gOf_some ⟨a q - 1, by omega, rfl⟩
theorem containsS_mem (l : List ByteArray) (n : ByteArray) : Lib.containsS l n = true ↔ n ∈ l := by
  simp [Lib.containsS_iff]
theorem One.gone (h : One a L of notes) (p : Int) : ∃ L', goneG (gOf L) of p = gOf L' ∧ One (updA a p 0) L' (kdel of p) (goneN (gOf L) of notes p) ∧ (kget of p).isSome = decide (0 < a p) := by
  have hp := h.of_ p
  have htop := h.top p
  by_cases h0 : a p = 0
  · rw [if_pos h0] at hp
    have ha : updA a p 0 = a := by
      funext q
      unfold updA
      split
      · rename_i e; rw [e, h0]
      · rfl
    refine ⟨L, by simp [goneG, hp], ?_, by simp [hp, h0]⟩
    rw [ha, del_of_none hp]
    simp only [goneN, hp]
    exact h
  · rw [if_neg h0] at hp
    have hj : a p - 1 < 4 := by omega
    have hg : goneG (gOf L) of p = gOf fun i => if i = a p - 1 then (L i).erase p else L i := by simp only [goneG, hp]; exact gOf_set L hj _
    have hn : goneN (gOf L) of notes p = if (L (a p - 1)).erase p = [] ∧ Lib.containsS notes (nm (a p - 1)) = false then notes ++ [nm (a p - 1)] else notes := by
      simp only [goneN, hp, gOf_get L hj, Option.getD_some]
    refine ⟨_, hg, ⟨fun q hq => ?_, fun q => ?_, fun k hk q => ?_, fun k hk => ?_, fun q => ?_, nodup_del h.ofn p, ?_, ?_⟩, by simp [hp]; omega⟩
    · unfold updA at hq
      split at hq
      · exact absurd rfl hq
      · exact h.rng q hq
    · unfold updA
      split
      · omega
      · exact h.top q
    · unfold updA
      by_cases hka : k = a p - 1
      · rw [if_pos hka, (h.nd k hk).mem_erase_iff, h.mem k hk]
        by_cases hqp : q = p
        · simp [hqp]
        · simp [hqp]
      · rw [if_neg hka, h.mem k hk]
        by_cases hqp : q = p
        · subst hqp; simp; omega
        · simp [hqp]
    · show (if k = a p - 1 then (L k).erase p else L k).Nodup
      split
      · exact (h.nd k hk).erase p
      · exact h.nd k hk
    · rw [look_del h.ofn, h.of_]
      unfold updA
      by_cases hqp : q = p
      · simp [hqp]
      · simp [hqp]
    · rw [hn]
      split
      · rename_i hc
        refine List.nodup_append.2 ⟨h.nn, by simp, ?_⟩
        intro x hx y hy e
        simp only [List.mem_singleton] at hy
        have := (containsS_mem notes (nm (a p - 1))).2 (by rw [← hy, ← e]; exact hx)
        rw [hc.2] at this; cases this
      · exact h.nn
    · rw [hn]
      split
      · intro n hn
        rcases List.mem_append.1 hn with hn | hn
        · exact h.nin n hn
        · simp only [List.mem_singleton] at hn
          exact ⟨_, hj, hn⟩
      · exact h.nin
theorem One.put (h : One a L of notes) {p : Int} (hp2 : 2 ≤ p) (hp10 : p < 10) {k : Nat} (hk : k < 4) :
    putE (gOf L) p (nm k) = 0 ∧ ∃ L', putG (gOf L) of p (nm k) = gOf L' ∧ One (updA a p (k + 1)) L' (putO (gOf L) of p (nm k)) (putN (gOf L) of notes p (nm k)) := by
  refine ⟨by simp [putE, gOf_get L hk, hp2], ?_⟩
  by_cases hm : p ∈ L k
  · have hpu : puts (gOf L) p (nm k) = false := by simp [puts, gOf_get L hk, hm]
    have ha : updA a p (k + 1) = a := by
      funext q
      unfold updA
      split
      · rename_i e; rw [e, (h.mem k hk p).1 hm]
      · rfl
    refine ⟨L, by simp [putG, hpu], ?_⟩
    simp only [putO, putN, hpu, ha]
    exact h
  · have hpu : puts (gOf L) p (nm k) = true := by simp [puts, gOf_get L hk, hm, hp2]
    obtain ⟨L', h1, h2, _⟩ := h.gone p
    have hnot : ∀ k, k < 4 → p ∉ L' k := fun k hk hm' => by
      have := (h2.mem k hk p).1 hm'
      simp [updA] at this
    refine ⟨fun i => if i = k then addI (L' i) p else L' i, by simp only [putG, hpu, h1, if_true]; exact gOf_set L' hk _, ?_⟩
    simp only [putO, putN, hpu, if_true]
    refine ⟨fun q hq => ?_, fun q => ?_, fun j hj q => ?_, fun j hj => ?_, fun q => ?_, nodup_upd h2.ofn _ _, h2.nn, h2.nin⟩
    · unfold updA at hq
      split at hq
      · rename_i e; subst e; exact ⟨hp2, hp10⟩
      · exact h.rng q hq
    · unfold updA
      split
      · omega
      · exact h.top q
    · have hmj := h2.mem j hj q
      unfold updA at hmj ⊢
      by_cases hjk : j = k
      · subst hjk
        simp only [if_true]
        by_cases hqp : q = p
        · subst hqp; simp [addI, hnot j hj]
        · simp only [hqp, if_false] at hmj ⊢
          simp [addI, hnot j hj, hqp, hmj]
      · simp only [hjk, if_false]
        rw [hmj]
        by_cases hqp : q = p
        · subst hqp; simp; omega
        · simp [hqp]
    · show (if j = k then addI (L' j) p else L' j).Nodup
      split
      · simp only [addI, hnot j hj, if_false]
        refine List.nodup_append.2 ⟨h2.nd j hj, by simp, ?_⟩
        intro x hx y hy e
        simp only [List.mem_singleton] at hy
        rw [e, hy] at hx
        exact hnot j hj hx
      · exact h2.nd j hj
    · rw [look_upd]
      have := h2.of_ q
      unfold updA at this ⊢
      by_cases hqp : q = p
      · simp [hqp]
      · simp only [hqp, if_false] at this ⊢
        rw [this]
theorem nodup_sub_len {α : Type} [DecidableEq α] {l m : List α} (hn : l.Nodup) (hs : l ⊆ m) : l.length ≤ m.length := by
  induction l generalizing m with
  | nil => exact Nat.zero_le _
  | cons x l ih =>
    simp only [List.nodup_cons] at hn
    have hx : x ∈ m := hs (by simp)
    have h1 : l ⊆ m.erase x := fun y hy => by
      have hne : y ≠ x := fun e => hn.1 (e ▸ hy)
      exact (List.mem_erase_of_ne hne).2 (hs (by simp [hy]))
    have h2 := ih hn.2 h1
    have h3 := List.length_erase_of_mem hx
    have h4 := List.length_pos_of_mem hx
    simp only [List.length_cons]
    omega
theorem One.notes_len (h : One a L of notes) : notes.length ≤ 4 := by
  have hs : notes ⊆ [nm 0, nm 1, nm 2, nm 3] := fun n hn => by
    obtain ⟨k, hk, rfl⟩ := h.nin n hn
    exact lt4 (P := fun k => nm k ∈ [nm 0, nm 1, nm 2, nm 3]) hk (by simp) (by simp) (by simp) (by simp)
  exact nodup_sub_len h.nn hs
theorem emptied_spec (G : List (ByteArray × List Int)) (l : List ByteArray) :
    (emptiedL G l).2 <:+ l ∧ (∀ n, (emptiedL G l).1 = some n → (kget G n).getD [] = [] ∧ n ∈ l ∧ (emptiedL G l).2.length < l.length) := by
  induction l with
  | nil => exact ⟨List.suffix_refl _, fun n h => by cases h⟩
  | cons x l ih =>
    unfold emptiedL
    split
    · rename_i hx
      exact ⟨List.suffix_cons _ _, fun n h => by cases h; exact ⟨hx, by simp, by simp⟩⟩
    · refine ⟨ih.1.trans (List.suffix_cons _ _), fun n h => ?_⟩
      obtain ⟨h1, h2, h3⟩ := ih.2 n h
      exact ⟨h1, by simp [h2], by simp; omega⟩
theorem One.emptied (h : One a L of notes) : One a L of (emptiedL (gOf L) notes).2 :=
  have hs := (emptied_spec (gOf L) notes).1
  ⟨h.rng, h.top, h.mem, h.nd, h.of_, h.ofn, hs.sublist.nodup h.nn, fun n hn => h.nin n (hs.subset hn)⟩

/-! ### the members wanted -/
def wantTo (a : Int → Nat) (k m : Nat) : List Int := ((List.range m).map fun (i : Nat) => (i : Int) + 2).filter fun q => a q == k + 1
theorem wantTo_succ (a : Int → Nat) (k m : Nat) : wantTo a k (m + 1) = if a ((m : Int) + 2) = k + 1 then wantTo a k m ++ [(m : Int) + 2] else wantTo a k m := by
  unfold wantTo
  rw [List.range_succ, List.map_append, List.filter_append]
  split
  · rename_i h; simp [h]
  · rename_i h; simp [h]
theorem wantTo_lt (a : Int → Nat) (k m : Nat) : (wantTo a k m).Pairwise (· < ·) := by
  unfold wantTo
  refine List.Pairwise.filter _ ?_
  rw [List.pairwise_map]
  exact List.pairwise_lt_range.imp fun h => by omega
theorem rising_eq {l l' : List Int} (hp : l.Perm l') (hs : l'.Pairwise (· < ·)) : risingI l = l' := by
  unfold risingI
  refine List.Perm.eq_of_pairwise (le := fun x y => decide (x ≤ y) = true) (fun x y _ _ h1 h2 => ?_) (List.pairwise_mergeSort (fun x y z h1 h2 => ?_) (fun x y => ?_) l) (hs.imp fun h => ?_) ((List.mergeSort_perm l _).trans hp)
  · simp at h1 h2; omega
  · simp at h1 h2 ⊢; omega
  · simp; omega
  · simp; omega
theorem One.members (h : One a L of notes) {k : Nat} (hk : k < 4) {xs : List Int} (hx : xs.Perm (L k)) : risingI xs = wantTo a k 8 := by
  refine rising_eq (hx.trans ?_) (wantTo_lt a k 8)
  refine (List.perm_ext_iff_of_nodup (h.nd k hk) ((wantTo_lt a k 8).imp fun h => by omega)).2 fun q => ?_
  rw [h.mem k hk]
  unfold wantTo
  simp only [List.mem_filter, List.mem_map, List.mem_range, beq_iff_eq]
  constructor
  · intro hq
    have := h.rng q (by omega)
    exact ⟨⟨(q - 2).toNat, by omega, by omega⟩, hq⟩
  · exact fun h => h.2
end
end Go.Proofs.Ytjbpghdgmpinpaa
