/- Plain laws: what is escaped comes back; a path's name is a name's stem. -/
import Derived.Test.YtgppdndpnflkeaaDoorNk
namespace Go.Proofs.YtgppdndpnflkeaaDoor
open Go.RowKit Go.Rv

theorem all_u8 {p : UInt8 → Prop} [DecidablePred p] (h : ∀ a : Fin 256, p (UInt8.ofNat a.1)) (c : UInt8) : p c := by
  have := h ⟨c.toNat, c.toNat_lt⟩
  simpa using this

theorem escN_append (l m : List UInt8) (k : Nat) (hk : k ≤ l.length) : escN (l ++ m) k = escN l k := by
  induction k with
  | zero => rfl
  | succ k ih => rw [escN, escN, ih (by omega), List.getElem?_append_left (by omega)]
theorem escL_snoc (l : List UInt8) (c : UInt8) : escL (l ++ [c]) = escL l ++ esc1 l.isEmpty c := by
  unfold escL
  rw [List.length_append, List.length_singleton, escN, escN_append _ _ _ (Nat.le_refl _)]
  congr 1
  rw [List.getElem?_append_right (Nat.le_refl _), Nat.sub_self]
  cases l <;> rfl
/-- A text escaped, not at its first byte. -/
def escT (l : List UInt8) : List UInt8 := l.flatMap (esc1 false)
theorem escL_cons (c : UInt8) (l : List UInt8) : escL (c :: l) = esc1 true c ++ escT l := by
  obtain ⟨m, hm⟩ : ∃ m, l.reverse = m := ⟨_, rfl⟩
  have hl : l = m.reverse := by rw [← hm, List.reverse_reverse]
  subst hl
  clear hm
  induction m with
  | nil =>
    simp [escT, escL, escN]
  | cons x m ih =>
    rw [List.reverse_cons, ← List.cons_append, escL_snoc, ih]
    simp [escT, List.flatMap_append]

theorem unhex_hexd (c : UInt8) : 0 ≤ unhexI (hexd (c.toNat / 16)) ∧ 0 ≤ unhexI (hexd (c.toNat % 16)) ∧ UInt8.ofNat (16 * (unhexI (hexd (c.toNat / 16))).toNat + (unhexI (hexd (c.toNat % 16))).toNat) = c := by
  revert c
  exact fun c => all_u8 (p := fun c => 0 ≤ unhexI (hexd (c.toNat / 16)) ∧ 0 ≤ unhexI (hexd (c.toNat % 16)) ∧ UInt8.ofNat (16 * (unhexI (hexd (c.toNat / 16))).toNat + (unhexI (hexd (c.toNat % 16))).toNat) = c) (by decide +kernel) c
theorem plain_ne (b : Bool) (c : UInt8) (h : (alnumB c || c == 58 || c == 95 || (c == 46 && !b)) = true) : c ≠ 45 ∧ c ≠ 92 := by
  have := all_u8 (p := fun c => (alnumB c || c == 58 || c == 95 || (c == 46)) = true → c ≠ 45 ∧ c ≠ 92) (by decide +kernel) c
  refine this ?_
  simp only [Bool.or_eq_true, Bool.and_eq_true] at h ⊢
  rcases h with h | h
  · exact .inl h
  · exact .inr h.1
theorem rawU_esc1 (b : Bool) (c : UInt8) (r : List UInt8) : rawU (esc1 b c ++ r) = (rawU r).map (c :: ·) := by
  unfold esc1
  split
  · rename_i h
    obtain ⟨h1, h2⟩ := plain_ne b c h
    rw [List.singleton_append, rawU_cons, if_neg h1, if_pos h2]
  · split
    · rename_i h
      have : c = 47 := by simpa using h
      subst this
      rw [List.singleton_append, rawU_cons, if_pos rfl]
    · obtain ⟨h1, h2, h3⟩ := unhex_hexd c
      rw [List.cons_append, rawU_cons, if_neg (by decide), if_neg (by decide)]
      show (if (120 : UInt8) = 120 ∧ 0 ≤ unhexI (hexd (c.toNat / 16)) ∧ 0 ≤ unhexI (hexd (c.toNat % 16)) then _ else none) = _
      rw [if_pos ⟨rfl, h1, h2⟩, h3]
      rfl
theorem rawU_escT (l : List UInt8) : rawU (escT l) = some l := by
  induction l with
  | nil => rw [show escT [] = [] from rfl, rawU]
  | cons c l ih =>
    rw [show escT (c :: l) = esc1 false c ++ escT l from by simp [escT], rawU_esc1, ih]; rfl
theorem rawU_escL (l : List UInt8) : rawU (escL l) = some l := by
  cases l with
  | nil => rw [show escL [] = [] from rfl, rawU]
  | cons c l => rw [escL_cons, rawU_esc1, rawU_escT]; rfl
theorem unescL_escL (l : List UInt8) : unescL (escL l) = (l, 0) := by
  rw [unescL, rawU_escL]
  exact if_pos rfl
theorem escL_inj {a b : List UInt8} : escL a = escL b ↔ a = b := by
  constructor
  · intro h
    have := congrArg unescL h
    rw [unescL_escL, unescL_escL] at this
    exact congrArg Prod.fst this
  · intro h; rw [h]

theorem esc1_good (b : Bool) (c : UInt8) : ∀ x ∈ esc1 b c, goodB x = true ∧ x ≠ 64 := by
  cases b
  · exact all_u8 (p := fun c => ∀ x ∈ esc1 false c, goodB x = true ∧ x ≠ 64) (by decide +kernel) c
  · exact all_u8 (p := fun c => ∀ x ∈ esc1 true c, goodB x = true ∧ x ≠ 64) (by decide +kernel) c
theorem esc1_ne (b : Bool) (c : UInt8) : esc1 b c ≠ [] := by
  unfold esc1
  split
  · simp
  · split <;> simp
theorem escL_good (l : List UInt8) : ∀ x ∈ escL l, goodB x = true ∧ x ≠ 64 := by
  cases l with
  | nil => simp [escL, escN]
  | cons c l =>
    rw [escL_cons]
    intro x hx
    rcases List.mem_append.1 hx with h | h
    · exact esc1_good _ _ x h
    · obtain ⟨y, _, hy⟩ := List.mem_flatMap.1 h
      exact esc1_good _ _ x hy
theorem escL_ne {l : List UInt8} (h : l ≠ []) : escL l ≠ [] := by
  cases l with
  | nil => exact absurd rfl h
  | cons c l =>
    rw [escL_cons]
    intro e
    exact esc1_ne _ _ (List.append_eq_nil_iff.1 e).1

def mountE : List UInt8 := [46, 109, 111, 117, 110, 116]
theorem name_mount {p : List UInt8} (h0 : p ≠ []) (hg : ∀ x ∈ p, goodB x = true ∧ x ≠ 64) (hl : p.length ≤ 54) : partsO (p ++ mountE) = some (p, [], false, 5) := by
  have hd : dotO (p ++ mountE) = some (p, mountE) := dotO_at p [109, 111, 117, 110, 116] (by decide)
  have hc : cutL 64 p = (p, [], false) := cutL_none fun x hx => (hg x hx).2
  have ha : goodAll p = true := by rw [goodAll, List.all_eq_true]; exact fun x hx => (hg x hx).1
  rw [partsO, hd]
  dsimp only
  rw [if_neg (by simp [mountE]; omega), Parted.of_def, hc, if_neg (by decide)]
  dsimp only
  rw [if_neg (by simpa using h0), if_neg (by rw [ha]; simp), if_neg (by decide)]
  rfl
theorem ofPath_stem {l : List UInt8} {p : List UInt8} (h : ofPathL l = (p, 0)) : p ≠ [] ∧ ∀ x ∈ p, goodB x = true ∧ x ≠ 64 := by
  unfold ofPathL at h
  split at h
  · cases h
  · split at h
    · cases h; exact ⟨by decide, by decide⟩
    · split at h
      · rename_i h3
        cases h
        refine ⟨escL_ne fun e => ?_, escL_good _⟩
        rw [e] at h3
        revert h3
        decide +kernel
      · cases h
end Go.Proofs.YtgppdndpnflkeaaDoor
