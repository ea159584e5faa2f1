/- TreeHolds: plain laws on its six paths. -/
import Derived.Test.YtopfgaogfnepfaaDoorTk
namespace Go.Proofs.YtopfgaogfnepfaaDoor
open Go.RowKit Go.Rv

def sAD : ByteArray := ⟨#[47, 97, 47, 100]⟩
def sE : ByteArray := ⟨#[47, 101]⟩
def sEF : ByteArray := ⟨#[47, 101, 47, 102]⟩
def hn : Nat → ByteArray
  | 0 => sA
  | 1 => sAB
  | 2 => sABC
  | 3 => sAD
  | 4 => sE
  | _ => sEF
def hu : Nat → Int
  | 0 => -1
  | 1 => 0
  | 2 => 1
  | 3 => 0
  | 4 => -1
  | _ => 4
theorem rAD : rightB sAD = true := by rw [rightB_eq]; decide +kernel
theorem rE : rightB sE = true := by rw [rightB_eq]; decide +kernel
theorem rEF : rightB sEF = true := by rw [rightB_eq]; decide +kernel
theorem fAD : folderOf sAD = sA := by rw [folderOf_eq]; decide +kernel
theorem fE : folderOf sE = sR := by rw [folderOf_eq]; decide +kernel
theorem fEF : folderOf sEF = sE := by rw [folderOf_eq]; decide +kernel
theorem hn_right (k : Nat) : rightB (hn k) = true := by
  match k with
  | 0 => exact rA
  | 1 => exact rAB
  | 2 => exact rABC
  | 3 => exact rAD
  | 4 => exact rE
  | _ + 5 => exact rEF
theorem hn_size (k : Nat) : (hn k).size < 4611686018427387904 := by
  match k with
  | 0 | 1 | 2 | 3 | 4 => decide
  | _ + 5 => exact (show sEF.size < 4611686018427387904 by decide)
theorem hn_inj {j k : Nat} (hj : j < 6) (hk : k < 6) (h : hn j = hn k) : j = k := by
  have key : ∀ a b : Fin 6, hn a.1 = hn b.1 → a = b := by decide +kernel
  exact congrArg Fin.val (key ⟨j, hj⟩ ⟨k, hk⟩ h)
theorem hn_root {k : Nat} (hk : k < 6) : hn k ≠ sR := by
  have key : ∀ a : Fin 6, hn a.1 ≠ sR := by decide +kernel
  exact key ⟨k, hk⟩
theorem hn_slash {k : Nat} (hk : k < 6) : ((hn k).toList == [47]) = false := by
  rw [Lib.toList_data]
  have key : ∀ a : Fin 6, ((hn a.1).data.toList == [47]) = false := by decide +kernel
  exact key ⟨k, hk⟩
theorem hu_lt (k : Nat) : -1 ≤ hu k ∧ hu k < 6 := by
  match k with
  | 0 | 1 | 2 | 3 | 4 => decide
  | _ + 5 => exact (show -1 ≤ (4 : Int) ∧ (4 : Int) < 6 by decide)
theorem hu_ne {k : Nat} (hk : k < 6) : hu k ≠ k := by
  have key : ∀ a : Fin 6, hu a.1 ≠ (a.1 : Int) := by decide +kernel
  exact key ⟨k, hk⟩
def hf (k : Nat) : ByteArray := if hu k < 0 then sR else hn (hu k).toNat
theorem hn_folder {k : Nat} (hk : k < 6) : folderOf (hn k) = hf k := by
  match k, hk with
  | 0, _ => exact fA
  | 1, _ => exact fAB
  | 2, _ => exact fABC
  | 3, _ => exact fAD
  | 4, _ => exact fE
  | 5, _ => exact fEF
def uT (k j : Nat) : Bool := decide (hu j = k) || (decide (0 ≤ hu j) && decide (hu (hu j).toNat = k))
theorem isUnder_hn {k j : Nat} (hk : k < 6) (hj : j < 6) : isUnder (hn k) (hn j) = uT k j := by
  have key : ∀ a b : Fin 6, isUnderL (hn a.1).data.toList (hn b.1).data.toList = uT a.1 b.1 := by decide +kernel
  rw [isUnder_eq]
  exact key ⟨k, hk⟩ ⟨j, hj⟩
theorem isUnder_root {k : Nat} (hk : k < 6) : isUnder (hn k) sR = false := by
  have key : ∀ a : Fin 6, isUnderL (hn a.1).data.toList sR.data.toList = false := by decide +kernel
  rw [isUnder_eq]
  exact key ⟨k, hk⟩

def okMk (t f : Nat → Bool) (k : Nat) : Bool := !t k && (decide (hu k < 0) || (t (hu k).toNat && f (hu k).toNat))
def kid (t : Nat → Bool) (k j : Nat) : Bool := t j && decide (hu j = k)
def okRm (t : Nat → Bool) (k : Nat) : Nat → Bool
  | 0 => t k
  | n + 1 => okRm t k n && !kid t k n
theorem okRm_iff (t : Nat → Bool) (k n : Nat) : okRm t k n = true ↔ t k = true ∧ ∀ j, j < n → kid t k j = false := by
  induction n with
  | zero => simp [okRm]
  | succ n ih =>
    rw [okRm, Bool.and_eq_true, ih, Bool.not_eq_true']
    constructor
    · rintro ⟨⟨a, b⟩, c⟩
      refine ⟨a, fun j hj => ?_⟩
      by_cases e : j = n
      · rw [e]; exact c
      · exact b j (by omega)
    · rintro ⟨a, b⟩
      exact ⟨⟨a, fun j hj => b j (by omega)⟩, b n (by omega)⟩
structure HT (t f : Nat → Bool) (th : List (ByteArray × Bool)) : Prop where
  at_ : ∀ k, k < 6 → kget th (hn k) = if t k then some (f k) else none
  root : kget th sR = some true
  keys : ∀ x, (kget th x).isSome → x = sR ∨ ∃ k, k < 6 ∧ x = hn k
  nodup : (th.map Prod.fst).Nodup
  closed : ∀ k, k < 6 → t k = true → 0 ≤ hu k → t (hu k).toNat = true
structure SG (g : Nat → Int) (n : Int) (st : List (ByteArray × Int)) : Prop where
  at_ : ∀ j, j < 6 → (kget st (hn j)).getD 0 = g j
  lo : ∀ j, j < 6 → 0 ≤ g j
  hi : ∀ j, j < 6 → g j ≤ n
theorem ht_zero : HT (fun _ => false) (fun _ => false) [(sR, true)] where
  at_ k hk := by simp [kget, (hn_root hk).symm]
  root := by simp [kget]
  keys x hx := by
    left
    by_cases e : sR = x
    · exact e.symm
    · simp [kget, e] at hx
  nodup := by simp
  closed k _ h := by cases h
theorem sg_zero : SG (fun _ => 0) 0 [] := ⟨fun _ _ => rfl, fun _ _ => Int.le_refl _, fun _ _ => Int.le_refl _⟩
section
variable {t f : Nat → Bool} {th : List (ByteArray × Bool)} {k : Nat}
theorem make_HT (h : HT t f th) (hk : k < 6) : makeE th (hn k) = if okMk t f k then 0 else if t k then 112 else 110 := by
  have hl := hu_lt k
  rw [makeE, hn_right, hn_folder hk, h.at_ k hk, okMk, hf]
  rcases htk : t k with _ | _
  · by_cases hn0 : hu k < 0
    · simp [hn0, h.root]
    · have hlt : (hu k).toNat < 6 := by omega
      rw [if_neg hn0, h.at_ _ hlt]
      rcases t (hu k).toNat with _ | _ <;> rcases f (hu k).toNat with _ | _ <;> simp [hn0]
  · simp
theorem found_HT (h : HT t f th) (hk : k < 6) : foundE th (hn k) = if t k then 0 else 110 := by
  rw [foundE, hn_right, h.at_ k hk]
  rcases t k with _ | _ <;> simp
theorem under_HT (h : HT t f th) (hk : k < 6) : underB (th.map Prod.fst) (hn k) = true ↔ ∃ j, j < 6 ∧ kid t k j = true := by
  rw [underB, List.any_eq_true]
  have ht : ∀ j, j < 6 → (kget th (hn j)).isSome → t j = true := fun j hj hx => by
    rw [h.at_ j hj] at hx
    cases hoj : t j
    · rw [hoj] at hx; cases hx
    · rfl
  constructor
  · rintro ⟨x, hx, hu'⟩
    have hx' := (look_isSome_iff th x).2 hx
    rcases h.keys x hx' with rfl | ⟨j, hj, rfl⟩
    · rw [isUnder_root hk] at hu'; cases hu'
    · have htj := ht j hj hx'
      rw [isUnder_hn hk hj] at hu'
      simp only [uT, Bool.or_eq_true, Bool.and_eq_true, decide_eq_true_eq] at hu'
      rcases hu' with e | ⟨e0, e⟩
      · exact ⟨j, hj, by simp [kid, htj, e]⟩
      · have hl := hu_lt j
        have := h.closed j hj htj e0
        exact ⟨(hu j).toNat, by omega, by simp [kid, this, e]⟩
  · rintro ⟨j, hj, hkid⟩
    simp only [kid, Bool.and_eq_true, decide_eq_true_eq] at hkid
    refine ⟨hn j, (look_isSome_iff th (hn j)).1 (by rw [h.at_ j hj, hkid.1]; rfl), ?_⟩
    rw [isUnder_hn hk hj]
    simp [uT, hkid.2]
theorem remove_HT (h : HT t f th) (hk : k < 6) : removeE th [] (hn k) = if okRm t k 6 then 0 else if t k then 112 else 110 := by
  rw [removeE, found_HT h hk, hn_slash hk]
  rcases htk : t k with _ | _
  · have : okRm t k 6 = false := by
      rw [← Bool.not_eq_true, okRm_iff, htk]; simp
    rw [this]; rfl
  · rcases hu : underB (th.map Prod.fst) (hn k) with _ | _
    · have : okRm t k 6 = true := (okRm_iff t k 6).2 ⟨htk, fun j hj => by
        rw [← Bool.not_eq_true]
        intro hkid
        have := (under_HT h hk).2 ⟨j, hj, hkid⟩
        rw [hu] at this; cases this⟩
      rw [this]; rfl
    · obtain ⟨j, hj, hkid⟩ := (under_HT h hk).1 hu
      have : okRm t k 6 = false := by
        rw [← Bool.not_eq_true, okRm_iff]
        intro hx
        rw [hx.2 j hj] at hkid; cases hkid
      rw [this]; rfl
def setB (t : Nat → Bool) (k : Nat) (b : Bool) : Nat → Bool := fun j => if j = k then b else t j
theorem HT.make (h : HT t f th) (hk : k < 6) (b : Bool) (ho : okMk t f k = true) : HT (setB t k true) (setB f k b) (kput th (hn k) b) where
  at_ j hj := by
    by_cases e : j = k
    · subst e; rw [look_upd_same]; simp [setB]
    · rw [look_upd_other _ _ (fun e2 => e (hn_inj hj hk e2)), h.at_ j hj]; simp [setB, e]
  root := by rw [look_upd_other _ _ (hn_root hk).symm]; exact h.root
  keys x hx := by
    by_cases e : x = hn k
    · exact .inr ⟨k, hk, e⟩
    · rw [look_upd_other _ _ e] at hx; exact h.keys x hx
  nodup := nodup_upd h.nodup _ _
  closed j hj hj' h0 := by
    have hl := hu_lt j
    simp only [okMk, Bool.and_eq_true, Bool.or_eq_true, decide_eq_true_eq] at ho
    unfold setB at hj' ⊢
    split
    · rfl
    · split at hj'
      · rename_i e1 e2
        subst e2
        rcases ho.2 with h1 | h1
        · omega
        · exact h1.1
      · exact h.closed j hj hj' h0
theorem HT.remove (h : HT t f th) (hk : k < 6) (ho : okRm t k 6 = true) : HT (setB t k false) f (kdel th (hn k)) where
  at_ j hj := by
    by_cases e : j = k
    · subst e; rw [look_del_same h.nodup]; simp [setB]
    · rw [look_del_other _ (fun e2 => e (hn_inj hj hk e2)), h.at_ j hj]; simp [setB, e]
  root := by rw [look_del_other _ (hn_root hk).symm]; exact h.root
  keys x hx := by
    by_cases e : x = hn k
    · exact .inr ⟨k, hk, e⟩
    · rw [look_del_other _ e] at hx; exact h.keys x hx
  nodup := nodup_del h.nodup _
  closed j hj hj' h0 := by
    have hl := hu_lt j
    unfold setB at hj' ⊢
    split at hj'
    · cases hj'
    · have hc := h.closed j hj hj' h0
      split
      · rename_i e
        have := ((okRm_iff t k 6).1 ho).2 j hj
        simp only [kid, hj', Bool.true_and, decide_eq_false_iff_not] at this
        omega
      · exact hc
end
/-- What a step adds to the stamps. -/
def upG (g : Nat → Int) (k : Nat) (q2 : Bool) : Nat → Int := fun j => if j = k ∨ (q2 = false ∧ hu k = j) then g j + 1 else g j
section
variable {g : Nat → Int} {n : Int} {st : List (ByteArray × Int)} {k : Nat}
theorem wrap_small {x : Int} (h0 : 0 ≤ x) (h1 : x ≤ 1000) : wrap64 x = x := by
  simp [wrap64]; omega
theorem upG_le (h : SG g n st) (q : Bool) : (∀ j, j < 6 → 0 ≤ upG g k q j) ∧ ∀ j, j < 6 → upG g k q j ≤ n + 1 := by
  refine ⟨fun j hj => ?_, fun j hj => ?_⟩
  · have := h.lo j hj; unfold upG; split <;> omega
  · have := h.hi j hj; unfold upG; split <;> omega
theorem SG.touch (h : SG g n st) (hk : k < 6) (hn9 : n ≤ 900) : SG (upG g k true) (n + 1) (kput st (hn k) (wrap64 ((kget st (hn k)).getD 0 + 1))) where
  at_ j hj := by
    have h1 := h.lo k hk
    have h2 := h.hi k hk
    by_cases e : j = k
    · subst e; rw [look_upd_same, h.at_ j hj, wrap_small (by omega) (by omega)]; simp [upG]
    · rw [look_upd_other _ _ (fun e2 => e (hn_inj hj hk e2)), h.at_ j hj]; simp [upG, e]
  lo := (upG_le h true).1
  hi := (upG_le h true).2
theorem SG.chg (h : SG g n st) (hk : k < 6) (hn9 : n ≤ 900) : SG (upG g k false) (n + 1) (chg st (hn k)) where
  at_ j hj := by
    have h1 := h.lo k hk
    have h2 := h.hi k hk
    have hl := hu_lt k
    have key : ∀ i, i < 6 → (kget (kput st (hn k) (wrap64 ((kget st (hn k)).getD 0 + 1))) (hn i)).getD 0 = if i = k then g i + 1 else g i := fun i hi => by
      by_cases e : i = k
      · subst e; rw [look_upd_same, h.at_ i hi, wrap_small (by omega) (by omega)]; simp
      · rw [look_upd_other _ _ (fun e2 => e (hn_inj hi hk e2)), h.at_ i hi]; simp [e]
    show (kget (kput _ (folderOf (hn k)) _) (hn j)).getD 0 = _
    rw [hn_folder hk]
    by_cases h0 : hu k < 0
    · have e1 : hf k = sR := by rw [hf, if_pos h0]
      rw [e1, look_upd_other _ _ (hn_root hj), key j hj]
      have : ¬ hu k = j := by omega
      simp [upG, this]
    · have hlt : (hu k).toNat < 6 := by omega
      have e1 : hf k = hn (hu k).toNat := by rw [hf, if_neg h0]
      have hne := hu_ne hk
      rw [e1]
      by_cases e : j = (hu k).toNat
      · subst e
        have h3 := h.lo (hu k).toNat hlt
        have h4 := h.hi (hu k).toNat hlt
        have hne' : ¬ (hu k).toNat = k := by omega
        rw [look_upd_same, key _ hlt, if_neg hne', Option.getD_some, wrap_small (by omega) (by omega)]
        have : hu k = ((hu k).toNat : Int) := by omega
        rw [upG, if_pos (.inr ⟨rfl, this⟩)]
      · rw [look_upd_other _ _ (fun e2 => e (hn_inj hj hlt e2)), key j hj]
        have : ¬ hu k = j := by omega
        simp [upG, this]
  lo := (upG_le h false).1
  hi := (upG_le h false).2
theorem SG.same (h : SG g n st) : SG g (n + 1) st := ⟨h.at_, h.lo, fun j hj => by have := h.hi j hj; omega⟩
end
end Go.Proofs.YtopfgaogfnepfaaDoor
