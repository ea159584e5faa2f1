/- TreeMounts: plain laws on its five paths. -/
import Derived.Test.YtopfgaogfnepfaaDoorTk
namespace Go.Proofs.YtopfgaogfnepfaaDoor
open Go.RowKit Go.Rv

def sD : ByteArray := ⟨#[47, 100]⟩
def sAb : ByteArray := ⟨#[47, 97, 98]⟩
def sDisk : ByteArray := ⟨#[100, 105, 115, 107]⟩
def nm : Nat → ByteArray
  | 0 => sA
  | 1 => sAB
  | 2 => sABC
  | 3 => sD
  | _ => sAb
theorem rD : rightB sD = true := by rw [rightB_eq]; decide +kernel
theorem rAb : rightB sAb = true := by rw [rightB_eq]; decide +kernel
theorem fD : folderOf sD = sR := by rw [folderOf_eq]; decide +kernel
theorem fAb : folderOf sAb = sR := by rw [folderOf_eq]; decide +kernel
theorem nm_right (k : Nat) : rightB (nm k) = true := by
  match k with
  | 0 => exact rA
  | 1 => exact rAB
  | 2 => exact rABC
  | 3 => exact rD
  | _ + 4 => exact rAb
theorem nm_size (k : Nat) : (nm k).size < 4611686018427387904 := by
  match k with
  | 0 | 1 | 2 | 3 => decide
  | _ + 4 => exact (show sAb.size < 4611686018427387904 by decide)
theorem nm_inj {j k : Nat} (hj : j < 5) (hk : k < 5) (h : nm j = nm k) : j = k := by
  have key : ∀ a b : Fin 5, nm a.1 = nm b.1 → a = b := by decide +kernel
  exact congrArg Fin.val (key ⟨j, hj⟩ ⟨k, hk⟩ h)
def upto : Nat → List (ByteArray × Bool)
  | 0 => [(sR, true)]
  | k + 1 => kput (upto k) (nm k) true
theorem upto_make {k : Nat} (hk : k < 5) : makeE (upto k) (nm k) = 0 := by
  match k, hk with
  | 0, _ => show makeE (upto 0) sA = 0; rw [makeE, rA, fA]; decide +kernel
  | 1, _ => show makeE (upto 1) sAB = 0; rw [makeE, rAB, fAB]; decide +kernel
  | 2, _ => show makeE (upto 2) sABC = 0; rw [makeE, rABC, fABC]; decide +kernel
  | 3, _ => show makeE (upto 3) sD = 0; rw [makeE, rD, fD]; decide +kernel
  | 4, _ => show makeE (upto 4) sAb = 0; rw [makeE, rAb, fAb]; decide +kernel
theorem upto_look {k : Nat} (hk : k < 5) : kget (upto 5) (nm k) = some true := by
  have key : ∀ a : Fin 5, kget (upto 5) (nm a.1) = some true := by decide +kernel
  exact key ⟨k, hk⟩
def belowK (on : Nat → Bool) (k : Nat) : Bool := (k == 0 && (on 1 || on 2)) || (k == 1 && on 2)
def uTab (k j : Nat) : Bool := (k == 0 && (j == 1 || j == 2)) || (k == 1 && j == 2)
theorem isUnder_nm {k j : Nat} (hk : k < 5) (hj : j < 5) : isUnder (nm k) (nm j) = uTab k j := by
  have key : ∀ a b : Fin 5, isUnderL (nm a.1).data.toList (nm b.1).data.toList = uTab a.1 b.1 := by decide +kernel
  rw [isUnder_eq]
  exact key ⟨k, hk⟩ ⟨j, hj⟩
structure MO (on : Nat → Bool) (mo : List (ByteArray × ByteArray)) : Prop where
  at_ : ∀ k, k < 5 → kget mo (nm k) = if on k then some sDisk else none
  keys : ∀ x, (kget mo x).isSome → ∃ k, k < 5 ∧ x = nm k
  nodup : (mo.map Prod.fst).Nodup
theorem mo_nil : MO (fun _ => false) [] := ⟨fun _ _ => rfl, fun _ h => (by cases h), List.nodup_nil⟩
theorem under_MO {on : Nat → Bool} {mo : List (ByteArray × ByteArray)} (h : MO on mo) {k : Nat} (hk : k < 5) : underB (mo.map Prod.fst) (nm k) = belowK on k := by
  have e : underB (mo.map Prod.fst) (nm k) = true ↔ belowK on k = true := by
    rw [underB, List.any_eq_true]
    constructor
    · rintro ⟨x, hx, hu⟩
      have hx' := (look_isSome_iff mo x).2 hx
      obtain ⟨j, hj, rfl⟩ := h.keys x hx'
      rw [isUnder_nm hk hj] at hu
      rw [h.at_ j hj] at hx'
      have ho : on j = true := by
        cases hoj : on j
        · rw [hoj] at hx'; cases hx'
        · rfl
      simp only [uTab, Bool.or_eq_true, Bool.and_eq_true, beq_iff_eq] at hu
      simp only [belowK, Bool.or_eq_true, Bool.and_eq_true, beq_iff_eq]
      rcases hu with ⟨rfl, rfl | rfl⟩ | ⟨rfl, rfl⟩
      · exact .inl ⟨rfl, .inl ho⟩
      · exact .inl ⟨rfl, .inr ho⟩
      · exact .inr ⟨rfl, ho⟩
    · intro hb
      have hit : ∀ j, j < 5 → on j = true → uTab k j = true → ∃ x ∈ mo.map Prod.fst, isUnder (nm k) x = true := fun j hj ho hu =>
        ⟨nm j, (look_isSome_iff mo (nm j)).1 (by rw [h.at_ j hj, ho]; rfl), by rw [isUnder_nm hk hj]; exact hu⟩
      simp only [belowK, Bool.or_eq_true, Bool.and_eq_true, beq_iff_eq] at hb
      rcases hb with ⟨rfl, ho | ho⟩ | ⟨rfl, ho⟩
      · exact hit 1 (by omega) ho rfl
      · exact hit 2 (by omega) ho rfl
      · exact hit 2 (by omega) ho rfl
  exact Bool.eq_iff_iff.2 e
def set1 (on : Nat → Bool) (k : Nat) (b : Bool) : Nat → Bool := fun j => if j = k then b else on j
theorem set1_same (on : Nat → Bool) (k : Nat) : set1 on k (on k) = on := by
  funext j; unfold set1; split
  · subst j; rfl
  · rfl
theorem MO.put {on : Nat → Bool} {mo : List (ByteArray × ByteArray)} (h : MO on mo) {k : Nat} (hk : k < 5) : MO (set1 on k true) (kput mo (nm k) sDisk) where
  at_ j hj := by
    by_cases e : j = k
    · subst e; rw [look_upd_same]; simp [set1]
    · rw [look_upd_other _ _ (fun e2 => e (nm_inj hj hk e2)), h.at_ j hj]; simp [set1, e]
  keys x hx := by
    by_cases e : x = nm k
    · exact ⟨k, hk, e⟩
    · rw [look_upd_other _ _ e] at hx; exact h.keys x hx
  nodup := nodup_upd h.nodup _ _
theorem MO.del {on : Nat → Bool} {mo : List (ByteArray × ByteArray)} (h : MO on mo) {k : Nat} (hk : k < 5) : MO (set1 on k false) (kdel mo (nm k)) where
  at_ j hj := by
    by_cases e : j = k
    · subst e; rw [look_del_same h.nodup]; simp [set1]
    · rw [look_del_other _ (fun e2 => e (nm_inj hj hk e2)), h.at_ j hj]; simp [set1, e]
  keys x hx := by
    by_cases e : x = nm k
    · exact ⟨k, hk, e⟩
    · rw [look_del_other _ e] at hx; exact h.keys x hx
  nodup := nodup_del h.nodup _
theorem mount_on {on : Nat → Bool} {mo : List (ByteArray × ByteArray)} (h : MO on mo) {k : Nat} (hk : k < 5) : mountE (upto 5) mo (nm k) = if on k then 112 else 0 := by
  rw [mountE, nm_right, upto_look hk, h.at_ k hk]
  cases on k <;> rfl
theorem unmount_on {on : Nat → Bool} {mo : List (ByteArray × ByteArray)} (h : MO on mo) {k : Nat} (hk : k < 5) : unmountE mo (nm k) = if on k then (if belowK on k then 112 else 0) else 110 := by
  rw [unmountE, nm_right, under_MO h hk, h.at_ k hk]
  cases on k <;> rfl
theorem remove_on {on : Nat → Bool} {mo : List (ByteArray × ByteArray)} (h : MO on mo) {k : Nat} (hk : k < 5) (ho : on k = true) : removeE (upto 5) mo (nm k) = 112 := by
  have hf : foundE (upto 5) (nm k) = 0 := by rw [foundE, nm_right, upto_look hk]; rfl
  rw [removeE, if_pos hf, h.at_ k hk, ho]; rfl
end Go.Proofs.YtopfgaogfnepfaaDoor
