/- reveillehelp.Ints, Texts. Printed by wip/gen/genGd.py. -/
import Derived.Test.YtjbpghdgmpinpaaKc
namespace Go.Proofs.Ytjbpghdgmpinpaa
open Go.RowKit Go.Rv

theorem below_drewN (B : Nat) (w : World) (n : Nat) : Below B w (w.drewN n) := ⟨rfl, rfl, rfl, Nat.le_refl _, fun _ _ => rfl⟩
theorem toList_inj {a b : ByteArray} (h : a.toList = b.toList) : a = b := by
  rw [Lib.toList_data, Lib.toList_data] at h
  exact ByteArray.ext (Array.toList_inj.1 h)
theorem row_lens {α : Type} {e : TypeId} {sz : Nat} {enc : α → List Value} {B0 : Nat} {v : Value} {l : List α} {w : World} (h : RowAt e sz enc B0 v l w) :
    (∃ ad cap, v = .slice ad l.length cap) ∧ l.length ≤ 9223372036854775807 := by
  rcases h.shape with ⟨rfl, rfl⟩ | ⟨g, off, cap, rfl, _, _, h1, h2⟩
  · exact ⟨⟨_, _, rfl⟩, by simp⟩
  · exact ⟨⟨_, _, rfl⟩, by simp only [maxLen] at h2; omega⟩
theorem row_cell1 {α : Type} {e : TypeId} {f : α → Value} {B0 k : Nat} {ad : Option Addr} {n cap : Nat} {l : List α} {w : World} (h : RowAt e 1 (fun a => [f a]) B0 (.slice ad n cap) l w) (hk : k < l.length) :
    ∃ g off, ad = some ⟨g, off, none⟩ ∧ w.cell? ⟨g, off + k, none⟩ = some (f l[k]) := by
  have hs := h.shape
  rcases hs with ⟨_, rfl⟩ | ⟨g, off, c, hv, _⟩
  · simp at hk
  · simp only [Value.slice.injEq] at hv
    obtain ⟨rfl, rfl, rfl⟩ := hv
    refine ⟨g, off, rfl, ?_⟩
    have := h.cell (enc := fun a => [f a]) (fun _ => rfl) (i := k) (j := 0) (List.getElem?_eq_getElem hk) (u := f l[k]) rfl
    rwa [Nat.mul_one, Nat.add_zero] at this


def SameRel14 (w : World) (l1 l2 : List Int) (vi : Value) (W : World) : Prop :=
  ∃ k : Nat, vi = .int .i64 k ∧ k ≤ l1.length ∧ l1.take k = l2.take k ∧ ∃ m, W = w.drewN m
theorem ints_calls {B1 B2 : Nat} {v1 v2 : Value} {l1 l2 : List Int} (w : World) (h1 : RowAt 3 1 encI B1 v1 l1 w) (h2 : RowAt 3 1 encI B2 v2 l2 w) :
    Calls Try.prog 14 #[v1, v2] w fun e w' => e = .returned (.bool (decide (l1 = l2))) ∧ Below w.heap.size w w' := by
  obtain ⟨⟨a1, k1, rfl⟩, n1⟩ := row_lens h1
  obtain ⟨⟨a2, k2, rfl⟩, n2⟩ := row_lens h2
  obtain ⟨r, hr⟩ : ∃ r, decide (l1 = l2) = r := ⟨_, rfl⟩
  rw [hr]
  have HR := Lib.hid hr
  clear hr
  by_cases hl : (l1.length : Int) = l2.length
  · have hl' : ((l1.length : Int) != l2.length) = false := by simp [hl]
    have hln : l1.length = l2.length := by omega
    have b1 : (l1.length : Int) ≤ 9223372036854775807 := by omega
    have b2 : (l2.length : Int) ≤ 9223372036854775807 := by omega
    go_enter Try.func14, Try.ntmps14
    go_wp2
    have HL := Lib.hid hl
    have HLN := Lib.hid hln
    clear hl hl' hln
    go_loopw [5] (fun vi W => SameRel14 w l1 l2 vi W) (fun vi _ => l1.length - (intOf vi).toNat)
    case atStart => exact ⟨0, rfl, Nat.zero_le _, by simp, 0, rfl⟩
    case round =>
      obtain ⟨k, rfl, hk, ht, m, rfl⟩ := hrel
      by_cases hlt : (k : Int) < l1.length
      · have hk1 : k < l1.length := by omega
        have hk2 : k < l2.length := by have := HLN.out; omega
        obtain ⟨g1, o1, rfl, c1⟩ := row_cell1 (f := Value.int .i64) h1 hk1
        obtain ⟨g2, o2, rfl, c2⟩ := row_cell1 (f := Value.int .i64) h2 hk2
        obtain ⟨a, ha⟩ : ∃ a, l1[k] = a := ⟨_, rfl⟩
        obtain ⟨b, hb⟩ : ∃ b, l2[k] = b := ⟨_, rfl⟩
        rw [ha] at c1
        rw [hb] at c2
        have d1 : ∀ q, ((w.drewN m).drewN q).cell? ⟨g1, o1 + k, none⟩ = some (Value.int .i64 a) := fun q => c1
        have d2 : ∀ q, ((w.drewN m).drewN q).cell? ⟨g2, o2 + k, none⟩ = some (Value.int .i64 b) := fun q => c2
        have d3 : (w.drewN m).cell? ⟨g1, o1 + k, none⟩ = some (Value.int .i64 a) := c1
        have d4 : (w.drewN m).cell? ⟨g2, o2 + k, none⟩ = some (Value.int .i64 b) := c2
        have HA := Lib.hid ha
        have HB := Lib.hid hb
        have HT := Lib.hid ht
        clear ha hb ht h1 h2
        have hlt2 : (k : Int) < l2.length := by omega
        by_cases hab : a = b
        · have hab2 : (a != b) = false := by simp [hab]
          have hab3 : (a == b) = true := by simp [hab]
          have HAB := Lib.hid hab
          clear hab
          go_wp2_with fail
          go_quiet (fail)
          go_wp2
          go_roundw
          case rel =>
            refine ⟨k + 1, by go_num, by omega, ?_, _, rfl⟩
            rw [List.take_succ_eq_append_getElem hk1, List.take_succ_eq_append_getElem hk2, HA.out, HB.out, HT.out, HAB.out]
          case measure => simp only [intOf]; omega
        · have hab2 : (a != b) = true := by simp [hab]
          have hab3 : (a == b) = false := by simp [hab]
          have HAB := Lib.hid hab
          clear hab
          go_wp2_with fail
          go_quiet (fail)
          go_wp2
          go_ret
          refine ⟨?_, (below_drewN _ _ _).trans (below_drewN _ _ _)⟩
          have : r = false := by
            rw [← HR.out, decide_eq_false_iff_not]
            intro e
            subst e
            exact HAB.out (by rw [← HA.out, ← HB.out])
          subst this
          rfl
      · go_wp2
        go_ret
        refine ⟨?_, below_drewN _ _ _⟩
        have e1 : l1.take k = l1 := List.take_of_length_le (by omega)
        have e2 : l2.take k = l2 := List.take_of_length_le (by have := HLN.out; omega)
        have : r = true := by rw [← HR.out, decide_eq_true_eq, ← e1, ht, e2]
        subst this
        rfl
  · have hl' : ((l1.length : Int) != l2.length) = true := by simp; omega
    go_enter Try.func14, Try.ntmps14
    go_wp2
    go_ret
    refine ⟨?_, Below.refl _ _⟩
    have : r = false := by
      rw [← HR.out, decide_eq_false_iff_not]
      intro e
      subst e
      exact hl rfl
    subst this
    rfl

def SameRel76 (w : World) (l1 l2 : List ByteArray) (vi : Value) (W : World) : Prop :=
  ∃ k : Nat, vi = .int .i64 k ∧ k ≤ l1.length ∧ l1.take k = l2.take k ∧ ∃ m, W = w.drewN m
theorem texts_calls {B1 B2 : Nat} {v1 v2 : Value} {l1 l2 : List ByteArray} (w : World) (h1 : RowAt 9 1 encS B1 v1 l1 w) (h2 : RowAt 9 1 encS B2 v2 l2 w) :
    Calls Try.prog 76 #[v1, v2] w fun e w' => e = .returned (.bool (decide (l1 = l2))) ∧ Below w.heap.size w w' := by
  obtain ⟨⟨a1, k1, rfl⟩, n1⟩ := row_lens h1
  obtain ⟨⟨a2, k2, rfl⟩, n2⟩ := row_lens h2
  obtain ⟨r, hr⟩ : ∃ r, decide (l1 = l2) = r := ⟨_, rfl⟩
  rw [hr]
  have HR := Lib.hid hr
  clear hr
  by_cases hl : (l1.length : Int) = l2.length
  · have hl' : ((l1.length : Int) != l2.length) = false := by simp [hl]
    have hln : l1.length = l2.length := by omega
    have b1 : (l1.length : Int) ≤ 9223372036854775807 := by omega
    have b2 : (l2.length : Int) ≤ 9223372036854775807 := by omega
    go_enter Try.func76, Try.ntmps76
    go_wp2
    have HL := Lib.hid hl
    have HLN := Lib.hid hln
    clear hl hl' hln
    go_loopw [5] (fun vi W => SameRel76 w l1 l2 vi W) (fun vi _ => l1.length - (intOf vi).toNat)
    case atStart => exact ⟨0, rfl, Nat.zero_le _, by simp, 0, rfl⟩
    case round =>
      obtain ⟨k, rfl, hk, ht, m, rfl⟩ := hrel
      by_cases hlt : (k : Int) < l1.length
      · have hk1 : k < l1.length := by omega
        have hk2 : k < l2.length := by have := HLN.out; omega
        obtain ⟨g1, o1, rfl, c1⟩ := row_cell1 (f := Value.string) h1 hk1
        obtain ⟨g2, o2, rfl, c2⟩ := row_cell1 (f := Value.string) h2 hk2
        obtain ⟨a, ha⟩ : ∃ a, l1[k] = a := ⟨_, rfl⟩
        obtain ⟨b, hb⟩ : ∃ b, l2[k] = b := ⟨_, rfl⟩
        rw [ha] at c1
        rw [hb] at c2
        have d1 : ∀ q, ((w.drewN m).drewN q).cell? ⟨g1, o1 + k, none⟩ = some (Value.string a) := fun q => c1
        have d2 : ∀ q, ((w.drewN m).drewN q).cell? ⟨g2, o2 + k, none⟩ = some (Value.string b) := fun q => c2
        have d3 : (w.drewN m).cell? ⟨g1, o1 + k, none⟩ = some (Value.string a) := c1
        have d4 : (w.drewN m).cell? ⟨g2, o2 + k, none⟩ = some (Value.string b) := c2
        have HA := Lib.hid ha
        have HB := Lib.hid hb
        have HT := Lib.hid ht
        clear ha hb ht h1 h2
        have hlt2 : (k : Int) < l2.length := by omega
        by_cases hab : a.toList = b.toList
        · have hab2 : (a.toList != b.toList) = false := by simp [hab]
          have hab3 : (a.toList == b.toList) = true := by simp [hab]
          have HAB := Lib.hid hab
          clear hab
          go_wp2_with fail
          go_quiet (fail)
          go_wp2
          go_roundw
          case rel =>
            refine ⟨k + 1, by go_num, by omega, ?_, _, rfl⟩
            rw [List.take_succ_eq_append_getElem hk1, List.take_succ_eq_append_getElem hk2, HA.out, HB.out, HT.out, toList_inj HAB.out]
          case measure => simp only [intOf]; omega
        · have hab2 : (a.toList != b.toList) = true := by simp [hab]
          have hab3 : (a.toList == b.toList) = false := by simp [hab]
          have HAB := Lib.hid hab
          clear hab
          go_wp2_with fail
          go_quiet (fail)
          go_wp2
          go_ret
          refine ⟨?_, (below_drewN _ _ _).trans (below_drewN _ _ _)⟩
          have : r = false := by
            rw [← HR.out, decide_eq_false_iff_not]
            intro e
            subst e
            exact HAB.out (by rw [← HA.out, ← HB.out])
          subst this
          rfl
      · go_wp2
        go_ret
        refine ⟨?_, below_drewN _ _ _⟩
        have e1 : l1.take k = l1 := List.take_of_length_le (by omega)
        have e2 : l2.take k = l2 := List.take_of_length_le (by have := HLN.out; omega)
        have : r = true := by rw [← HR.out, decide_eq_true_eq, ← e1, ht, e2]
        subst this
        rfl
  · have hl' : ((l1.length : Int) != l2.length) = true := by simp; omega
    go_enter Try.func76, Try.ntmps76
    go_wp2
    go_ret
    refine ⟨?_, Below.refl _ _⟩
    have : r = false := by
      rw [← HR.out, decide_eq_false_iff_not]
      intro e
      subst e
      exact hl rfl
    subst this
    rfl
end Go.Proofs.Ytjbpghdgmpinpaa
