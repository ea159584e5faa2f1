/- Contracts of the reference: a name's stem and kind. -/
import Derived.Test.YtgppdndpnflkeaaDoorRb
import Derived.Test.YtgppdndpnflkeaaDoorNq
namespace Go.Proofs.YtgppdndpnflkeaaDoor
open Go.RowKit Go.Rv

/-- A name's stem and its kind; 0: none. -/
def partedL (l : List UInt8) : List UInt8 × Nat :=
  match dotO l with
  | some (a, b) => if endK b = 0 then ([], 0) else (a, endK b)
  | none => ([], 0)
theorem endN_mem (l : List UInt8) (zs : List (List UInt8)) (k : Nat) (hk : 0 < k) : endN l k zs ≠ 0 ↔ l ∈ zs := by
  induction zs generalizing k with
  | nil => simp [endN]
  | cons z zs ih =>
    unfold endN
    by_cases h : l = z
    · simp [h]; omega
    · rw [if_neg h, ih (k + 1) (by omega)]; simp [h]
theorem parted_hit {a : List UInt8} {k : Nat} (hk : k < 6) : partedL (a ++ endL.getD k []) = (a, k + 1) := by
  obtain ⟨r, h1, h2, h3, _⟩ := end_shape k hk
  have hd : dotO (a ++ endL.getD k []) = some (a, endL.getD k []) := by rw [h1]; exact dotO_at _ _ h2
  rw [partedL, hd]
  dsimp only
  rw [h3, if_neg (by omega)]
theorem parted_miss {l : List UInt8} (h : ∀ j, j < 6 → ¬ endL.getD j [] <:+ l) : partedL l = ([], 0) := by
  unfold partedL
  cases hd : dotO l with
  | none => rfl
  | some q =>
    obtain ⟨a, b⟩ := q
    dsimp only
    by_cases hk : endK b = 0
    · rw [if_pos hk]
    · exfalso
      have hm := (endN_mem b endL 1 (by omega)).1 hk
      obtain ⟨j, hj, he⟩ := List.getElem_of_mem hm
      refine h j hj ⟨a, ?_⟩
      rw [List.getD_eq_getElem?_getD, List.getElem?_eq_getElem hj, Option.getD_some, he]
      exact (dotO_app hd).symm
theorem endings_calls (w : World) : Calls Tryd.prog 56 #[] w fun e w' => e = .returned (.agg eV) ∧ Below w.heap.size w w' := by
  go_enter Tryd.func56, Tryd.ntmps56
  go_wp2
  exact bodyPost_ret (v := .agg eV) (by simp [results, Tryd.results56, go_sem, eV]) rfl ⟨rfl, (Below.refl _ _).alloc (Nat.le_refl _) _⟩
def PdRel (w : World) (b : Nat) (l : List UInt8) (i : Value) (W : World) : Prop :=
  ∃ k : Nat, k ≤ 6 ∧ i = .int .i64 k ∧ W.heap[b]? = some (.cells eV 38) ∧ Below w.heap.size w W ∧ Hid (∀ j, j < k → ¬ endL.getD j [] <:+ l)
def PdPost (s : ByteArray) (w : World) (e : Ending) (w' : World) : Prop :=
  e = .returned (.tuple #[.string (mkS (partedL s.data.toList).1), .int .i64 ((partedL s.data.toList).2 : Int)]) ∧ Below w.heap.size w w'
theorem suffix_iff {s E : ByteArray} {n : Nat} (h : n + E.size = s.size) : E.data.toList <:+ s.data.toList ↔ (s.extract n s.size).toList = E.toList := by
  rw [Lib.toList_data, Lib.toList_data, Lib.extract_from, show (⟨(List.drop n s.data.toList).toArray⟩ : ByteArray).data.toList = List.drop n s.data.toList from data_mkS _]
  constructor
  · rintro ⟨t, ht⟩
    have hl : t.length = n := by
      have := congrArg List.length ht
      rw [List.length_append, ← Lib.size_eq, ← Lib.size_eq] at this
      omega
    rw [← ht, ← hl]; simp
  · intro e
    rw [← e]; exact List.drop_suffix _ _

theorem next_no {l : List UInt8} {E : List UInt8} {k : Nat} (h : Hid (∀ j, j < k → ¬ endL.getD j [] <:+ l)) (hE : E = endL.getD k []) (hn : ¬ E <:+ l) : Hid (∀ j, j < k + 1 → ¬ endL.getD j [] <:+ l) :=
  Lib.hid fun j hj => by
    by_cases e : j = k
    · subst e; rw [← hE]; exact hn
    · exact h.out j (by omega)
set_option maxHeartbeats 1000000 in
theorem parted_calls (s : ByteArray) (hs : s.size ≤ 1000000) (w : World) : Calls Tryd.prog 40 #[.string s] w (PdPost s w) := by
  go_enter Tryd.func40, Tryd.ntmps40
  go_wp2_with (go_at_call 56; refine (endings_calls _).mono ?_; rintro e w1 ⟨rfl, hb1⟩; unfold eV)
  go_loopw [5] (fun i W => PdRel w w1.heap.size s.data.toList i W) (fun i _ => 6 - (intOf i).toNat)
  case atStart => exact ⟨0, by omega, rfl, hp_alloc_new w1 _, hb1.alloc hb1.size _, Lib.hid fun j h => absurd h (by omega)⟩
  case round =>
    obtain ⟨k, hk, rfl, hh, hb, HK⟩ := hrel
    by_cases hlt : (k : Int) < 6
    · have hk6 : k < 6 := by omega
      obtain ⟨E, hE⟩ : ∃ E, mkS (endL.getD k []) = E := ⟨_, rfl⟩
      have hcell : wr.cell? ⟨w1.heap.size, k, none⟩ = some (.string E) := by rw [hp_cell hh, ← hE]; exact eV_at hk6
      have hEl : E.data.toList = endL.getD k [] := by rw [← hE, data_mkS]
      have hE8 : (endL.getD k []).length ≤ 8 := by obtain ⟨_, _, _, _, h⟩ := end_shape k hk6; exact h
      have hEs : E.size ≤ 8 := by rw [Lib.size_eq, hEl]; exact hE8
      have HEl := Lib.hid hEl
      have Hh := Lib.hid hh
      have Hb := Lib.hid hb
      clear hE hEl hE8 hh hb
      by_cases hle : (E.size : Int) ≤ (s.size : Int)
      · obtain ⟨n, hn⟩ : ∃ n : Nat, (s.size : Int) - (E.size : Int) = (n : Int) := ⟨s.size - E.size, by omega⟩
        have hn2 : (n : Int) ≤ (s.size : Int) := by omega
        have hsx := suffix_iff (s := s) (E := E) (n := n) (by omega)
        have HSX := Lib.hid hsx
        clear hsx
        have hn0 : 0 ≤ (n : Int) := by omega
        have hk0 : 0 ≤ (k : Int) := by omega
        by_cases hq : (s.extract n s.size).toList = E.toList
        · have hq2 : ((s.extract n s.size).toList == E.toList) = true := by simp [hq]
          have HQ := Lib.hid hq
          clear hq
          go_wp2_with fail
          go_quiet (fail)
          go_wp2
          go_ret2
          have hl : s.data.toList = s.data.toList.take n ++ endL.getD k [] := by
            conv => lhs; rw [← List.take_append_drop n s.data.toList]
            congr 1
            rw [← HEl.out, ← Lib.toList_data E, ← HQ.out, Lib.toList_data, Lib.extract_from]
          have E1 : partedL s.data.toList = (s.data.toList.take n, k + 1) := by
            conv => lhs; rw [hl]
            exact parted_hit hk6
          refine ⟨?_, Hb.out.trans (below_drewN _ _ _)⟩
          have ex : mkS (s.data.toList.take n) = s.extract 0 n := (Lib.extract_upto _ _).symm
          rw [E1]
          dsimp only
          rw [ex]
          rfl
        · have hq2 : ((s.extract n s.size).toList == E.toList) = false := by simp [hq]
          have HQ := Lib.hid hq
          clear hq
          go_wp2_with fail
          go_quiet (fail)
          go_wp2
          go_roundw
          case rel => exact ⟨k + 1, by omega, by go_num, Hh.out, Hb.out.trans (below_drewN _ _ _), next_no HK HEl.out fun h => HQ.out (HSX.out.1 h)⟩
          case measure => simp [intOf]; omega
      · have hneg3 : decide (E.size ≤ s.size) = false := by simp; omega
        have hneg : decide (0 ≤ (s.size : Int) - (E.size : Int)) = false := by simp; omega
        have hneg2 : decide ((E.size : Int) ≤ (s.size : Int)) = false := by simp; omega
        go_wp2_with fail
        go_quiet (fail)
        go_wp2
        go_roundw
        case rel => exact ⟨k + 1, by omega, by go_num, Hh.out, Hb.out.trans (below_drewN _ _ _), next_no HK HEl.out fun h => by
          have := h.length_le
          rw [← Lib.size_eq, ← Lib.size_eq] at this
          omega⟩
        case measure => simp [intOf]; omega
    · obtain rfl : k = 6 := by omega
      have E1 := Lib.hid (parted_miss HK.out)
      go_wp2
      go_ret2
      exact ⟨by rw [E1.out]; rfl, hb⟩

/-! ### the place of the first @ -/
theorem index_is {l : List UInt8} {c : UInt8} {k : Nat} (h : l[k]? = some c) (hn : ∀ j, j < k → l[j]? ≠ some c) : Lib.indexByte l c = (k : Int) := by
  by_cases hi : Lib.indexByte l c < 0
  · exact absurd rfl (index_none hi c (List.mem_of_getElem? h))
  · obtain ⟨i, hix⟩ := Int.eq_ofNat_of_zero_le (Int.not_lt.1 hi)
    obtain ⟨h1, h2⟩ := Lib.indexByte_some hix
    rcases Nat.lt_trichotomy i k with h3 | h3 | h3
    · exact absurd h1 (hn i h3)
    · rw [hix, h3]
    · exact absurd h (h2 k h3)
theorem index_miss {l : List UInt8} {c : UInt8} (hn : ∀ j, j < l.length → l[j]? ≠ some c) : Lib.indexByte l c = -1 := by
  by_cases hi : Lib.indexByte l c < 0
  · have := Lib.indexByte_ge l c; omega
  · obtain ⟨i, hix⟩ := Int.eq_ofNat_of_zero_le (Int.not_lt.1 hi)
    obtain ⟨h1, h2⟩ := Lib.indexByte_some hix
    exact absurd h1 (hn i (List.getElem?_eq_some_iff.1 h1).1)
theorem at_calls (s : ByteArray) (hs : s.size ≤ 1000000) (w : World) : Calls Tryd.prog 41 #[.string s] w fun e w' => e = .returned (.int .i64 (Lib.indexByte s.data.toList 64)) ∧ w' = w := by
  have hl : s.data.toList.length = s.size := (Lib.size_eq s).symm
  have HL := Lib.hid hl
  clear hl
  go_enter Tryd.func41, Tryd.ntmps41
  go_wp2
  go_loop [3] (fun i => ∃ k : Nat, k ≤ s.size ∧ i = .int .i64 k ∧ Hid (∀ j, j < k → s.data.toList[j]? ≠ some 64)) (fun i => s.size - (intOf i).toNat)
  case atStart => exact ⟨0, by omega, rfl, Lib.hid fun j h => absurd h (by omega)⟩
  case round =>
    obtain ⟨k, hk, rfl, HK⟩ := hrel
    by_cases hlt : (k : Int) < (s.size : Int)
    · have hk' : k < s.size := by omega
      obtain ⟨x, hx⟩ : ∃ x : UInt8, s[k] = x := ⟨_, rfl⟩
      have Hx := Lib.hid (show s.data.toList[k]? = some x by rw [← hx]; exact Lib.data_getElem? s k hk')
      by_cases h64 : x = 64
      · subst h64
        have HI := Lib.hid (index_is Hx.out HK.out)
        go_wp2
        go_ret
        exact ⟨by rw [HI.out]; rfl, rfl⟩
      · have n64 : ¬ (x.toNat : Int) = 64 := ne_u8 (n := 64) (by decide) h64
        have H64 := Lib.hid h64
        clear h64
        go_wp2
        go_round
        case rel =>
          refine ⟨k + 1, by omega, by go_num, Lib.hid fun j hj => ?_⟩
          by_cases e : j = k
          · subst e
            rw [Hx.out]
            intro e
            cases e
            exact H64.out rfl
          · exact HK.out j (by omega)
        case measure => simp [intOf]; omega
    · obtain rfl : k = s.size := by omega
      have HI := Lib.hid (index_miss (l := s.data.toList) (c := 64) (by rw [HL.out]; exact HK.out))
      go_wp2
      go_ret
      exact ⟨by rw [HI.out]; rfl, rfl⟩
end Go.Proofs.YtgppdndpnflkeaaDoor
