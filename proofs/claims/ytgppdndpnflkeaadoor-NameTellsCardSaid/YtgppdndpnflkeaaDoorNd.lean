/- Contracts of package name: whether each byte may stand in a name. -/
import Derived.Test.YtgppdndpnflkeaaDoorNc
namespace Go.Proofs.YtgppdndpnflkeaaDoor
open Go.RowKit Go.Rv

def goodS : ByteArray := ⟨#[58, 45, 95, 46, 92]⟩
/-- A byte that may stand in a name. -/
def goodB (c : UInt8) : Bool := alnumB c || decide (0 ≤ Lib.indexByte goodS.data.toList c)
def goodAll (l : List UInt8) : Bool := l.all goodB
theorem good_calls (c : UInt8) (w : World) : Calls Tryd.prog 54 #[.int .u8 (c.toNat : Int)] w fun e w' => e = .returned (.bool (goodB c)) ∧ w' = w := by
  have hI := (Tryd.strings_IndexByte goodS (c.toNat : Int) w).mono (R' := fun e w' => e = .returned (.int .i64 (Lib.indexByte goodS.data.toList c)) ∧ w' = w) fun e w' ⟨h1, h2⟩ => ⟨by rw [h1]; simp, h2⟩
  have HI := Lib.hid hI
  clear hI
  unfold goodB
  rcases h1 : alnumB c with _ | _
  · have H1 : Hid (alnum (c.toNat : Int) = false) := Lib.hid h1
    clear h1
    generalize Lib.indexByte goodS.data.toList c = z at HI
    by_cases h2 : 0 ≤ z
    · go_enter Tryd.func54, Tryd.ntmps54
      go_wp2_with (first
        | (go_at_call 34; refine (plain_calls _ _).mono ?_; rintro e w1 ⟨rfl, rfl⟩; rw [H1.out])
        | (go_at_call 35; refine HI.out.mono ?_; rintro e w1 ⟨rfl, rfl⟩))
      go_ret
      exact ⟨by simp [h2], rfl⟩
    · go_enter Tryd.func54, Tryd.ntmps54
      go_wp2_with (first
        | (go_at_call 34; refine (plain_calls _ _).mono ?_; rintro e w1 ⟨rfl, rfl⟩; rw [H1.out])
        | (go_at_call 35; refine HI.out.mono ?_; rintro e w1 ⟨rfl, rfl⟩))
      go_ret
      exact ⟨by simp, rfl⟩
  · have H1 : Hid (alnum (c.toNat : Int) = true) := Lib.hid h1
    clear h1
    go_enter Tryd.func54, Tryd.ntmps54
    go_wp2_with (first
      | (go_at_call 34; refine (plain_calls _ _).mono ?_; rintro e w1 ⟨rfl, rfl⟩; rw [H1.out])
      | (go_at_call 35; refine HI.out.mono ?_; rintro e w1 ⟨rfl, rfl⟩))
    go_ret
    exact ⟨rfl, rfl⟩
def fGood : Value := .func (.func 54) #[] #[]
theorem every1_calls (c : UInt8) (p : Addr) (w : World) (hp : w.cell? p = some (.func (.func 54) #[] #[])) : Calls Tryd.prog 68 #[.int .u8 (c.toNat : Int), .pointer (some p)] w fun e w' => e = .returned (.bool (!goodB c)) ∧ w' = w := by
  go_enter Tryd.func68, Tryd.ntmps68
  go_wp2_with (go_at_call 54; refine (good_calls _ _).mono ?_; rintro e w1 ⟨rfl, rfl⟩)
  go_ret
  exact ⟨rfl, rfl⟩
def IdxPost (l : List UInt8) (w : World) (e : Ending) (w' : World) : Prop := ∃ r : Int, e = .returned (.int .i64 r) ∧ decide (0 ≤ r) = !l.all goodB ∧ w' = w
theorem idx_calls (l : List UInt8) (b c : Nat) (p : Addr) (w : World) (hl : l.length ≤ 1000000) (hp : w.cell? p = some (.func (.func 54) #[] #[])) (hc : ∀ j x, l[j]? = some x → w.cell? ⟨b, j, none⟩ = some (.int .u8 (x.toNat : Int))) :
    Calls Tryd.prog 73 #[.slice (some ⟨b, 0, none⟩) l.length c, .func (.func 68) #[] #[.pointer (some p)]] w (IdxPost l w) := by
  obtain ⟨n, hn⟩ : ∃ n, l.length = n := ⟨_, rfl⟩
  have Hn := Lib.hid hn
  rw [hn] at hl ⊢
  clear hn
  have Hc := Lib.hid hc
  clear hc
  go_enter Tryd.func73, Tryd.ntmps73
  go_wp2
  go_loop [8] (fun i => ∃ k : Nat, k ≤ n ∧ i = .int .i64 k ∧ Hid ((l.take k).all goodB = true)) (fun i => n - (intOf i).toNat)
  case atStart => exact ⟨0, by omega, rfl, Lib.hid rfl⟩
  case round =>
    obtain ⟨k, hk, rfl, Hk⟩ := hrel
    by_cases hlt : (k : Int) < (n : Int)
    · have hk' : k < l.length := by rw [Hn.out]; omega
      obtain ⟨x, hx⟩ : ∃ x, l[k]? = some x := ⟨_, List.getElem?_eq_getElem hk'⟩
      have Hx := Lib.hid hx
      have hcell := Hc.out _ _ hx
      clear hx hk'
      rcases hg : goodB x with _ | _
      · have Hg := Lib.hid hg
        clear hg
        go_wp2_with (go_at_call 68; refine (every1_calls x p _ hp).mono ?_; rintro e w1 ⟨rfl, rfl⟩; rw [Hg.out])
        go_ret
        refine ⟨k, rfl, ?_, rfl⟩
        have : l.all goodB = false := by
          rw [List.all_eq_false]
          exact ⟨x, List.mem_of_getElem? Hx.out, by rw [Hg.out]; simp⟩
        rw [this]; simp
      · have Hg := Lib.hid hg
        clear hg
        go_wp2_with (go_at_call 68; refine (every1_calls x p _ hp).mono ?_; rintro e w1 ⟨rfl, rfl⟩; rw [Hg.out])
        go_round
        case rel =>
          refine ⟨k + 1, by omega, by go_num, Lib.hid ?_⟩
          rw [List.take_add_one, List.all_append, Hk.out, Hx.out]
          simp [Hg.out]
        case measure => simp [intOf]; omega
    · go_wp2
      go_ret
      refine ⟨-1, rfl, ?_, rfl⟩
      have := Hk.out
      rw [List.take_of_length_le (by rw [Hn.out]; omega)] at this
      rw [this]; rfl
theorem contains_calls (l : List UInt8) (b c : Nat) (p : Addr) (w : World) (hl : l.length ≤ 1000000) (hp : w.cell? p = some (.func (.func 54) #[] #[])) (hc : ∀ j x, l[j]? = some x → w.cell? ⟨b, j, none⟩ = some (.int .u8 (x.toNat : Int))) :
    Calls Tryd.prog 67 #[.slice (some ⟨b, 0, none⟩) l.length c, .func (.func 68) #[] #[.pointer (some p)]] w fun e w' => e = .returned (.bool (!goodAll l)) ∧ w' = w := by
  go_enter Tryd.func67, Tryd.ntmps67
  go_wp2_with (go_at_call 73; refine (idx_calls l b c p _ hl hp hc).mono ?_; rintro e w1 ⟨r, rfl, hr0, rfl⟩; have hr := Lib.hid hr0; clear hr0)
  go_ret
  exact ⟨by rw [goodAll, ← hr.out]; rfl, rfl⟩
theorem every_calls (s : ByteArray) (hs : s.size ≤ 1000000) (w : World) : Calls Tryd.prog 55 #[.string s, .func (.func 54) #[] #[]] w fun e w' => e = .returned (.bool (goodAll s.data.toList)) ∧ Below w.heap.size w w' := by
  have hcv := fun w : World => run_bytes_of_string w 9 41 5 s Tryd.underlying9 Tryd.underlying41 Tryd.underlying5
  have hl : s.data.toList.length ≤ 1000000 := by rw [← Lib.size_eq]; exact hs
  have Hl := Lib.hid hl
  have hsz := Lib.size_eq s
  have Hsz := Lib.hid hsz
  clear hl hsz
  go_enter Tryd.func55, Tryd.ntmps55
  go_wp2_with (go_at_call 67; rw [Hsz.out]; refine (contains_calls s.data.toList _ _ ⟨w.heap.size, 0, none⟩ _ Hl.out ?c1 ?c2).mono ?_; rotate_left 2; rintro e w1 ⟨rfl, rfl⟩)
  · go_ret
    refine ⟨by simp, ?_⟩
    exact (((Below.refl _ w).alloc (Nat.le_refl _) _).alloc (by simp) _).drew
  case c1 => rw [World.cell?_drew, hp_cell (hp_alloc_old _ (hp_alloc_new w _))]; rfl
  case c2 =>
    intro j x hx
    rw [World.cell?_drew]
    have hj : j < s.data.size := by
      have := (List.getElem?_eq_some_iff.1 hx).1
      simpa using this
    rw [hp_cell (hp_at _ (by simp))]
    show (bytesRow _ _)[j]? = _
    rw [bytesRow, Array.getElem?_append_left (by simpa using hj), Array.getElem?_map]
    rw [Array.getElem?_toList] at hx
    rw [hx]; rfl
end Go.Proofs.YtgppdndpnflkeaaDoor
