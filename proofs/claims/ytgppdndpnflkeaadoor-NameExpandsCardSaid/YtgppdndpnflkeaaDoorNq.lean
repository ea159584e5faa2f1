/- NameParts: the walk. -/
import Derived.Test.YtgppdndpnflkeaaDoorNp
namespace Go.Proofs.YtgppdndpnflkeaaDoor
open Go.RowKit Go.Rv

def eV : Array Value := #[.string ⟨#[46, 115, 101, 114, 118, 105, 99, 101]⟩, .string ⟨#[46, 115, 111, 99, 107, 101, 116]⟩, .string ⟨#[46, 116, 105, 109, 101, 114]⟩, .string ⟨#[46, 112, 97, 116, 104]⟩, .string ⟨#[46, 109, 111, 117, 110, 116]⟩, .string ⟨#[46, 116, 97, 114, 103, 101, 116]⟩]
theorem eV_at {k : Nat} (hk : k < 6) : eV[k]? = some (.string (mkS (endL.getD k []))) := by
  have : k = 0 ∨ k = 1 ∨ k = 2 ∨ k = 3 ∨ k = 4 ∨ k = 5 := by omega
  rcases this with rfl | rfl | rfl | rfl | rfl | rfl <;> rfl
def TruePost (w : World) (e : Ending) (w' : World) : Prop := e = .returned (.bool true) ∧ Below w.heap.size w w'

set_option maxHeartbeats 1000000 in
theorem parts_walk (p i : ByteArray) (n : Int) (b : Bool) (hn : 0 ≤ n ∧ n ≤ 255) (w : World) : Calls Tryd.prog 7 #[.string p, .string i, .int .u8 n, .bool b] w (TruePost w) := by
  obtain ⟨hn0, hn1⟩ := hn
  have hk0 : 0 ≤ n % 6 := by omega
  have hk1 : n % 6 < 6 := by omega
  by_cases hp40 : (40 : Int) < (p.size : Int)
  · go_enter Tryd.func7, Tryd.ntmps7
    go_wp2_with (go_at_call 8; refine (known_calls _).mono ?_; rintro e w1 ⟨rfl, hb1⟩)
    go_ret
    exact ⟨rfl, hb1.alloc hb1.size _⟩
  by_cases hi40 : (40 : Int) < (i.size : Int)
  · go_enter Tryd.func7, Tryd.ntmps7
    go_wp2_with (go_at_call 8; refine (known_calls _).mono ?_; rintro e w1 ⟨rfl, hb1⟩)
    go_ret
    exact ⟨rfl, hb1.alloc hb1.size _⟩
  have CP : Hid (∀ W, Calls Tryd.prog 29 #[.string p] W fun e w' => e = .returned (.bool (plainAll p.data.toList)) ∧ w' = W) := Lib.hid fun W => plain29_calls p (by omega) W
  have CI : Hid (∀ W, Calls Tryd.prog 29 #[.string i] W fun e w' => e = .returned (.bool (plainAll i.data.toList)) ∧ w' = W) := Lib.hid fun W => plain29_calls i (by omega) W
  rcases hpp : plainAll p.data.toList with _ | _
  · rw [hpp] at CP
    clear hpp
    go_enter Tryd.func7, Tryd.ntmps7
    go_wp2_with (go_at_call 8; refine (known_calls _).mono ?_; rintro e w1 ⟨rfl, hb1⟩)
    refine (CP.out _).mono ?_
    rintro e w2 ⟨rfl, rfl⟩
    go_wp2_with fail
    go_ret
    exact ⟨rfl, hb1.alloc hb1.size _⟩
  rw [hpp] at CP
  rcases hii : plainAll i.data.toList with _ | _
  · rw [hii] at CI
    clear hpp hii
    go_enter Tryd.func7, Tryd.ntmps7
    go_wp2_with (go_at_call 8; refine (known_calls _).mono ?_; rintro e w1 ⟨rfl, hb1⟩)
    refine (CP.out _).mono ?_
    rintro e w2 ⟨rfl, rfl⟩
    go_wp2_with fail
    refine (CI.out _).mono ?_
    rintro e w2 ⟨rfl, rfl⟩
    go_wp2_with fail
    go_ret
    exact ⟨rfl, hb1.alloc hb1.size _⟩
  rw [hii] at CI
  rcases hem : p.toList.isEmpty with _ | _
  · have hem1 : ¬ p.toList = [] := by intro e; rw [e] at hem; cases hem
    have h0 : p.data.toList ≠ [] := by rw [← Lib.toList_data]; exact hem1
    obtain ⟨K, hK⟩ : ∃ K : Nat, n % 6 = (K : Int) := ⟨(n % 6).toNat, by omega⟩
    have hK6 : K < 6 := by omega
    obtain ⟨E, hE⟩ : ∃ E, mkS (endL.getD K []) = E := ⟨_, rfl⟩
    have hev := eV_at hK6
    rw [hE] at hev
    have hev2 : ∀ h, eV.toList[K]'h = Value.string E := fun h => by
      have := (List.getElem?_eq_some_iff.1 (show eV.toList[K]? = some (.string E) by rw [Array.getElem?_toList]; exact hev)).2
      exact this
    unfold eV at hev
    have HEV := Lib.hid hev2
    clear hev2
    have hEl : E.data.toList = endL.getD K [] := by rw [← hE, data_mkS]
    have hE8 : (endL.getD K []).length ≤ 8 := by obtain ⟨_, _, _, _, h⟩ := end_shape K hK6; exact h
    have hEs : E.size ≤ 8 := by rw [Lib.size_eq, hEl]; exact hE8
    have HEl := Lib.hid hEl
    have H0 := Lib.hid h0
    have HPP := Lib.hid hpp
    have HII := Lib.hid hii
    have hK6' : (K : Int) < 6 := by omega
    clear hE hEl h0 hpp hii hE8
    rcases b with _ | _
    · have hS : (p ++ E).data.toList = stemL p.data.toList i.data.toList false ++ endL.getD K [] := by rw [ByteArray.data_append, Array.toList_append, HEl.out]; rfl
      have hSs : (p ++ E).size ≤ 1000000 := by rw [ByteArray.size_append]; omega
      have hsum : ¬ 9223372036854775807 < p.size + E.size := by omega
      have hsz : (stemL p.data.toList i.data.toList false ++ endL.getD K []).length = (p ++ E).size := by rw [← hS, ← Lib.size_eq]
      by_cases hlong : (60 : Int) < ((p ++ E).size : Int)
      · rw [ByteArray.size_append] at hlong; omega
      · obtain ⟨g1, g2, g3⟩ := name_short (p := p.data.toList) (i := i.data.toList) false HPP.out HII.out H0.out hK6 (by rw [hsz]; omega)
        rw [← hS] at g1 g2
        have hT : templateL (p ++ E).data.toList = [] := by rw [templateL, g2]; rfl
        have C1 : Hid (∀ W, Calls Tryd.prog 15 #[.string (p ++ E)] W fun e w' => e = .returned (.tuple #[.string (mkS []), .bool false]) ∧ Below W.heap.size W w') := Lib.hid fun W => by
          have := instance_calls (p ++ E) hSs W
          rw [g2] at this; exact this
        have C2 : Hid (∀ W, Calls Tryd.prog 18 #[.string (p ++ E)] W fun e w' => e = .returned (.int .i64 (1 + (K : Int))) ∧ Below W.heap.size W w') := Lib.hid fun W => by
          have := kind_calls (p ++ E) hSs W
          rw [g2, show ((K + 1 : Nat) : Int) = 1 + (K : Int) by omega] at this; exact this
        have C3 : Hid (∀ W, Calls Tryd.prog 20 #[.string (p ++ E)] W fun e w' => e = .returned (.string p) ∧ Below W.heap.size W w') := Lib.hid fun W => by
          have := prefix_calls (p ++ E) hSs W
          rw [g2, mkS_data] at this; exact this
        have C4 : Hid (∀ W, Calls Tryd.prog 22 #[.string (p ++ E)] W fun e w' => e = .returned (.string ⟨#[]⟩) ∧ Below W.heap.size W w') := Lib.hid fun W => by
          have := template_calls (p ++ E) hSs W
          rw [hT] at this; exact this
        have hlong2 : ¬ (60 : Int) < (p.size : Int) + (E.size : Int) := by rw [ByteArray.size_append] at hlong; omega
        clear g1 g2 g3 hS hsz hT hlong
        go_enter Tryd.func7, Tryd.ntmps7
        go_wp2_with (go_at_call 8; refine (known_calls _).mono ?_; rintro e w1 ⟨rfl, hb1⟩)
        refine (CP.out _).mono ?_
        rintro e w2 ⟨rfl, rfl⟩
        go_wp2_with fail
        refine (CI.out _).mono ?_
        rintro e w2 ⟨rfl, rfl⟩
        go_wp2_with fail
        rw [show ∀ h, [Value.string ⟨#[46, 115, 101, 114, 118, 105, 99, 101]⟩, Value.string ⟨#[46, 115, 111, 99, 107, 101, 116]⟩, Value.string ⟨#[46, 116, 105, 109, 101, 114]⟩, Value.string ⟨#[46, 112, 97, 116, 104]⟩, Value.string ⟨#[46, 109, 111, 117, 110, 116]⟩, Value.string ⟨#[46, 116, 97, 114, 103, 101, 116]⟩][K]'h = Value.string E from HEV.out]
        go_simp
        go_wp2_with fail
        refine (C1.out _).mono ?_
        rintro e w2 ⟨rfl, hb2⟩
        go_wp2_with fail
        refine (C2.out _).mono ?_
        rintro e w3 ⟨rfl, hb3⟩
        go_wp2_with fail
        refine (C3.out _).mono ?_
        rintro e w4 ⟨rfl, hb4⟩
        go_wp2_with fail
        refine (C4.out _).mono ?_
        rintro e w5 ⟨rfl, hb5⟩
        go_wp2_with fail
        go_ret
        exact ⟨rfl, bstep (bstep (bstep (bstep (hb1.alloc hb1.size _) hb2) hb3) hb4) hb5⟩
    · have hS : (p ++ ⟨#[64]⟩ ++ i ++ E).data.toList = stemL p.data.toList i.data.toList true ++ endL.getD K [] := by
        rw [ByteArray.data_append, Array.toList_append, ByteArray.data_append, Array.toList_append, ByteArray.data_append, Array.toList_append, HEl.out]
        simp [stemL]
      have hS2 : (p ++ ⟨#[64]⟩ ++ E).data.toList = p.data.toList ++ 64 :: endL.getD K [] := by
        rw [ByteArray.data_append, Array.toList_append, ByteArray.data_append, Array.toList_append, HEl.out]
        simp
      have h64 : (⟨#[64]⟩ : ByteArray).size = 1 := rfl
      have hSz : (p ++ ⟨#[64]⟩ ++ i ++ E).size = p.size + 1 + i.size + E.size := by rw [ByteArray.size_append, ByteArray.size_append, ByteArray.size_append, h64]
      have hSz2 : (p ++ ⟨#[64]⟩ ++ E).size = p.size + 1 + E.size := by rw [ByteArray.size_append, ByteArray.size_append, h64]
      have hSs : (p ++ ⟨#[64]⟩ ++ i ++ E).size ≤ 1000000 := by omega
      have hSs2 : (p ++ ⟨#[64]⟩ ++ E).size ≤ 1000000 := by omega
      have hsum0 : ¬ 9223372036854775807 < p.size + E.size := by omega
      have hsum1 : ¬ 9223372036854775807 < p.size + 1 := by omega
      have hsum2 : ¬ 9223372036854775807 < p.size + 1 + i.size := by omega
      have hsum3 : ¬ 9223372036854775807 < p.size + 1 + i.size + E.size := by omega
      have hsum4 : ¬ 9223372036854775807 < p.size + 1 + E.size := by omega
      have hsz : (stemL p.data.toList i.data.toList true ++ endL.getD K []).length = (p ++ ⟨#[64]⟩ ++ i ++ E).size := by rw [← hS, ← Lib.size_eq]
      by_cases hlong : (60 : Int) < ((p ++ ⟨#[64]⟩ ++ i ++ E).size : Int)
      · obtain ⟨g1, g2⟩ := name_long (p := p.data.toList) (i := i.data.toList) true HPP.out HII.out H0.out hK6 (by rw [hsz]; omega)
        rw [← hS] at g1 g2
        have C1 : Hid (∀ W, Calls Tryd.prog 14 #[.string (p ++ ⟨#[64]⟩ ++ i ++ E)] W fun e w' => e = .returned (.bool false) ∧ Below W.heap.size W w') := Lib.hid fun W => by
          have := is_calls (p ++ ⟨#[64]⟩ ++ i ++ E) hSs W
          rw [g1] at this; exact this
        have C2 : Hid (∀ W, Calls Tryd.prog 20 #[.string (p ++ ⟨#[64]⟩ ++ i ++ E)] W fun e w' => e = .returned (.string ⟨#[]⟩) ∧ Below W.heap.size W w') := Lib.hid fun W => by
          have := prefix_calls (p ++ ⟨#[64]⟩ ++ i ++ E) hSs W
          rw [g2] at this; exact this
        have hlong2 : (60 : Int) < (p.size : Int) + 1 + (i.size : Int) + (E.size : Int) := by omega
        clear g1 g2 hS hsz hlong hS2 hSz hSz2 h64 hSs hSs2
        go_enter Tryd.func7, Tryd.ntmps7
        go_wp2_with (go_at_call 8; refine (known_calls _).mono ?_; rintro e w1 ⟨rfl, hb1⟩)
        refine (CP.out _).mono ?_
        rintro e w2 ⟨rfl, rfl⟩
        go_wp2_with fail
        refine (CI.out _).mono ?_
        rintro e w2 ⟨rfl, rfl⟩
        go_wp2_with fail
        rw [show ∀ h, [Value.string ⟨#[46, 115, 101, 114, 118, 105, 99, 101]⟩, Value.string ⟨#[46, 115, 111, 99, 107, 101, 116]⟩, Value.string ⟨#[46, 116, 105, 109, 101, 114]⟩, Value.string ⟨#[46, 112, 97, 116, 104]⟩, Value.string ⟨#[46, 109, 111, 117, 110, 116]⟩, Value.string ⟨#[46, 116, 97, 114, 103, 101, 116]⟩][K]'h = Value.string E from HEV.out]
        go_simp
        go_wp2_with fail
        rw [show ∀ h, [Value.string ⟨#[46, 115, 101, 114, 118, 105, 99, 101]⟩, Value.string ⟨#[46, 115, 111, 99, 107, 101, 116]⟩, Value.string ⟨#[46, 116, 105, 109, 101, 114]⟩, Value.string ⟨#[46, 112, 97, 116, 104]⟩, Value.string ⟨#[46, 109, 111, 117, 110, 116]⟩, Value.string ⟨#[46, 116, 97, 114, 103, 101, 116]⟩][K]'h = Value.string E from HEV.out]
        go_simp
        go_wp2_with fail
        refine (C1.out _).mono ?_
        rintro e w2 ⟨rfl, hb2⟩
        go_wp2_with fail
        refine (C2.out _).mono ?_
        rintro e w3 ⟨rfl, hb3⟩
        go_wp2_with fail
        go_ret
        exact ⟨rfl, bstep (bstep (hb1.alloc hb1.size _) hb2) hb3⟩
      · obtain ⟨g1, g2, g3⟩ := name_short (p := p.data.toList) (i := i.data.toList) true HPP.out HII.out H0.out hK6 (by rw [hsz]; omega)
        obtain ⟨g4, g5⟩ := name_with (p := p.data.toList) (i := i.data.toList) HPP.out HII.out H0.out hK6 (by rw [hsz]; omega)
        rw [← hS] at g1 g2 g4 g5
        rw [← hS2] at g4 g5
        have C1 : Hid (∀ W, Calls Tryd.prog 15 #[.string (p ++ ⟨#[64]⟩ ++ i ++ E)] W fun e w' => e = .returned (.tuple #[.string i, .bool true]) ∧ Below W.heap.size W w') := Lib.hid fun W => by
          have := instance_calls (p ++ ⟨#[64]⟩ ++ i ++ E) hSs W
          rw [g2, if_pos rfl, mkS_data] at this; exact this
        have C2 : Hid (∀ W, Calls Tryd.prog 18 #[.string (p ++ ⟨#[64]⟩ ++ i ++ E)] W fun e w' => e = .returned (.int .i64 (1 + (K : Int))) ∧ Below W.heap.size W w') := Lib.hid fun W => by
          have := kind_calls (p ++ ⟨#[64]⟩ ++ i ++ E) hSs W
          rw [g2, show ((K + 1 : Nat) : Int) = 1 + (K : Int) by omega] at this; exact this
        have C3 : Hid (∀ W, Calls Tryd.prog 20 #[.string (p ++ ⟨#[64]⟩ ++ i ++ E)] W fun e w' => e = .returned (.string p) ∧ Below W.heap.size W w') := Lib.hid fun W => by
          have := prefix_calls (p ++ ⟨#[64]⟩ ++ i ++ E) hSs W
          rw [g2, mkS_data] at this; exact this
        have C4 : Hid (∀ W, Calls Tryd.prog 22 #[.string (p ++ ⟨#[64]⟩ ++ i ++ E)] W fun e w' => e = .returned (.string (p ++ ⟨#[64]⟩ ++ E)) ∧ Below W.heap.size W w') := Lib.hid fun W => by
          have := template_calls (p ++ ⟨#[64]⟩ ++ i ++ E) hSs W
          rw [g4, mkS_data] at this; exact this
        have C5 : Hid (∀ W, Calls Tryd.prog 25 #[.string (p ++ ⟨#[64]⟩ ++ E), .string i] W fun e w' => e = .returned (.tuple #[.string (p ++ ⟨#[64]⟩ ++ i ++ E), .int .i64 0]) ∧ Below W.heap.size W w') := Lib.hid fun W => by
          have := with_calls (p ++ ⟨#[64]⟩ ++ E) i hSs2 (by omega) W
          unfold WithPost at this
          rw [g5, mkS_data] at this; exact this
        have hlong2 : ¬ (60 : Int) < (p.size : Int) + 1 + (i.size : Int) + (E.size : Int) := by omega
        clear g1 g2 g3 g4 g5 hS hsz hlong hS2 hSz hSz2 h64 hSs hSs2
        go_enter Tryd.func7, Tryd.ntmps7
        go_wp2_with (go_at_call 8; refine (known_calls _).mono ?_; rintro e w1 ⟨rfl, hb1⟩)
        refine (CP.out _).mono ?_
        rintro e w2 ⟨rfl, rfl⟩
        go_wp2_with fail
        refine (CI.out _).mono ?_
        rintro e w2 ⟨rfl, rfl⟩
        go_wp2_with fail
        rw [show ∀ h, [Value.string ⟨#[46, 115, 101, 114, 118, 105, 99, 101]⟩, Value.string ⟨#[46, 115, 111, 99, 107, 101, 116]⟩, Value.string ⟨#[46, 116, 105, 109, 101, 114]⟩, Value.string ⟨#[46, 112, 97, 116, 104]⟩, Value.string ⟨#[46, 109, 111, 117, 110, 116]⟩, Value.string ⟨#[46, 116, 97, 114, 103, 101, 116]⟩][K]'h = Value.string E from HEV.out]
        go_simp
        go_wp2_with fail
        rw [show ∀ h, [Value.string ⟨#[46, 115, 101, 114, 118, 105, 99, 101]⟩, Value.string ⟨#[46, 115, 111, 99, 107, 101, 116]⟩, Value.string ⟨#[46, 116, 105, 109, 101, 114]⟩, Value.string ⟨#[46, 112, 97, 116, 104]⟩, Value.string ⟨#[46, 109, 111, 117, 110, 116]⟩, Value.string ⟨#[46, 116, 97, 114, 103, 101, 116]⟩][K]'h = Value.string E from HEV.out]
        go_simp
        go_wp2_with fail
        refine (C1.out _).mono ?_
        rintro e w2 ⟨rfl, hb2⟩
        obtain ⟨c2, f2⟩ := bcell hb2
        have z2 : w1.heap.size < w2.heap.size := by have := hb2.size; simp at this; omega
        go_wp2_with fail
        refine (C2.out _).mono ?_
        rintro e w3 ⟨rfl, hb3⟩
        obtain ⟨c3, f3⟩ := bcell hb3
        have z3 := hb3.size
        go_wp2_with fail
        refine (C3.out _).mono ?_
        rintro e w4 ⟨rfl, hb4⟩
        obtain ⟨c4, f4⟩ := bcell hb4
        have z4 := hb4.size
        go_wp2_with fail
        refine (C4.out _).mono ?_
        rintro e w5 ⟨rfl, hb5⟩
        obtain ⟨c5, f5⟩ := bcell hb5
        have z5 := hb5.size
        go_wp2_with fail
        refine (C5.out _).mono ?_
        rintro e w6 ⟨rfl, hb6⟩
        obtain ⟨c6, f6⟩ := bcell hb6
        have z6 := hb6.size
        have z16 : w1.heap.size < w5.heap.size := by omega
        have z15 : w1.heap.size < w4.heap.size := by omega
        have z14 : w1.heap.size < w3.heap.size := by omega
        go_wp2_with fail
        rw [show ∀ h, [Value.string ⟨#[46, 115, 101, 114, 118, 105, 99, 101]⟩, Value.string ⟨#[46, 115, 111, 99, 107, 101, 116]⟩, Value.string ⟨#[46, 116, 105, 109, 101, 114]⟩, Value.string ⟨#[46, 112, 97, 116, 104]⟩, Value.string ⟨#[46, 109, 111, 117, 110, 116]⟩, Value.string ⟨#[46, 116, 97, 114, 103, 101, 116]⟩][K]'h = Value.string E from HEV.out]
        go_simp
        go_wp2_with fail
        go_ret
        exact ⟨rfl, bstep (bstep (bstep (bstep (bstep (hb1.alloc hb1.size _) hb2) hb3) hb4) hb5) hb6⟩
  · have hem1 : p.toList = [] := by simpa using hem
    clear hpp hii
    go_enter Tryd.func7, Tryd.ntmps7
    go_wp2_with (go_at_call 8; refine (known_calls _).mono ?_; rintro e w1 ⟨rfl, hb1⟩)
    refine (CP.out _).mono ?_
    rintro e w2 ⟨rfl, rfl⟩
    go_wp2_with fail
    refine (CI.out _).mono ?_
    rintro e w2 ⟨rfl, rfl⟩
    go_wp2_with fail
    go_ret
    exact ⟨rfl, hb1.alloc hb1.size _⟩
end Go.Proofs.YtgppdndpnflkeaaDoor
