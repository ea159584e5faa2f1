/- NameExpands, NameTells: the walks. -/
import Derived.Test.YtgppdndpnflkeaaDoorRh
namespace Go.Proofs.YtgppdndpnflkeaaDoor
open Go.RowKit Go.Rv

theorem expands_walk (t u : ByteArray) (w : World) : Calls Tryd.prog 3 #[.string t, .string u] w fun e w' => e = .returned (.bool true) ∧ Below w.heap.size w w' := by
  by_cases ht : (400 : Int) < (t.size : Int)
  · go_enter Tryd.func3, Tryd.ntmps3
    go_wp2_with (go_at_call 8; refine (known_calls _).mono ?_; rintro e w1 ⟨rfl, hb1⟩)
    go_ret
    exact ⟨rfl, hb1⟩
  by_cases hu : (100 : Int) < (u.size : Int)
  · go_enter Tryd.func3, Tryd.ntmps3
    go_wp2_with (go_at_call 8; refine (known_calls _).mono ?_; rintro e w1 ⟨rfl, hb1⟩)
    go_ret
    exact ⟨rfl, hb1⟩
  obtain ⟨⟨x, n⟩, hx⟩ : ∃ q, expandL t.data.toList u.data.toList = q := ⟨_, rfl⟩
  have C1 : Hid (∀ W, Calls Tryd.prog 9 #[.string t, .string u] W fun e w' => e = .returned (.tuple #[.string (mkS x), .int .i64 n]) ∧ Below W.heap.size W w') := Lib.hid fun W => by
    have := expand_calls t u (by omega) (by omega) W
    unfold ExPost at this
    rw [hx] at this
    exact this
  have C2 : Hid (∀ W, Calls Tryd.prog 10 #[.string t, .string u] W fun e w' => e = .returned (.tuple #[.string (mkS x), .int .i64 n]) ∧ Below W.heap.size W w') := Lib.hid fun W => by
    have := expandR_calls t u (by omega) (by omega) W
    unfold ExPost at this
    rw [hx] at this
    exact this
  clear hx
  go_enter Tryd.func3, Tryd.ntmps3
  go_wp2_with (go_at_call 8; refine (known_calls _).mono ?_; rintro e w1 ⟨rfl, hb1⟩)
  refine (C1.out _).mono ?_
  rintro e w2 ⟨rfl, hb2⟩
  go_wp2_with fail
  refine (C2.out _).mono ?_
  rintro e w3 ⟨rfl, hb3⟩
  go_wp2_with fail
  go_ret
  exact ⟨rfl, bstep (bstep hb1 hb2) hb3⟩

set_option maxHeartbeats 2000000 in
theorem tells_walk (s t : ByteArray) (w : World) : Calls Tryd.prog 6 #[.string s, .string t] w fun e w' => e = .returned (.bool true) ∧ Below w.heap.size w w' := by
  by_cases ht : (300 : Int) < (s.size : Int)
  · go_enter Tryd.func6, Tryd.ntmps6
    go_wp2_with (go_at_call 8; refine (known_calls _).mono ?_; rintro e w1 ⟨rfl, hb1⟩)
    go_ret
    exact ⟨rfl, hb1⟩
  by_cases hu : (300 : Int) < (t.size : Int)
  · go_enter Tryd.func6, Tryd.ntmps6
    go_wp2_with (go_at_call 8; refine (known_calls _).mono ?_; rintro e w1 ⟨rfl, hb1⟩)
    go_ret
    exact ⟨rfl, hb1⟩
  have hk := (kind_same s.data.toList).1
  obtain ⟨⟨p, i, f, k⟩, hp⟩ : ∃ q, pT s.data.toList = q := ⟨_, rfl⟩
  rw [hp] at hk
  dsimp only at hk
  obtain ⟨ok, hok⟩ : ∃ q, (partsO s.data.toList).isSome = q := ⟨_, rfl⟩
  obtain ⟨T, hT⟩ : ∃ q, templateL s.data.toList = q := ⟨_, rfl⟩
  obtain ⟨E, hE⟩ : ∃ q, escL s.data.toList = q := ⟨_, rfl⟩
  obtain ⟨⟨x1, n1⟩, h1⟩ : ∃ q, withL s.data.toList t.data.toList = q := ⟨_, rfl⟩
  obtain ⟨⟨x2, n2⟩, h2⟩ : ∃ q, unescL s.data.toList = q := ⟨_, rfl⟩
  obtain ⟨⟨x3, n3⟩, h3⟩ : ∃ q, ofPathL s.data.toList = q := ⟨_, rfl⟩
  have C15 : Hid (∀ W, Calls Tryd.prog 15 #[.string s] W fun e w' => e = .returned (.tuple #[.string (mkS i), .bool f]) ∧ Below W.heap.size W w') := Lib.hid fun W => by
    have := instance_calls s (by omega) W
    rw [hp] at this
    exact this
  have C16 : Hid (∀ W, Calls Tryd.prog 16 #[.string s] W fun e w' => e = .returned (.tuple #[.string (mkS i), .bool f]) ∧ Below W.heap.size W w') := Lib.hid fun W => by
    have := instanceR_calls s (by omega) W
    rw [hp] at this
    exact this
  have C14 : Hid (∀ W, Calls Tryd.prog 14 #[.string s] W fun e w' => e = .returned (.bool ok) ∧ Below W.heap.size W w') := Lib.hid fun W => by
    have := is_calls s (by omega) W
    rw [hok] at this
    exact this
  have C17 : Hid (∀ W, Calls Tryd.prog 17 #[.string s] W fun e w' => e = .returned (.bool ok) ∧ Below W.heap.size W w') := Lib.hid fun W => by
    have := isR_calls s (by omega) W
    rw [hok] at this
    exact this
  have C18 : Hid (∀ W, Calls Tryd.prog 18 #[.string s] W fun e w' => e = .returned (.int .i64 (k : Int)) ∧ Below W.heap.size W w') := Lib.hid fun W => by
    have := kind_calls s (by omega) W
    rw [hp] at this
    exact this
  have C19 : Hid (∀ W, Calls Tryd.prog 19 #[.string s] W fun e w' => e = .returned (.int .i64 (k : Int)) ∧ Below W.heap.size W w') := Lib.hid fun W => by
    have := kindR_calls s (by omega) W
    unfold KdPost at this
    rw [hk] at this
    exact this
  have C20 : Hid (∀ W, Calls Tryd.prog 20 #[.string s] W fun e w' => e = .returned (.string (mkS p)) ∧ Below W.heap.size W w') := Lib.hid fun W => by
    have := prefix_calls s (by omega) W
    rw [hp] at this
    exact this
  have C21 : Hid (∀ W, Calls Tryd.prog 21 #[.string s] W fun e w' => e = .returned (.string (mkS p)) ∧ Below W.heap.size W w') := Lib.hid fun W => by
    have := prefixR_calls s (by omega) W
    rw [hp] at this
    exact this
  have C22 : Hid (∀ W, Calls Tryd.prog 22 #[.string s] W fun e w' => e = .returned (.string (mkS T)) ∧ Below W.heap.size W w') := Lib.hid fun W => by
    have := template_calls s (by omega) W
    rw [hT] at this
    exact this
  have C23 : Hid (∀ W, Calls Tryd.prog 23 #[.string s] W fun e w' => e = .returned (.string (mkS T)) ∧ Below W.heap.size W w') := Lib.hid fun W => by
    have := templateR_calls s (by omega) W
    rw [hT] at this
    exact this
  have C11 : Hid (∀ W, Calls Tryd.prog 11 #[.string s] W fun e w' => e = .returned (.string (mkS E)) ∧ Below W.heap.size W w') := Lib.hid fun W => by
    have := escape_calls s (by omega) W
    rw [hE] at this
    exact this
  have C24 : Hid (∀ W, Calls Tryd.prog 24 #[.string s] W fun e w' => e = .returned (.string (mkS E)) ∧ Below W.heap.size W w') := Lib.hid fun W => by
    have := escapeR_calls s (by omega) W
    rw [hE] at this
    exact this
  have C25 : Hid (∀ W, Calls Tryd.prog 25 #[.string s, .string t] W fun e w' => e = .returned (.tuple #[.string (mkS x1), .int .i64 n1]) ∧ Below W.heap.size W w') := Lib.hid fun W => by
    have := with_calls s t (by omega) (by omega) W
    unfold WithPost at this
    rw [h1] at this
    exact this
  have C26 : Hid (∀ W, Calls Tryd.prog 26 #[.string s, .string t] W fun e w' => e = .returned (.tuple #[.string (mkS x1), .int .i64 n1]) ∧ Below W.heap.size W w') := Lib.hid fun W => by
    have := withR_calls s t (by omega) (by omega) W
    unfold WithPost at this
    rw [h1] at this
    exact this
  have C12 : Hid (∀ W, Calls Tryd.prog 12 #[.string s] W fun e w' => e = .returned (.tuple #[.string (mkS x2), .int .i64 n2]) ∧ Below W.heap.size W w') := Lib.hid fun W => by
    have := unescape_calls s (by omega) W
    unfold UnPost at this
    rw [h2] at this
    exact this
  have C27 : Hid (∀ W, Calls Tryd.prog 27 #[.string s] W fun e w' => e = .returned (.tuple #[.string (mkS x2), .int .i64 n2]) ∧ Below W.heap.size W w') := Lib.hid fun W => by
    have := unescapeR_calls s (by omega) W
    unfold UnPost at this
    rw [h2] at this
    exact this
  have C13 : Hid (∀ W, Calls Tryd.prog 13 #[.string s] W fun e w' => e = .returned (.tuple #[.string (mkS x3), .int .i64 n3]) ∧ Below W.heap.size W w') := Lib.hid fun W => by
    have := ofPath_calls s (by omega) W
    unfold OfPost at this
    rw [h3] at this
    exact this
  have C28 : Hid (∀ W, Calls Tryd.prog 28 #[.string s] W fun e w' => e = .returned (.tuple #[.string (mkS x3), .int .i64 n3]) ∧ Below W.heap.size W w') := Lib.hid fun W => by
    have := ofPathR_calls s (by omega) W
    unfold OrPost at this
    rw [h3] at this
    exact this
  clear hk hp hok hT hE h1 h2 h3
  go_enter Tryd.func6, Tryd.ntmps6
  go_wp2_with (go_at_call 8; refine (known_calls _).mono ?_; rintro e w1 ⟨rfl, hb1⟩)
  refine (C15.out _).mono ?_
  rintro e w2 ⟨rfl, hb2⟩
  go_wp2_with fail
  refine (C16.out _).mono ?_
  rintro e w3 ⟨rfl, hb3⟩
  go_wp2_with fail
  refine (C14.out _).mono ?_
  rintro e w4 ⟨rfl, hb4⟩
  go_wp2_with fail
  refine (C17.out _).mono ?_
  rintro e w5 ⟨rfl, hb5⟩
  go_wp2_with fail
  refine (C18.out _).mono ?_
  rintro e w6 ⟨rfl, hb6⟩
  go_wp2_with fail
  refine (C19.out _).mono ?_
  rintro e w7 ⟨rfl, hb7⟩
  go_wp2_with fail
  refine (C20.out _).mono ?_
  rintro e w8 ⟨rfl, hb8⟩
  go_wp2_with fail
  refine (C21.out _).mono ?_
  rintro e w9 ⟨rfl, hb9⟩
  go_wp2_with fail
  refine (C22.out _).mono ?_
  rintro e w10 ⟨rfl, hb10⟩
  go_wp2_with fail
  refine (C23.out _).mono ?_
  rintro e w11 ⟨rfl, hb11⟩
  go_wp2_with fail
  refine (C11.out _).mono ?_
  rintro e w12 ⟨rfl, hb12⟩
  go_wp2_with fail
  refine (C24.out _).mono ?_
  rintro e w13 ⟨rfl, hb13⟩
  go_wp2_with fail
  refine (C25.out _).mono ?_
  rintro e w14 ⟨rfl, hb14⟩
  go_wp2_with fail
  refine (C26.out _).mono ?_
  rintro e w15 ⟨rfl, hb15⟩
  go_wp2_with fail
  refine (C12.out _).mono ?_
  rintro e w16 ⟨rfl, hb16⟩
  go_wp2_with fail
  refine (C27.out _).mono ?_
  rintro e w17 ⟨rfl, hb17⟩
  go_wp2_with fail
  refine (C13.out _).mono ?_
  rintro e w18 ⟨rfl, hb18⟩
  go_wp2_with fail
  refine (C28.out _).mono ?_
  rintro e w19 ⟨rfl, hb19⟩
  go_wp2_with fail
  go_ret
  exact ⟨rfl, (bstep (bstep (bstep (bstep (bstep (bstep (bstep (bstep (bstep (bstep (bstep (bstep (bstep (bstep (bstep (bstep (bstep (bstep hb1 hb2) hb3) hb4) hb5) hb6) hb7) hb8) hb9) hb10) hb11) hb12) hb13) hb14) hb15) hb16) hb17) hb18) hb19)⟩
end Go.Proofs.YtgppdndpnflkeaaDoor
