/- Contracts of the reference: Expand. -/
import Derived.Test.YtgppdndpnflkeaaDoorRg
namespace Go.Proofs.YtgppdndpnflkeaaDoor
open Go.RowKit Go.Rv

def XRel (w : World) (t u : List UInt8) (v i : Value) (W : World) : Prop :=
  ∃ (k : Nat) (o : List UInt8), k ≤ t.length ∧ i = .int .i64 k ∧ v = .string (mkS o) ∧ Hid (exR u t = (exR u (t.drop k)).map (o ++ ·)) ∧ o.length + 1002 * (t.length - k) ≤ 1002 * t.length ∧ Below w.heap.size w W
theorem x_plain {t u o : List UInt8} {k : Nat} {c : UInt8} (h : Hid (exR u t = (exR u (t.drop k)).map (o ++ ·))) (hc : t[k]? = some c) (hn : c ≠ 37) : Hid (exR u t = (exR u (t.drop (k + 1))).map ((o ++ [c]) ++ ·)) :=
  Lib.hid (by rw [h.out, drop_cons hc, exR_cons, if_neg hn, Option.map_map]; congr 1; funext r; simp)
theorem x_spec {t u o x : List UInt8} {k : Nat} {d : UInt8} (h : Hid (exR u t = (exR u (t.drop k)).map (o ++ ·))) (hc : t[k]? = some 37) (hd : t[k + 1]? = some d) (hs : specL d u = (x, 0)) : Hid (exR u t = (exR u (t.drop (k + 2))).map ((o ++ x) ++ ·)) :=
  Lib.hid (by
    rw [h.out, drop_cons hc, drop_cons hd, exR_cons, if_pos rfl]
    dsimp only
    rw [hs, if_pos rfl, Option.map_map]; congr 1; funext r; simp)
theorem x_bad {t u o : List UInt8} {k : Nat} {d : UInt8} (h : Hid (exR u t = (exR u (t.drop k)).map (o ++ ·))) (hc : t[k]? = some 37) (hd : t[k + 1]? = some d) (hs : specL d u = ([], 42)) : exR u t = none := by
  rw [h.out, drop_cons hc, drop_cons hd, exR_cons, if_pos rfl]
  dsimp only
  rw [hs, if_neg (by decide)]; rfl
theorem x_short {t u o : List UInt8} {k : Nat} (h : Hid (exR u t = (exR u (t.drop k)).map (o ++ ·))) (hc : t[k]? = some 37) (hl : t.length = k + 1) : exR u t = none := by
  rw [h.out, drop_cons hc, List.drop_eq_nil_of_le (by omega), exR_cons, if_pos rfl]; rfl

set_option maxHeartbeats 2000000 in
theorem expandR_calls (s u : ByteArray) (hs : s.size ≤ 1000) (hu : u.size ≤ 1000) (w : World) : Calls Tryd.prog 10 #[.string s, .string u] w (ExPost w s u) := by
  rcases hok : (partsO u.data.toList).isSome with _ | _
  · have E : Hid (expandL s.data.toList u.data.toList = ([], 40)) := Lib.hid (by rw [expandL, if_pos hok])
    have HK := Lib.hid hok
    clear hok
    go_enter Tryd.func10, Tryd.ntmps10
    go_wp2_with (go_at_call 17; refine (isR_calls u (by omega) _).mono ?_; rintro e w1 ⟨rfl, hb⟩; rw [HK.out])
    go_ret2
    exact ⟨by rw [E.out]; rfl, hb⟩
  · have HK := Lib.hid hok
    obtain ⟨t, ht⟩ : ∃ t, s.data.toList = t := ⟨_, rfl⟩
    have htl : t.length = s.size := by rw [← ht, ← Lib.size_eq]
    obtain ⟨⟨p, b, f, K⟩, hp⟩ : ∃ q, pT u.data.toList = q := ⟨_, rfl⟩
    have hpl := pT_len u.data.toList
    rw [hp, ← Lib.size_eq] at hpl
    dsimp only at hpl
    have CI : Hid (∀ W, Calls Tryd.prog 16 #[.string u] W fun e w' => e = .returned (.tuple #[.string (mkS b), .bool f]) ∧ Below W.heap.size W w') := Lib.hid fun W => by
      have := instanceR_calls u (by omega) W
      rw [hp] at this; exact this
    have CP : Hid (∀ W, Calls Tryd.prog 21 #[.string u] W fun e w' => e = .returned (.string (mkS p)) ∧ Below W.heap.size W w') := Lib.hid fun W => by
      have := prefixR_calls u (by omega) W
      rw [hp] at this; exact this
    obtain ⟨⟨z, nz⟩, hz⟩ : ∃ q, unescL b = q := ⟨_, rfl⟩
    have hzl := unescL_len b
    rw [hz] at hzl
    dsimp only at hzl
    have CU : Hid (∀ W, Calls Tryd.prog 27 #[.string (mkS b)] W fun e w' => e = .returned (.tuple #[.string (mkS z), .int .i64 nz]) ∧ Below W.heap.size W w') := Lib.hid fun W => by
      have := unescapeR_calls (mkS b) (by rw [size_mkS]; omega) W
      unfold UnPost at this
      rw [data_mkS, hz] at this
      exact this
    have S1 : Hid (specL 110 u.data.toList = (u.data.toList, 0)) := Lib.hid rfl
    have S2 : Hid (specL 112 u.data.toList = (p, 0)) := Lib.hid (by rw [specL, if_neg (by decide), if_pos rfl, hp])
    have S3 : Hid (specL 105 u.data.toList = (b, 0)) := Lib.hid (by rw [specL, if_neg (by decide), if_neg (by decide), if_pos rfl, hp])
    have S4 : Hid (specL 73 u.data.toList = if nz = 0 then (z, 0) else ([], 42)) := Lib.hid (by rw [specL, if_neg (by decide), if_neg (by decide), if_neg (by decide), if_pos rfl, hp, hz])
    have S5 : Hid (specL 37 u.data.toList = ([37], 0)) := Lib.hid rfl
    have HT := Lib.hid ht
    have HTL := Lib.hid htl
    have HUL : Hid (u.data.toList.length = u.size) := Lib.hid (Lib.size_eq u).symm
    clear hok hp hz ht htl
    go_enter Tryd.func10, Tryd.ntmps10
    go_wp2_with (go_at_call 17; refine (isR_calls u (by omega) _).mono ?_; rintro e w1 ⟨rfl, hb⟩; rw [HK.out])
    go_loopw [6, 7] (fun v i W => XRel w t u.data.toList v i W) (fun _ i _ => t.length - (intOf i).toNat)
    case atStart => exact ⟨0, [], by omega, rfl, rfl, Lib.hid (by simp), by simp, hb⟩
    case round =>
      obtain ⟨k, o, hk, rfl, rfl, Hex, hol, hbr⟩ := hrel
      have Hbr := Lib.hid hbr
      clear hbr
      have hos : (mkS o).size ≤ 1002000 := by rw [size_mkS]; have := HTL.out; omega
      by_cases hlt : (k : Int) < (s.size : Int)
      · have hkp : k < s.size := by omega
        obtain ⟨c, hc⟩ : ∃ c : UInt8, s[k] = c := ⟨_, rfl⟩
        have HC : Hid (t[k]? = some c) := Lib.hid (by rw [← HT.out, ← hc]; exact Lib.data_getElem? s k hkp)
        by_cases h37 : c = 37
        · subst h37
          by_cases hend : (k : Int) + 1 = (s.size : Int)
          · have E : Hid (exR u.data.toList s.data.toList = none) := Lib.hid (by rw [HT.out]; exact x_short Hex HC.out (by have := HTL.out; omega))
            have heb : ((k : Int) + 1 == (s.size : Int)) = true := by simpa using hend
            have HE := Lib.hid hend
            clear hend
            go_wp2_with fail
            go_ret2
            exact ex_bad HK E.out rfl Hbr.out
          · have hkd : k + 1 < s.size := by omega
            have heb : ((k : Int) + 1 == (s.size : Int)) = false := by simpa using hend
            have hki : (k : Int) + 1 < (s.size : Int) := by omega
            obtain ⟨d, hd⟩ : ∃ d : UInt8, s[k + 1] = d := ⟨_, rfl⟩
            have HD : Hid (t[k + 1]? = some d) := Lib.hid (by rw [← HT.out, ← hd]; exact Lib.data_getElem? s (k + 1) hkd)
            clear hend
            by_cases h110 : d = 110
            · subst h110
              have hsum : ¬ 9223372036854775807 < (mkS o).size + u.size := by omega
              go_wp2_with fail
              refine (CI.out _).mono ?_
              rintro e w2 ⟨rfl, hb2⟩
              go_wp2_with fail
              go_roundw
              case rel => exact ⟨k + 2, o ++ u.data.toList, by have := HTL.out; omega, by go_num, by rw [← mkS_append, mkS_data], x_spec Hex HC.out HD.out S1.out, by rw [List.length_append]; have := HTL.out; have := HUL.out; omega, (bstep Hbr.out hb2)⟩
              case measure => have := HTL.out; simp [intOf]; omega
            by_cases h112 : d = 112
            · subst h112
              have hsum : ¬ 9223372036854775807 < (mkS o).size + (mkS p).size := by rw [size_mkS p]; omega
              go_wp2_with fail
              refine (CI.out _).mono ?_
              rintro e w2 ⟨rfl, hb2⟩
              go_wp2_with fail
              refine (CP.out _).mono ?_
              rintro e w3 ⟨rfl, hb3⟩
              go_wp2_with fail
              go_roundw
              case rel => exact ⟨k + 2, o ++ p, by have := HTL.out; omega, by go_num, by rw [← mkS_append], x_spec Hex HC.out HD.out S2.out, by rw [List.length_append]; have := HTL.out; omega, (bstep (bstep Hbr.out hb2) hb3)⟩
              case measure => have := HTL.out; simp [intOf]; omega
            by_cases h105 : d = 105
            · subst h105
              have hsum : ¬ 9223372036854775807 < (mkS o).size + (mkS b).size := by rw [size_mkS b]; omega
              go_wp2_with fail
              refine (CI.out _).mono ?_
              rintro e w2 ⟨rfl, hb2⟩
              go_wp2_with fail
              go_roundw
              case rel => exact ⟨k + 2, o ++ b, by have := HTL.out; omega, by go_num, by rw [← mkS_append], x_spec Hex HC.out HD.out S3.out, by rw [List.length_append]; have := HTL.out; omega, (bstep Hbr.out hb2)⟩
              case measure => have := HTL.out; simp [intOf]; omega
            by_cases h73 : d = 73
            · subst h73
              by_cases hnz : nz = 0
              · subst hnz
                have hsum : ¬ 9223372036854775807 < (mkS o).size + (mkS z).size := by rw [size_mkS z]; omega
                go_wp2_with fail
                refine (CI.out _).mono ?_
                rintro e w2 ⟨rfl, hb2⟩
                go_wp2_with fail
                refine (CU.out _).mono ?_
                rintro e w3 ⟨rfl, hb3⟩
                go_wp2_with fail
                go_roundw
                case rel => exact ⟨k + 2, o ++ z, by have := HTL.out; omega, by go_num, by rw [← mkS_append], x_spec Hex HC.out HD.out (by rw [S4.out]; simp), by rw [List.length_append]; have := HTL.out; omega, (bstep (bstep Hbr.out hb2) hb3)⟩
                case measure => have := HTL.out; simp [intOf]; omega
              · have E : Hid (exR u.data.toList s.data.toList = none) := Lib.hid (by rw [HT.out]; exact x_bad Hex HC.out HD.out (by rw [S4.out, if_neg hnz]))
                have hnb : (nz != 0) = true := by simpa using hnz
                go_wp2_with fail
                refine (CI.out _).mono ?_
                rintro e w2 ⟨rfl, hb2⟩
                go_wp2_with fail
                refine (CU.out _).mono ?_
                rintro e w3 ⟨rfl, hb3⟩
                go_wp2_with fail
                go_ret2
                exact ex_bad HK E.out rfl (bstep (bstep Hbr.out hb2) hb3)
            by_cases h37 : d = 37
            · subst h37
              have hsum : ¬ 9223372036854775807 < (mkS o).size + 1 := by omega
              go_wp2_with fail
              refine (CI.out _).mono ?_
              rintro e w2 ⟨rfl, hb2⟩
              go_wp2_with fail
              go_roundw
              case rel => exact ⟨k + 2, o ++ [37], by have := HTL.out; omega, by go_num, by rw [← mkS_append]; rfl, x_spec Hex HC.out HD.out S5.out, by rw [List.length_append]; have := HTL.out; simp; omega, (bstep Hbr.out hb2)⟩
              case measure => have := HTL.out; simp [intOf]; omega
            have E : Hid (exR u.data.toList s.data.toList = none) := Lib.hid (by
              rw [HT.out]
              exact x_bad Hex HC.out HD.out (by rw [specL, if_neg h110, if_neg h112, if_neg h105, if_neg h73, if_neg h37]))
            have m110 : ((d.toNat : Int) == 110) = false := by have := ne_u8 (n := 110) (by decide) h110; simpa using this
            have m112 : ((d.toNat : Int) == 112) = false := by have := ne_u8 (n := 112) (by decide) h112; simpa using this
            have m105 : ((d.toNat : Int) == 105) = false := by have := ne_u8 (n := 105) (by decide) h105; simpa using this
            have m73 : ((d.toNat : Int) == 73) = false := by have := ne_u8 (n := 73) (by decide) h73; simpa using this
            have m37 : ((d.toNat : Int) == 37) = false := by have := ne_u8 (n := 37) (by decide) h37; simpa using this
            clear h110 h112 h105 h73 h37
            go_wp2_with fail
            refine (CI.out _).mono ?_
            rintro e w2 ⟨rfl, hb2⟩
            go_wp2_with fail
            go_ret2
            exact ex_bad HK E.out rfl (bstep Hbr.out hb2)
        · have n37 : ¬ (c.toNat : Int) = 37 := ne_u8 (n := 37) (by decide) h37
          have m37 : ((c.toNat : Int) != 37) = true := by simpa using n37
          have H37 := Lib.hid h37
          have hex1 : s.extract k (k + 1) = mkS [c] := by
            rw [Lib.extract_eq, HT.out, show k + 1 - k = 1 by omega, drop_cons HC.out]; rfl
          have Hex1 := Lib.hid hex1
          have h1s : (s.extract k (k + 1)).size = 1 := by rw [hex1]; rfl
          have hsum : ¬ 9223372036854775807 < (mkS o).size + (s.extract k (k + 1)).size := by rw [h1s]; omega
          have hsum1 : ¬ 9223372036854775807 < (mkS o).size + 1 := by omega
          have hk1 : (k : Int) + 1 ≤ (s.size : Int) := by omega
          clear h37 hex1
          go_wp2_with fail
          go_roundw
          case rel =>
            refine ⟨k + 1, o ++ [c], by have := HTL.out; omega, by go_num, ?_, x_plain Hex HC.out H37.out, ?_, Hbr.out⟩
            · rw [Hex1.out, mkS_append]
            · have := HTL.out
              rw [List.length_append, List.length_singleton]
              omega
          case measure => have := HTL.out; simp [intOf]; omega
      · have hke : k = t.length := by have := HTL.out; omega
        have E : Hid (exR u.data.toList s.data.toList = some o) := Lib.hid (by rw [HT.out, Hex.out, hke, List.drop_length, exR]; simp)
        clear hke
        go_wp2_with fail
        go_ret2
        exact ex_good HK E.out rfl Hbr.out
end Go.Proofs.YtgppdndpnflkeaaDoor
