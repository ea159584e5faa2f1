/- NamePaths: the walk. -/
import Derived.Test.YtgppdndpnflkeaaDoorNn
import Derived.Test.YtgppdndpnflkeaaDoorJ
namespace Go.Proofs.YtgppdndpnflkeaaDoor
open Go.RowKit Go.Rv

def segs (ss : List ByteArray) (k : Nat) : List (List UInt8) := (List.range k).map fun j => (ss.getD j ByteArray.empty).data.toList
theorem segs_succ (ss : List ByteArray) (k : Nat) : segs ss (k + 1) = segs ss k ++ [(ss.getD k ByteArray.empty).data.toList] := by simp [segs, List.range_succ]
def PsRel (ss : List ByteArray) (len : Nat) (v i : Value) : Prop :=
  ∃ k : Nat, k ≤ len ∧ i = .int .i64 k ∧ v = .string (mkS (pathP (segs ss k))) ∧ Hid ((∀ l ∈ segs ss k, Seg l) ∧ (pathP (segs ss k)).length ≤ 41 * k)
theorem seg_of {x : ByteArray} (h1 : x.toList.isEmpty = false) (h2 : (x.toList == [46]) = false) (h3 : (x.toList == [46, 46]) = false) (h4 : ∀ j c, x.data.toList[j]? = some c → j < x.size → c ≠ 47) : Seg x.data.toList := by
  rw [Lib.toList_data] at h1 h2 h3
  refine ⟨by simpa using h1, by simpa using h2, by simpa using h3, fun c hc => ?_⟩
  obtain ⟨j, hj⟩ := List.getElem?_of_mem hc
  exact h4 j c hj (by rw [Lib.size_eq]; exact (List.getElem?_eq_some_iff.1 hj).1)
def ScRel (x : ByteArray) (i : Value) : Prop := ∃ k : Nat, k ≤ x.size ∧ i = .int .i64 k ∧ Hid (∀ j c, x.data.toList[j]? = some c → j < k → c ≠ 47)

set_option maxHeartbeats 1000000 in
theorem paths_walk (w : World) (o : Option Addr) (len cap : Nat) (ss : List ByteArray) (hin : StrsIn w o len ss) (hm : len ≤ maxLen) :
    Calls Tryd.prog 5 #[.slice o len cap] w fun e w' => e = .returned (.bool true) ∧ Below w.heap.size w w' := by
  unfold maxLen at hm
  by_cases h0 : (len : Int) < 1
  · go_enter Tryd.func5, Tryd.ntmps5
    go_wp2_with (go_at_call 8; refine (known_calls _).mono ?_; rintro e w1 ⟨rfl, hb1⟩)
    go_ret
    exact ⟨rfl, hb1⟩
  by_cases h8 : 8 < (len : Int)
  · go_enter Tryd.func5, Tryd.ntmps5
    go_wp2_with (go_at_call 8; refine (known_calls _).mono ?_; rintro e w1 ⟨rfl, hb1⟩)
    go_ret
    exact ⟨rfl, hb1⟩
  have HIN := Lib.hid hin
  clear hin
  go_enter Tryd.func5, Tryd.ntmps5
  go_wp2_with (go_at_call 8; refine (known_calls _).mono ?_; rintro e w1 ⟨rfl, hb1⟩)
  go_loop [3, 4] (fun v i => PsRel ss len v i) (fun _ i => len - (intOf i).toNat)
  case atStart => exact ⟨0, by omega, rfl, rfl, Lib.hid ⟨by simp [segs], by simp [segs, pathP]⟩⟩
  case round =>
    obtain ⟨k, hk, rfl, rfl, HK⟩ := hrel
    by_cases hlt : (k : Int) < (len : Int)
    · obtain ⟨a, rfl, ha, hc, hsz⟩ := HIN.out k (by omega)
      obtain ⟨x, hx⟩ : ∃ x, ss.getD k ByteArray.empty = x := ⟨_, rfl⟩
      rw [hx] at hc hsz
      have HX := Lib.hid hx
      have hc1 : w1.cell? (a.add k) = some (.string x) := (hb1.cell (p := a.add k) (by rw [add_block]; exact ha)).trans hc
      unfold maxLen at hsz
      clear hx hc
      rcases hx1 : x.toList.isEmpty with _ | _
      · have hx1' : ¬ x.toList = [] := by intro e; rw [e] at hx1; cases hx1
        rcases hx2 : (x.toList == [46]) with _ | _
        · rcases hx3 : (x.toList == [46, 46]) with _ | _
          · by_cases hx4 : 40 < (x.size : Int)
            · go_wp2
              go_ret
              exact ⟨rfl, hb1⟩
            · go_wp2
              go_loop [6] (fun i => ScRel x i) (fun i => x.size - (intOf i).toNat)
              case atStart => exact ⟨0, by omega, rfl, Lib.hid fun j c _ h => absurd h (by omega)⟩
              case round =>
                obtain ⟨m, hm2, rfl, HM⟩ := hrel
                by_cases hml : (m : Int) < (x.size : Int)
                · have hml' : m < x.size := by omega
                  obtain ⟨c, hc⟩ : ∃ c : UInt8, x[m] = c := ⟨_, rfl⟩
                  have hcl : x.data.toList[m]? = some c := by rw [← hc]; exact Lib.data_getElem? x m hml'
                  have HC := Lib.hid hcl
                  clear hcl
                  by_cases h47 : c = 47
                  · subst h47
                    go_wp2
                    go_ret
                    exact ⟨rfl, hb1⟩
                  · have n47 : ¬ (c.toNat : Int) = 47 := ne_u8 (n := 47) (by decide) h47
                    have H47 := Lib.hid h47
                    clear h47
                    go_wp2
                    go_round
                    case rel =>
                      refine ⟨m + 1, by omega, by go_num, Lib.hid fun j d hd hj => ?_⟩
                      by_cases e : j = m
                      · subst e
                        have := HC.out
                        rw [this] at hd
                        cases hd
                        exact H47.out
                      · exact HM.out j d hd (by omega)
                    case measure => simp [intOf]; omega
                · obtain rfl : m = x.size := by omega
                  have hseg := seg_of hx1 hx2 hx3 HM.out
                  have HS := Lib.hid hseg
                  have hl41 := HK.out.2
                  have hsum1 : ¬ 9223372036854775807 < (mkS (pathP (segs ss k))).size + 1 := by rw [size_mkS]; omega
                  have hsum2 : ¬ 9223372036854775807 < (mkS (pathP (segs ss k))).size + 1 + x.size := by rw [size_mkS]; omega
                  clear hseg
                  go_wp2
                  go_round
                  case rel =>
                    refine ⟨k + 1, by omega, by go_num, ?_, Lib.hid ⟨?_, ?_⟩⟩
                    · congr 1
                      rw [segs_succ, pathP_snoc, HX.out, ← mkS_append, ← mkS_append, mkS_data]; rfl
                    · intro l hl
                      rw [segs_succ, HX.out] at hl
                      rcases List.mem_append.1 hl with hl | hl
                      · exact HK.out.1 l hl
                      · cases List.mem_singleton.1 hl
                        exact HS.out
                    · rw [segs_succ, pathP_snoc, HX.out, List.length_append, List.length_append, List.length_singleton, ← Lib.size_eq]
                      have := HK.out.2
                      omega
                  case measure => simp [intOf]; omega
          · go_wp2
            go_ret
            exact ⟨rfl, hb1⟩
        · go_wp2
          go_ret
          exact ⟨rfl, hb1⟩
      · have hx1' : x.toList = [] := by simpa using hx1
        go_wp2
        go_ret
        exact ⟨rfl, hb1⟩
    · obtain rfl : k = len := by omega
      obtain ⟨w0, ws, hws⟩ : ∃ w0 ws, segs ss k = w0 :: ws := by
        cases h : segs ss k with
        | nil => have := congrArg List.length h; simp [segs] at this; omega
        | cons a b => exact ⟨a, b, rfl⟩
      have hseg := HK.out.1
      have hpl := HK.out.2
      rw [hws] at hseg
      obtain ⟨e1, e2, e3⟩ := path_name w0 ws (hseg w0 (by simp)) fun v hv => hseg v (by simp [hv])
      have hP : pathP (segs ss k) = 47 :: (w0 ++ pathP ws) := by rw [hws]; simp [pathP]
      rw [← hws] at e1 e2 e3
      obtain ⟨P, hPP⟩ : ∃ P, pathP (segs ss k) = P := ⟨_, rfl⟩
      obtain ⟨J, hJJ⟩ : ∃ J, w0 ++ pathP ws = J := ⟨_, rfl⟩
      rw [hPP] at e1 e2 e3 hP hpl
      rw [hJJ] at e1 e2 hP
      rw [hPP]
      have hPl : P.length ≤ 328 := by omega
      have hJl : J.length ≤ 328 := by rw [hP] at hPl; simp at hPl; omega
      have hel : (escL J).length ≤ 4 * J.length := escN_len _ _
      have C1 : Hid (∀ W, Calls Tryd.prog 13 #[.string (mkS P)] W fun e w' => e = .returned (.tuple #[.string (mkS (escL J)), .int .i64 0]) ∧ Below W.heap.size W w') := Lib.hid fun W => by
        have := ofPath_calls (mkS P) (by rw [size_mkS]; omega) W
        unfold OfPost at this
        rw [data_mkS, e1] at this; exact this
      have C2 : Hid (∀ W, Calls Tryd.prog 13 #[.string (mkS P ++ ⟨#[47]⟩)] W fun e w' => e = .returned (.tuple #[.string (mkS (escL J)), .int .i64 0]) ∧ Below W.heap.size W w') := Lib.hid fun W => by
        have := ofPath_calls (mkS P ++ mkS [47]) (by rw [mkS_append, size_mkS, List.length_append]; simp; omega) W
        unfold OfPost at this
        rw [mkS_append, data_mkS, e2] at this
        rw [show (⟨#[47]⟩ : ByteArray) = mkS [47] from rfl, mkS_append]; exact this
      have C3 : Hid (∀ W, Calls Tryd.prog 12 #[.string (mkS (escL J))] W fun e w' => e = .returned (.tuple #[.string (mkS J), .int .i64 0]) ∧ Below W.heap.size W w') := Lib.hid fun W => by
        have := unescape_calls (mkS (escL J)) (by rw [size_mkS]; omega) W
        unfold UnPost at this
        rw [data_mkS, unescL_escL] at this
        exact this
      have C4 : Hid (∀ W, Calls Tryd.prog 13 #[.string (⟨#[120]⟩ ++ mkS P)] W fun e w' => e = .returned (.tuple #[.string (mkS []), .int .i64 41]) ∧ Below W.heap.size W w') := Lib.hid fun W => by
        have := ofPath_calls (mkS [120] ++ mkS P) (by rw [mkS_append, size_mkS, List.length_append]; simp; omega) W
        unfold OfPost at this
        rw [mkS_append, data_mkS, List.singleton_append, e3] at this
        rw [show (⟨#[120]⟩ : ByteArray) = mkS [120] from rfl, mkS_append]; exact this
      have hs1 : ¬ 9223372036854775807 < (mkS P).size + 1 := by rw [size_mkS]; omega
      have hs2 : ¬ 9223372036854775807 < 1 + (mkS P).size := by rw [size_mkS]; omega
      have hs3 : (1 : Int) ≤ ((mkS P).size : Int) := by rw [size_mkS, hP]; simp; omega
      have hJ : (mkS P).extract 1 (mkS P).size = mkS J := by rw [Lib.extract_from, data_mkS, hP]; rfl
      have HJ := Lib.hid hJ
      clear hws hseg hpl e1 e2 e3 hP hPP hJJ hPl hJl hel hJ
      go_wp2_with fail
      refine (C1.out _).mono ?_
      rintro e w2 ⟨rfl, hb2⟩
      go_wp2_with fail
      refine (C2.out _).mono ?_
      rintro e w3 ⟨rfl, hb3⟩
      go_wp2_with fail
      refine (C3.out _).mono ?_
      rintro e w4 ⟨rfl, hb4⟩
      go_wp2_with fail
      refine (C4.out _).mono ?_
      rintro e w5 ⟨rfl, hb5⟩
      go_wp2_with fail
      · go_ret
        exact ⟨rfl, bstep (bstep (bstep (bstep hb1 hb2) hb3) hb4) hb5⟩
      · rename_i hne
        exact absurd (by rw [HJ.out]) hne
end Go.Proofs.YtgppdndpnflkeaaDoor
