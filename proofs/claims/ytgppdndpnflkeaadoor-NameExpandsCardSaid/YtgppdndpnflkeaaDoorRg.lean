/- Contracts of the reference: OfPath. -/
import Derived.Test.YtgppdndpnflkeaaDoorRf
import Derived.Test.YtgppdndpnflkeaaDoorNn
namespace Go.Proofs.YtgppdndpnflkeaaDoor
open Go.RowKit Go.Rv

/-- Whether each part of a path may be one. -/
def okAll (l : List UInt8) : Bool := (splitS 47 (mkS l)).all okSeg
theorem okAll_last {l : List UInt8} (h : ∀ x ∈ l, x ≠ 47) : okAll l = okSeg (mkS l) := by
  rw [okAll, splitS, data_mkS, splitB_none h]; simp
theorem okAll_at {a : List UInt8} (b : List UInt8) (h : ∀ x ∈ a, x ≠ 47) : okAll (a ++ 47 :: b) = (okSeg (mkS a) && okAll b) := by
  rw [okAll, okAll, splitS, splitS, data_mkS, data_mkS, splitB_at _ _ h]; simp
theorem ofPath_is (q : List UInt8) : ofPathL (47 :: q) = if q.isEmpty then ([45], 0) else if okAll (Lib.trimSuffix q [47]) then (escL (Lib.trimSuffix q [47]), 0) else ([], 41) := by
  rw [ofPathL, (prefix_yes q).1, (prefix_yes q).2, if_neg (by simp)]; rfl
theorem ofPath_no {l : List UInt8} (h : l.head? ≠ some 47) : ofPathL l = ([], 41) := by
  rw [ofPathL, if_pos]
  cases l with
  | nil => rfl
  | cons c l =>
    simp only [List.head?_cons, ne_eq, Option.some.injEq] at h
    simp [Lib.hasPrefix, List.isPrefixOf]
    exact fun e => h e.symm
/-- Between two rounds. -/
def OgRel (L : List UInt8) (vf vi : Value) : Prop :=
  ∃ f k : Nat, vf = .int .i64 f ∧ vi = .int .i64 k ∧ k ≤ L.length + 1 ∧ f ≤ L.length + 1 ∧ 1 ≤ k ∧
    Hid (k ≤ L.length → 1 ≤ f ∧ f ≤ k ∧ (∀ j c, f ≤ j → j < k → L[j]? = some c → c ≠ 47) ∧ okAll (L.drop 1) = okAll (L.drop f)) ∧ Hid (L.length < k → okAll (L.drop 1) = true)
theorem cut_mem {L : List UInt8} {f k : Nat} (h : ∀ j c, f ≤ j → j < k → L[j]? = some c → c ≠ (47 : UInt8)) : ∀ x ∈ (L.drop f).take (k - f), x ≠ 47 := by
  intro x hx
  obtain ⟨j, hj⟩ := List.getElem?_of_mem hx
  rw [List.getElem?_take] at hj
  split at hj
  · rw [List.getElem?_drop] at hj
    exact h (f + j) x (by omega) (by omega) hj
  · cases hj
theorem og_part {L : List UInt8} {f k : Nat} (hf : f ≤ k) (hk : k ≤ L.length) (h : ∀ j c, f ≤ j → j < k → L[j]? = some c → c ≠ (47 : UInt8)) (hs : k < L.length → L[k]? = some 47) :
    okAll (L.drop f) = (okSeg (mkS ((L.drop f).take (k - f))) && (if k < L.length then okAll (L.drop (k + 1)) else true)) := by
  have hm := cut_mem h
  by_cases hl : k < L.length
  · rw [if_pos hl, ← okAll_at _ hm]
    congr 1
    conv => lhs; rw [← List.take_append_drop (k - f) (L.drop f)]
    rw [List.drop_drop, show f + (k - f) = k by omega, drop_cons (hs hl)]
  · rw [if_neg hl, Bool.and_true, ← okAll_last hm]
    congr 1
    rw [List.take_of_length_le]
    rw [List.length_drop]; omega

def OrPost (s : ByteArray) (w : World) (e : Ending) (w' : World) : Prop := e = .returned (.tuple #[.string (mkS (ofPathL s.data.toList).1), .int .i64 (ofPathL s.data.toList).2]) ∧ Below w.heap.size w w'
theorem or_end {s : ByteArray} {w w' : World} {e : Ending} {x : ByteArray} {n : Int} (h : Hid (ofPathL s.data.toList = (x.data.toList, n))) (he : e = .returned (.tuple #[.string x, .int .i64 n])) (hb : Below w.heap.size w w') : OrPost s w e w' :=
  ⟨by rw [h.out, he, mkS_data], hb⟩

theorem suffix_last {l : List UInt8} : Lib.trimSuffix l [47] = if l.getLast? = some 47 then l.dropLast else l := by
  rcases List.eq_nil_or_concat l with rfl | ⟨a, c, rfl⟩
  · rfl
  · rw [List.concat_eq_append, List.getLast?_append]
    simp only [List.getLast?_singleton, Option.some_or, Option.some.injEq]
    by_cases hc : c = 47
    · subst hc; rw [if_pos rfl, suffix_yes]; simp
    · rw [if_neg hc]; exact suffix_no ⟨a, c, rfl, hc⟩

theorem escapeR_at (s : ByteArray) (l : List UInt8) (h : s.data.toList = l) (hs : s.size ≤ 1000000) (w : World) : Calls Tryd.prog 24 #[.string s] w fun e w' => e = .returned (.string (mkS (escL l))) ∧ Below w.heap.size w w' := by
  subst h; exact escapeR_calls s hs w
set_option maxHeartbeats 2000000 in
theorem ofPathR_calls (s : ByteArray) (hs : s.size ≤ 1000000) (w : World) : Calls Tryd.prog 28 #[.string s] w (OrPost s w) := by
  obtain ⟨l, hl⟩ : ∃ l, s.data.toList = l := ⟨_, rfl⟩
  have hsl : s = mkS l := by rw [← hl, mkS_data]
  have hll : l.length = s.size := by rw [← hl, ← Lib.size_eq]
  cases l with
  | nil =>
    have E : Hid (ofPathL s.data.toList = ((⟨#[]⟩ : ByteArray).data.toList, 41)) := Lib.hid (by rw [hl]; rfl)
    subst hsl
    have h0 : (mkS []).size = 0 := rfl
    clear hl hll
    go_enter Tryd.func28, Tryd.ntmps28
    go_wp2
    go_ret2
    exact or_end E rfl (Below.refl _ _)
  | cons c q =>
    have hpos : (0 : Int) < (s.size : Int) := by rw [← hll, List.length_cons]; omega
    have hne0 : ¬ (s.size : Int) = 0 := by omega
    have hneb : ((s.size : Int) == 0) = false := by simp only [beq_eq_false_iff_ne, ne_eq]; omega
    have hc0 : ∀ h, s[0]'h = c := fun h => by subst hsl; exact mkS_at rfl h
    by_cases h47 : c = 47
    · subst h47
      have hE := ofPath_is q
      rw [← hl] at hE
      cases q with
      | nil =>
        have E : Hid (ofPathL s.data.toList = ((⟨#[45]⟩ : ByteArray).data.toList, 0)) := Lib.hid (by rw [hE]; rfl)
        have hst : (s.toList == [47]) = true := by rw [Lib.toList_data, hl]; rfl
        clear hE hl hsl hll
        go_enter Tryd.func28, Tryd.ntmps28
        go_wp2
        go_ret2
        exact or_end E rfl (Below.refl _ _)
      | cons d q =>
        have hst : (s.toList == [47]) = false := by rw [Lib.toList_data, hl]; rfl
        rw [if_neg (by simp), suffix_last] at hE
        obtain ⟨m, hm⟩ : ∃ m : Nat, (s.size : Int) - 1 = (m : Int) := ⟨s.size - 1, by omega⟩
        have hm2 : m < s.size := by omega
        have hm3 : (m : Int) < (s.size : Int) := by omega
        obtain ⟨x, hx⟩ : ∃ x : UInt8, s[m] = x := ⟨_, rfl⟩
        have hml : m = q.length + 1 := by simp at hll; omega
        have hlast : (d :: q).getLast? = some x := by
          have h1 := Lib.data_getElem? s m hm2
          rw [hl, hx, hml, List.getElem?_cons_succ] at h1
          rw [List.getLast?_eq_getElem?, ← h1]
          simp
        rw [hlast] at hE
        by_cases h47 : x = 47
        · subst h47
          rw [if_pos rfl] at hE
          obtain ⟨L, hL⟩ : ∃ L, 47 :: (d :: q).dropLast = L := ⟨_, rfl⟩
          have hE2 : ofPathL s.data.toList = if okAll (L.drop 1) = true then (escL (L.drop 1), 0) else ([], 41) := by rw [hE, ← hL]; rfl
          obtain ⟨P, hP⟩ : ∃ P, s.extract 0 m = P := ⟨_, rfl⟩
          have hPd : P.data.toList = L := by
            rw [← hP, Lib.extract_upto, hl, ← hL, hml]
            show (mkS _).data.toList = _
            rw [data_mkS, List.take_succ_cons, List.dropLast_eq_take]; simp
          have HE := Lib.hid hE2
          have HPl := Lib.hid hPd
          have hPL : Hid (L.length = P.size) := Lib.hid (by rw [← hPd, ← Lib.size_eq])
          have hPs : Hid (P.size ≤ 1000000) := Lib.hid (by rw [← hP, ByteArray.size_extract]; omega)
          have hL1 : Hid (1 ≤ L.length) := Lib.hid (by rw [← hL]; simp)
          clear hE hE2 hPd hL hlast hml hsl hl hll
          go_enter Tryd.func28, Tryd.ntmps28
          go_wp2
          go_loop [4, 5] (fun vf vi => OgRel L vf vi) (fun _ i => L.length + 1 - (intOf i).toNat)
          case atStart => exact ⟨1, 1, rfl, rfl, by omega, by omega, by omega, Lib.hid fun _ => ⟨by omega, by omega, fun j c h1 h2 => by omega, rfl⟩, Lib.hid fun h => absurd h (by have := hL1.out; omega)⟩
          case round =>
            obtain ⟨f, k, rfl, rfl, hk, hf, hk1, H1, H2⟩ := hrel
            by_cases hlt : (k : Int) ≤ (P.size : Int)
            · have hkl : k ≤ L.length := by rw [hPL.out]; omega
              obtain ⟨hf1, hf2, hno, hoke⟩ := H1.out hkl
              have Hno := Lib.hid hno
              have Hoke := Lib.hid hoke
              have hfi : (f : Int) ≤ (k : Int) := by omega
              have hk6 : (k : Int) ≤ 1000001 := by have := hPs.out; omega
              clear hno hoke
              by_cases hkl2 : (k : Int) < (P.size : Int)
              · obtain ⟨x, hx⟩ : ∃ x : UInt8, P[k]'(by omega) = x := ⟨_, rfl⟩
                have hkp : k < P.size := by omega
                have hxl : L[k]? = some x := by rw [← HPl.out, ← hx]; exact Lib.data_getElem? P k hkp
                have HXL := Lib.hid hxl
                clear hxl
                by_cases h47 : x = 47
                · subst h47
                  have hw : P.extract f k = mkS ((L.drop f).take (k - f)) := by rw [Lib.extract_eq, HPl.out]; rfl
                  obtain ⟨W0, hW0⟩ : ∃ W0, P.extract f k = W0 := ⟨_, rfl⟩
                  rw [hW0] at hw
                  have hpart := og_part hf2 hkl Hno.out (fun h => HXL.out)
                  rw [← hw] at hpart
                  have HPT := Lib.hid hpart
                  clear hw hpart
                  rcases hx1 : W0.toList.isEmpty with _ | _
                  · have hx1' : ¬ W0.toList = [] := by intro e; rw [e] at hx1; cases hx1
                    rcases hx2 : (W0.toList == [46]) with _ | _
                    · rcases hx3 : (W0.toList == [46, 46]) with _ | _
                      · have hok : okSeg W0 = true := by simp [okSeg, hx1', hx2, hx3]
                        have HOK := Lib.hid hok
                        clear hok
                        go_wp2
                        go_round
                        case rel =>
                          refine ⟨k + 1, k + 1, by go_num, by go_num, by omega, by omega, by omega, Lib.hid fun hkk => ⟨by omega, by omega, fun j c h1 h2 => by omega, ?_⟩, Lib.hid fun hkk => ?_⟩
                          · rw [Hoke.out, HPT.out, HOK.out, if_pos (by omega), Bool.true_and]
                          · rw [Hoke.out, HPT.out, HOK.out, if_neg (by omega), Bool.true_and]
                        case measure => simp [intOf]; omega
                      · have E : Hid (ofPathL s.data.toList = ((⟨#[]⟩ : ByteArray).data.toList, 41)) := Lib.hid (by
                          rw [HE.out, if_neg]
                          rw [Hoke.out, HPT.out, show okSeg W0 = false by simp [okSeg, hx3]]; simp)
                        go_wp2
                        go_ret2
                        exact or_end E rfl (Below.refl _ _)
                    · have E : Hid (ofPathL s.data.toList = ((⟨#[]⟩ : ByteArray).data.toList, 41)) := Lib.hid (by
                        rw [HE.out, if_neg]
                        rw [Hoke.out, HPT.out, show okSeg W0 = false by simp [okSeg, hx2]]; simp)
                      go_wp2
                      go_ret2
                      exact or_end E rfl (Below.refl _ _)
                  · have hx1' : W0.toList = [] := by simpa using hx1
                    have E : Hid (ofPathL s.data.toList = ((⟨#[]⟩ : ByteArray).data.toList, 41)) := Lib.hid (by
                      rw [HE.out, if_neg]
                      rw [Hoke.out, HPT.out, show okSeg W0 = false by simp [okSeg, hx1]]; simp)
                    go_wp2
                    go_ret2
                    exact or_end E rfl (Below.refl _ _)
                · have n47 : ¬ (x.toNat : Int) = 47 := ne_u8 (n := 47) (by decide) h47
                  have m47 : ((x.toNat : Int) != 47) = true := by simpa using n47
                  have H47 := Lib.hid h47
                  clear h47
                  go_wp2
                  go_round
                  case rel =>
                    refine ⟨f, k + 1, rfl, by go_num, by omega, by omega, by omega, Lib.hid fun _ => ⟨hf1, by omega, fun j c h1 h2 h3 => ?_, Hoke.out⟩, Lib.hid fun h => absurd h (by have := hPL.out; omega)⟩
                    by_cases e : j = k
                    · subst e
                      rw [HXL.out] at h3
                      cases h3
                      exact H47.out
                    · exact Hno.out j c h1 (by omega) h3
                  case measure => simp [intOf]; omega
              · have hke : k = L.length := by rw [hPL.out]; omega
                have HKE := Lib.hid hke
                clear hke
                have hw : P.extract f k = mkS ((L.drop f).take (k - f)) := by rw [Lib.extract_eq, HPl.out]; rfl
                obtain ⟨W0, hW0⟩ : ∃ W0, P.extract f k = W0 := ⟨_, rfl⟩
                rw [hW0] at hw
                have hpart := og_part hf2 hkl Hno.out (fun h => absurd h (by have := HKE.out; omega))
                rw [← hw] at hpart
                have HPT := Lib.hid hpart
                clear hw hpart
                rcases hx1 : W0.toList.isEmpty with _ | _
                · have hx1' : ¬ W0.toList = [] := by intro e; rw [e] at hx1; cases hx1
                  rcases hx2 : (W0.toList == [46]) with _ | _
                  · rcases hx3 : (W0.toList == [46, 46]) with _ | _
                    · have hok : okSeg W0 = true := by simp [okSeg, hx1', hx2, hx3]
                      have HOK := Lib.hid hok
                      clear hok
                      go_wp2
                      go_round
                      case rel =>
                        refine ⟨k + 1, k + 1, by go_num, by go_num, by omega, by omega, by omega, Lib.hid fun hkk => ⟨by omega, by omega, fun j c h1 h2 => by omega, ?_⟩, Lib.hid fun hkk => ?_⟩
                        · rw [Hoke.out, HPT.out, HOK.out, if_pos (by omega), Bool.true_and]
                        · rw [Hoke.out, HPT.out, HOK.out, if_neg (by omega), Bool.true_and]
                      case measure => simp [intOf]; omega
                    · have E : Hid (ofPathL s.data.toList = ((⟨#[]⟩ : ByteArray).data.toList, 41)) := Lib.hid (by
                        rw [HE.out, if_neg]
                        rw [Hoke.out, HPT.out, show okSeg W0 = false by simp [okSeg, hx3]]; simp)
                      go_wp2
                      go_ret2
                      exact or_end E rfl (Below.refl _ _)
                  · have E : Hid (ofPathL s.data.toList = ((⟨#[]⟩ : ByteArray).data.toList, 41)) := Lib.hid (by
                      rw [HE.out, if_neg]
                      rw [Hoke.out, HPT.out, show okSeg W0 = false by simp [okSeg, hx2]]; simp)
                    go_wp2
                    go_ret2
                    exact or_end E rfl (Below.refl _ _)
                · have hx1' : W0.toList = [] := by simpa using hx1
                  have E : Hid (ofPathL s.data.toList = ((⟨#[]⟩ : ByteArray).data.toList, 41)) := Lib.hid (by
                    rw [HE.out, if_neg]
                    rw [Hoke.out, HPT.out, show okSeg W0 = false by simp [okSeg, hx1]]; simp)
                  go_wp2
                  go_ret2
                  exact or_end E rfl (Below.refl _ _)
            · have hke : L.length < k := by rw [hPL.out]; omega
              have hq := H2.out hke
              obtain ⟨Z, hZ⟩ : ∃ Z, escL (L.drop 1) = Z := ⟨_, rfl⟩
              have E : Hid (ofPathL s.data.toList = (Z, 0)) := Lib.hid (by rw [HE.out, if_pos hq, hZ])
              have CE : Hid (∀ W, Calls Tryd.prog 24 #[.string (P.extract 1 P.size)] W fun e w' => e = .returned (.string (mkS Z)) ∧ Below W.heap.size W w') := Lib.hid fun W => by
                rw [← hZ]
                exact escapeR_at (P.extract 1 P.size) (L.drop 1) (by rw [Lib.extract_from, ← HPl.out]) (by rw [ByteArray.size_extract]; have := hPs.out; omega) W
              have h1 : (1 : Int) ≤ (P.size : Int) := by have := hL1.out; have := hPL.out; omega
              clear hke hq hZ
              go_wp2_with fail
              refine (CE.out _).mono ?_
              rintro e w1 ⟨rfl, hb1⟩
              go_wp2_with fail
              go_ret2
              exact ⟨by rw [E.out]; rfl, hb1⟩
        · have n47 : ¬ (x.toNat : Int) = 47 := ne_u8 (n := 47) (by decide) h47
          have m47 : ((x.toNat : Int) == 47) = false := by simpa using n47
          rw [if_neg (fun e => h47 (Option.some.inj e))] at hE
          obtain ⟨L, hL⟩ : ∃ L, s.data.toList = L := ⟨_, rfl⟩
          have hE2 : ofPathL s.data.toList = if okAll (L.drop 1) = true then (escL (L.drop 1), 0) else ([], 41) := by rw [hE, ← hL, hl]; rfl
          have HE := Lib.hid hE2
          have HPl := Lib.hid hL
          have hPL : Hid (L.length = s.size) := Lib.hid (by rw [← hL, ← Lib.size_eq])
          have hPs : Hid (s.size ≤ 1000000) := Lib.hid hs
          have hL1 : Hid (1 ≤ L.length) := Lib.hid (by rw [← hL, hl]; simp)
          clear hE hE2 hL hlast hml hsl hl hll h47
          go_enter Tryd.func28, Tryd.ntmps28
          go_wp2
          go_loop [4, 5] (fun vf vi => OgRel L vf vi) (fun _ i => L.length + 1 - (intOf i).toNat)
          case atStart => exact ⟨1, 1, rfl, rfl, by omega, by omega, by omega, Lib.hid fun _ => ⟨by omega, by omega, fun j c h1 h2 => by omega, rfl⟩, Lib.hid fun h => absurd h (by have := hL1.out; omega)⟩
          case round =>
            obtain ⟨f, k, rfl, rfl, hk, hf, hk1, H1, H2⟩ := hrel
            by_cases hlt : (k : Int) ≤ (s.size : Int)
            · have hkl : k ≤ L.length := by rw [hPL.out]; omega
              obtain ⟨hf1, hf2, hno, hoke⟩ := H1.out hkl
              have Hno := Lib.hid hno
              have Hoke := Lib.hid hoke
              have hfi : (f : Int) ≤ (k : Int) := by omega
              have hk6 : (k : Int) ≤ 1000001 := by have := hPs.out; omega
              clear hno hoke
              by_cases hkl2 : (k : Int) < (s.size : Int)
              · obtain ⟨x, hx⟩ : ∃ x : UInt8, s[k]'(by omega) = x := ⟨_, rfl⟩
                have hkp : k < s.size := by omega
                have hxl : L[k]? = some x := by rw [← HPl.out, ← hx]; exact Lib.data_getElem? s k hkp
                have HXL := Lib.hid hxl
                clear hxl
                by_cases h47 : x = 47
                · subst h47
                  have hw : s.extract f k = mkS ((L.drop f).take (k - f)) := by rw [Lib.extract_eq, HPl.out]; rfl
                  obtain ⟨W0, hW0⟩ : ∃ W0, s.extract f k = W0 := ⟨_, rfl⟩
                  rw [hW0] at hw
                  have hpart := og_part hf2 hkl Hno.out (fun h => HXL.out)
                  rw [← hw] at hpart
                  have HPT := Lib.hid hpart
                  clear hw hpart
                  rcases hx1 : W0.toList.isEmpty with _ | _
                  · have hx1' : ¬ W0.toList = [] := by intro e; rw [e] at hx1; cases hx1
                    rcases hx2 : (W0.toList == [46]) with _ | _
                    · rcases hx3 : (W0.toList == [46, 46]) with _ | _
                      · have hok : okSeg W0 = true := by simp [okSeg, hx1', hx2, hx3]
                        have HOK := Lib.hid hok
                        clear hok
                        go_wp2
                        go_round
                        case rel =>
                          refine ⟨k + 1, k + 1, by go_num, by go_num, by omega, by omega, by omega, Lib.hid fun hkk => ⟨by omega, by omega, fun j c h1 h2 => by omega, ?_⟩, Lib.hid fun hkk => ?_⟩
                          · rw [Hoke.out, HPT.out, HOK.out, if_pos (by omega), Bool.true_and]
                          · rw [Hoke.out, HPT.out, HOK.out, if_neg (by omega), Bool.true_and]
                        case measure => simp [intOf]; omega
                      · have E : Hid (ofPathL s.data.toList = ((⟨#[]⟩ : ByteArray).data.toList, 41)) := Lib.hid (by
                          rw [HE.out, if_neg]
                          rw [Hoke.out, HPT.out, show okSeg W0 = false by simp [okSeg, hx3]]; simp)
                        go_wp2
                        go_ret2
                        exact or_end E rfl (Below.refl _ _)
                    · have E : Hid (ofPathL s.data.toList = ((⟨#[]⟩ : ByteArray).data.toList, 41)) := Lib.hid (by
                        rw [HE.out, if_neg]
                        rw [Hoke.out, HPT.out, show okSeg W0 = false by simp [okSeg, hx2]]; simp)
                      go_wp2
                      go_ret2
                      exact or_end E rfl (Below.refl _ _)
                  · have hx1' : W0.toList = [] := by simpa using hx1
                    have E : Hid (ofPathL s.data.toList = ((⟨#[]⟩ : ByteArray).data.toList, 41)) := Lib.hid (by
                      rw [HE.out, if_neg]
                      rw [Hoke.out, HPT.out, show okSeg W0 = false by simp [okSeg, hx1]]; simp)
                    go_wp2
                    go_ret2
                    exact or_end E rfl (Below.refl _ _)
                · have n47 : ¬ (x.toNat : Int) = 47 := ne_u8 (n := 47) (by decide) h47
                  have m47 : ((x.toNat : Int) != 47) = true := by simpa using n47
                  have H47 := Lib.hid h47
                  clear h47
                  go_wp2
                  go_round
                  case rel =>
                    refine ⟨f, k + 1, rfl, by go_num, by omega, by omega, by omega, Lib.hid fun _ => ⟨hf1, by omega, fun j c h1 h2 h3 => ?_, Hoke.out⟩, Lib.hid fun h => absurd h (by have := hPL.out; omega)⟩
                    by_cases e : j = k
                    · subst e
                      rw [HXL.out] at h3
                      cases h3
                      exact H47.out
                    · exact Hno.out j c h1 (by omega) h3
                  case measure => simp [intOf]; omega
              · have hke : k = L.length := by rw [hPL.out]; omega
                have HKE := Lib.hid hke
                clear hke
                have hw : s.extract f k = mkS ((L.drop f).take (k - f)) := by rw [Lib.extract_eq, HPl.out]; rfl
                obtain ⟨W0, hW0⟩ : ∃ W0, s.extract f k = W0 := ⟨_, rfl⟩
                rw [hW0] at hw
                have hpart := og_part hf2 hkl Hno.out (fun h => absurd h (by have := HKE.out; omega))
                rw [← hw] at hpart
                have HPT := Lib.hid hpart
                clear hw hpart
                rcases hx1 : W0.toList.isEmpty with _ | _
                · have hx1' : ¬ W0.toList = [] := by intro e; rw [e] at hx1; cases hx1
                  rcases hx2 : (W0.toList == [46]) with _ | _
                  · rcases hx3 : (W0.toList == [46, 46]) with _ | _
                    · have hok : okSeg W0 = true := by simp [okSeg, hx1', hx2, hx3]
                      have HOK := Lib.hid hok
                      clear hok
                      go_wp2
                      go_round
                      case rel =>
                        refine ⟨k + 1, k + 1, by go_num, by go_num, by omega, by omega, by omega, Lib.hid fun hkk => ⟨by omega, by omega, fun j c h1 h2 => by omega, ?_⟩, Lib.hid fun hkk => ?_⟩
                        · rw [Hoke.out, HPT.out, HOK.out, if_pos (by omega), Bool.true_and]
                        · rw [Hoke.out, HPT.out, HOK.out, if_neg (by omega), Bool.true_and]
                      case measure => simp [intOf]; omega
                    · have E : Hid (ofPathL s.data.toList = ((⟨#[]⟩ : ByteArray).data.toList, 41)) := Lib.hid (by
                        rw [HE.out, if_neg]
                        rw [Hoke.out, HPT.out, show okSeg W0 = false by simp [okSeg, hx3]]; simp)
                      go_wp2
                      go_ret2
                      exact or_end E rfl (Below.refl _ _)
                  · have E : Hid (ofPathL s.data.toList = ((⟨#[]⟩ : ByteArray).data.toList, 41)) := Lib.hid (by
                      rw [HE.out, if_neg]
                      rw [Hoke.out, HPT.out, show okSeg W0 = false by simp [okSeg, hx2]]; simp)
                    go_wp2
                    go_ret2
                    exact or_end E rfl (Below.refl _ _)
                · have hx1' : W0.toList = [] := by simpa using hx1
                  have E : Hid (ofPathL s.data.toList = ((⟨#[]⟩ : ByteArray).data.toList, 41)) := Lib.hid (by
                    rw [HE.out, if_neg]
                    rw [Hoke.out, HPT.out, show okSeg W0 = false by simp [okSeg, hx1]]; simp)
                  go_wp2
                  go_ret2
                  exact or_end E rfl (Below.refl _ _)
            · have hke : L.length < k := by rw [hPL.out]; omega
              have hq := H2.out hke
              obtain ⟨Z, hZ⟩ : ∃ Z, escL (L.drop 1) = Z := ⟨_, rfl⟩
              have E : Hid (ofPathL s.data.toList = (Z, 0)) := Lib.hid (by rw [HE.out, if_pos hq, hZ])
              have CE : Hid (∀ W, Calls Tryd.prog 24 #[.string (s.extract 1 s.size)] W fun e w' => e = .returned (.string (mkS Z)) ∧ Below W.heap.size W w') := Lib.hid fun W => by
                rw [← hZ]
                exact escapeR_at (s.extract 1 s.size) (L.drop 1) (by rw [Lib.extract_from, ← HPl.out]) (by rw [ByteArray.size_extract]; have := hPs.out; omega) W
              have h1 : (1 : Int) ≤ (s.size : Int) := by have := hL1.out; have := hPL.out; omega
              clear hke hq hZ
              go_wp2_with fail
              refine (CE.out _).mono ?_
              rintro e w1 ⟨rfl, hb1⟩
              go_wp2_with fail
              go_ret2
              exact ⟨by rw [E.out]; rfl, hb1⟩
    · have n47 : ¬ (c.toNat : Int) = 47 := ne_u8 (n := 47) (by decide) h47
      have E : Hid (ofPathL s.data.toList = ((⟨#[]⟩ : ByteArray).data.toList, 41)) := Lib.hid (by rw [hl, ofPath_no (by simpa using h47)])
      clear hl hsl hll h47
      go_enter Tryd.func28, Tryd.ntmps28
      go_wp2
      go_ret2
      exact or_end E rfl (Below.refl _ _)
end Go.Proofs.YtgppdndpnflkeaaDoor
