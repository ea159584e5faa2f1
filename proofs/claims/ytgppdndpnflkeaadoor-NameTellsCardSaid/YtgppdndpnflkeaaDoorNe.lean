/- Contracts of package name: a name's parts. -/
import Derived.Test.YtgppdndpnflkeaaDoorNd
namespace Go.Proofs.YtgppdndpnflkeaaDoor
open Go.RowKit Go.Rv

/-- The place of the last dot, and what stands ahead of it and from it on. -/
def dotO (l : List UInt8) : Option (List UInt8 × List UInt8) :=
  match l with
  | [] => none
  | c :: r => match dotO r with
    | some (a, b) => some (c :: a, b)
    | none => if c = 46 then some ([], c :: r) else none
theorem dotO_none {l : List UInt8} (h : ∀ x ∈ l, x ≠ 46) : dotO l = none := by
  induction l with
  | nil => rfl
  | cons c r ih =>
    have hc := h c (by simp)
    rw [dotO, ih fun y hy => h y (by simp [hy])]
    simp [hc]
theorem dotO_at (a b : List UInt8) (h : ∀ x ∈ b, x ≠ 46) : dotO (a ++ 46 :: b) = some (a, 46 :: b) := by
  induction a with
  | nil => rw [List.nil_append, dotO, dotO_none h]; simp
  | cons x a ih => rw [List.cons_append, dotO, ih]
theorem last_cases (s : ByteArray) : (Lib.lastIndexByte s 46 < 0 ∧ dotO s.data.toList = none) ∨ ∃ i : Nat, Lib.lastIndexByte s 46 = (i : Int) ∧ i < s.size ∧ dotO s.data.toList = some (s.data.toList.take i, s.data.toList.drop i) := by
  have hsz : s.data.toList.length = s.size := (Lib.size_eq s).symm
  have hat : ∀ j, j < s.size → ∃ c : UInt8, s.data.toList[j]? = some c ∧ s.data[j]! = c := fun j hj => by
    have hj' : j < s.data.size := hj
    refine ⟨s.data[j], ?_, ?_⟩
    · simp
    · exact getElem!_pos s.data j hj'
  have hne : ∀ x : UInt8, (x.toNat : Int) ≠ 46 → x ≠ 46 := fun x h e => h (by subst e; rfl)
  rcases Lib.lastIndexByte_spec s 46 with ⟨h1, h2⟩ | ⟨i, h1, h2, h3, h4⟩
  · refine .inl ⟨by omega, dotO_none fun x hx => ?_⟩
    obtain ⟨j, hj⟩ := List.getElem?_of_mem hx
    have hjl : j < s.size := by have := (List.getElem?_eq_some_iff.1 hj).1; omega
    obtain ⟨c, hc1, hc2⟩ := hat j hjl
    rw [hc1] at hj
    have := h2 j hjl
    rw [hc2] at this
    cases hj
    exact hne _ this
  · refine .inr ⟨i, h2, h1, ?_⟩
    obtain ⟨c, hc1, hc2⟩ := hat i h1
    rw [hc2] at h3
    have hc : c = 46 := UInt8.toNat_inj.1 (by show c.toNat = 46; omega)
    subst hc
    have e : s.data.toList.drop i = 46 :: s.data.toList.drop (i + 1) := drop_cons hc1
    conv => lhs; rw [← List.take_append_drop i s.data.toList, e]
    rw [dotO_at, e]
    intro x hx
    obtain ⟨j, hj⟩ := List.getElem?_of_mem hx
    rw [List.getElem?_drop] at hj
    have hjl : i + 1 + j < s.size := by have := (List.getElem?_eq_some_iff.1 hj).1; omega
    obtain ⟨c, hc3, hc4⟩ := hat _ hjl
    rw [hc3] at hj
    have := h4 _ (by omega) hjl
    rw [hc4] at this
    cases hj
    exact hne _ this
theorem cutL_len (c : UInt8) (l : List UInt8) : (cutL c l).1.length ≤ l.length ∧ (cutL c l).2.1.length ≤ l.length := by
  have h1 := (List.takeWhile_prefix (p := (· != c)) (l := l)).length_le
  have h2 := (List.dropWhile_suffix (p := (· != c)) (l := l)).length_le
  refine ⟨h1, ?_⟩
  simp only [cutL, List.length_drop]
  omega
abbrev Parted := List UInt8 × List UInt8 × Bool × Nat
def partsOf (a b : List UInt8) : Option Parted :=
  if endK b = 0 then none
  else if (cutL 64 a).1.isEmpty then none
  else if goodAll (cutL 64 a).1 = false then none
  else if goodAll (cutL 64 a).2.1 = false then none
  else some ((cutL 64 a).1, (cutL 64 a).2.1, (cutL 64 a).2.2, endK b)
theorem Parted.of_def (a b : List UInt8) : partsOf a b = if endK b = 0 then none else if (cutL 64 a).1.isEmpty then none else if goodAll (cutL 64 a).1 = false then none else if goodAll (cutL 64 a).2.1 = false then none else some ((cutL 64 a).1, (cutL 64 a).2.1, (cutL 64 a).2.2, endK b) := rfl
/-- A name's parts: what stands ahead of the @ and behind it, whether there is one, the kind; none: it is no name. -/
def partsO (l : List UInt8) : Option Parted :=
  match dotO l with
  | none => none
  | some (a, b) => if l.length > 60 then none else partsOf a b
def partsV : Option Parted → Value
  | none => .tuple #[.agg #[.string ⟨#[]⟩, .string ⟨#[]⟩, .bool false, .int .i64 0], .bool false]
  | some (a, b, f, k) => .tuple #[.agg #[.string (mkS a), .string (mkS b), .bool f, .int .i64 (k : Int)], .bool true]
def PartsPost (s : ByteArray) (w : World) (e : Ending) (w' : World) : Prop := e = .returned (partsV (partsO s.data.toList)) ∧ Below w.heap.size w w'

theorem cells4 {W : World} {b : Nat} {x0 x1 x2 x3 : Value} {t : TypeId} (h : W.heap[b]? = some (.cells #[x0, x1, x2, x3] t)) (v0 v1 v2 v3 : Value) :
    ((((W.setCell ⟨b, 0, none⟩ v0).setCell ⟨b, 1, none⟩ v1).setCell ⟨b, 2, none⟩ v2).setCell ⟨b, 3, none⟩ v3).heap[b]? = some (.cells #[v0, v1, v2, v3] t) :=
  hp_setCell_same (hp_setCell_same (hp_setCell_same (hp_setCell_same h 0 v0) 1 v1) 2 v2) 3 v3
theorem parts_end {s : ByteArray} {w W : World} {tm : Array Value} {b : Nat} {x0 x1 : ByteArray} {x2 ok : Bool} {x3 : Int} (h : W.heap[b]? = some (.cells #[.string x0, .string x1, .bool x2, .int .i64 x3] 61))
    (h2 : tm.getD 2 undef = .pointer (some ⟨b, 0, none⟩)) (h3 : tm.getD 3 undef = .bool ok) (hv : partsV (partsO s.data.toList) = .tuple #[.agg #[.string x0, .string x1, .bool x2, .int .i64 x3], .bool ok]) (hb : Below w.heap.size w W) :
    bodyPost Tryd.prog Tryd.f39 (PartsPost s w) .ret { tmps := tm, defers := [] } W := by
  have q0 : W.cell? ⟨b, 0, none⟩ = some (.string x0) := by rw [hp_cell h]; rfl
  have q1 : W.cell? ⟨b, 1, none⟩ = some (.string x1) := by rw [hp_cell h]; rfl
  have q2 : W.cell? ⟨b, 2, none⟩ = some (.bool x2) := by rw [hp_cell h]; rfl
  have q3 : W.cell? ⟨b, 3, none⟩ = some (.int .i64 x3) := by rw [hp_cell h]; rfl
  refine bodyPost_ret (v := .tuple #[.agg #[.string x0, .string x1, .bool x2, .int .i64 x3], .bool ok]) ?_ rfl ⟨by rw [hv], hb⟩
  have h2' : tm[2]?.getD undef = .pointer (some ⟨b, 0, none⟩) := by rw [← h2]; simp
  have h3' : tm[3]?.getD undef = .bool ok := by rw [← h3]; simp
  simp [results, Tryd.results39, go_sem, h2', h3', q0, q1, q2, q3]
set_option maxHeartbeats 1000000 in
theorem parts_calls (s : ByteArray) (hs : s.size ≤ 1000000) (w : World) : Calls Tryd.prog 39 #[.string s] w (PartsPost s w) := by
  rcases last_cases s with ⟨h1, h2⟩ | ⟨i, h1, h3, h2⟩
  · have H1 : Hid (Lib.lastIndexByte s 46 < 0) := Lib.hid h1
    have e1 : partsO s.data.toList = none := by rw [partsO, h2]
    have E1 := Lib.hid e1
    clear e1 h1 h2
    go_enter Tryd.func39, Tryd.ntmps39
    go_wp2_with (go_at_call 43; refine (Tryd.strings_LastIndexByte _ _ (by omega) _).mono ?_; rintro e w1 ⟨rfl, rfl⟩; have h0 := H1.out)
    refine bodyPost_ret (v := partsV none) (by simp [results, Tryd.results39, go_sem, partsV]) rfl ⟨by rw [E1.out], (Below.refl _ _).alloc (Nat.le_refl _) _⟩
  · have H1 := Lib.hid h1
    have hi : (i : Int) < (s.size : Int) := by omega
    have hl : s.data.toList.length = s.size := (Lib.size_eq s).symm
    have hE : partsO s.data.toList = if s.size > 60 then none else partsOf (s.data.toList.take i) (s.data.toList.drop i) := by rw [partsO, h2, ← hl]
    have e1 : (s.extract 0 i).data.toList = s.data.toList.take i := by rw [Lib.extract_upto]
    have e2 : (s.extract i s.size).data.toList = s.data.toList.drop i := by rw [Lib.extract_from]
    have HE := Lib.hid hE
    have He1 := Lib.hid e1
    have He2 := Lib.hid e2
    clear h1 h2 h3 hl hE e1 e2
    have hx : (s.extract 0 i).size < 4611686018427387904 := by simp; omega
    have Hx := Lib.hid hx
    clear hx
    by_cases hbig : (60 : Int) < (s.size : Int)
    · have E1 : Hid (partsO s.data.toList = none) := Lib.hid (by rw [HE.out, if_pos (by omega)])
      go_enter Tryd.func39, Tryd.ntmps39
      go_wp2_with (go_at_call 43; refine (Tryd.strings_LastIndexByte _ _ (by omega) _).mono ?_; rintro e w1 ⟨rfl, rfl⟩; rw [H1.out])
      refine bodyPost_ret (v := partsV none) (by simp [results, Tryd.results39, go_sem, partsV]) rfl ⟨by rw [E1.out], (Below.refl _ _).alloc (Nat.le_refl _) _⟩
    · have hE2 : partsO s.data.toList = partsOf (s.data.toList.take i) (s.data.toList.drop i) := by rw [HE.out, if_neg (by omega)]
      rw [← He1.out, ← He2.out] at hE2
      obtain ⟨K, hK⟩ : ∃ K, endK (s.extract i s.size).data.toList = K := ⟨_, rfl⟩
      obtain ⟨⟨A, B, F⟩, hq⟩ : ∃ q, cutL 64 (s.extract 0 i).data.toList = q := ⟨_, rfl⟩
      have CK : Hid (∀ W, Calls Tryd.prog 53 #[.string (s.extract i s.size)] W fun e w' => e = .returned (.int .i64 (K : Int)) ∧ Below W.heap.size W w') := Lib.hid fun W => by
        have := ending_calls (s.extract i s.size) W
        rw [hK] at this; exact this
      have CC : Hid (∀ W, Calls Tryd.prog 30 #[.string (s.extract 0 i), .string ⟨#[64]⟩] W fun e w' => e = .returned (.tuple #[.string (mkS A), .string (mkS B), .bool F]) ∧ Below W.heap.size W w') := Lib.hid fun W => by
        have := cut_calls (s.extract 0 i) 64 Hx.out W
        rw [hq] at this; exact this
      have hlen := cutL_len 64 (s.extract 0 i).data.toList
      rw [hq, ← Lib.size_eq] at hlen
      have hxz : (s.extract 0 i).size ≤ s.size := by simp; omega
      dsimp only at hlen
      obtain ⟨gA, hgA⟩ : ∃ g, goodAll A = g := ⟨_, rfl⟩
      obtain ⟨gB, hgB⟩ : ∃ g, goodAll B = g := ⟨_, rfl⟩
      have CA : Hid (∀ W, Calls Tryd.prog 55 #[.string (mkS A), .func (.func 54) #[] #[]] W fun e w' => e = .returned (.bool gA) ∧ Below W.heap.size W w') := Lib.hid fun W => by
        have := every_calls (mkS A) (by rw [Lib.size_eq, data_mkS]; omega) W
        rw [data_mkS, hgA] at this; exact this
      have CB : Hid (∀ W, Calls Tryd.prog 55 #[.string (mkS B), .func (.func 54) #[] #[]] W fun e w' => e = .returned (.bool gB) ∧ Below W.heap.size W w') := Lib.hid fun W => by
        have := every_calls (mkS B) (by rw [Lib.size_eq, data_mkS]; omega) W
        rw [data_mkS, hgB] at this; exact this
      have hE3 : partsO s.data.toList = if K = 0 then none else if A.isEmpty then none else if gA = false then none else if gB = false then none else some (A, B, F, K) := by
        rw [hE2, Parted.of_def, hK, hq, hgA, hgB]
      have HE3 := Lib.hid hE3
      clear hE3 hE2 hK hq hlen hxz hgA hgB HE He1 He2
      by_cases hK : K = 0
      · have E1 : Hid (partsO s.data.toList = none) := Lib.hid (by rw [HE3.out, if_pos hK])
        subst hK
        go_enter Tryd.func39, Tryd.ntmps39
        go_wp2_with (go_at_call 43; refine (Tryd.strings_LastIndexByte _ _ (by omega) _).mono ?_; rintro e w1 ⟨rfl, rfl⟩; rw [H1.out])
        refine (CK.out _).mono ?_
        rintro e w2 ⟨rfl, hb2⟩
        obtain ⟨c2, f2⟩ := bcell hb2
        have z2 : w.heap.size < w2.heap.size := by have := hb2.size; simp at this; omega
        go_wp2_with fail
        refine (CC.out _).mono ?_
        rintro e w3 ⟨rfl, hb3⟩
        obtain ⟨c3, f3⟩ := bcell hb3
        have z3 : w2.heap.size < w3.heap.size := by have := hb3.size; simp at this; omega
        have y3 : Below w.heap.size w w3 := (((Below.refl _ w).alloc (Nat.le_refl _) _).trans (hb2.mono (by simp))).trans (((Below.refl _ w2).alloc (Nat.le_of_lt z2) _).trans (hb3.mono (by simp; omega)))
        have r3 : w3.heap[w.heap.size]? = some (.cells #[.string ⟨#[]⟩, .string ⟨#[]⟩, .bool false, .int .i64 0] 61) :=
          (hb3.block _ (by simp; omega)).trans (hp_alloc_old _ ((hb2.block _ (by simp)).trans (hp_alloc_new w _)))
        go_wp2_with fail
        refine parts_end (b := w.heap.size) (cells4 ((hp_setCell_other _ (by simp; omega)).trans ((hp_setCell_other _ (by simp; omega)).trans ((hp_setCell_other _ (by simp; omega)).trans r3))) _ _ _ _) rfl rfl (by rw [E1.out]; rfl) ?_
        iterate 7 refine Below.setCell ?_ (by simp <;> omega) _
        exact y3
      · have hk0 : ¬ (K : Int) = 0 := by omega
        have hkb : ((K : Int) == 0) = false := by simp [hK]
        have HK := Lib.hid hK
        clear hK
        rcases hA : (mkS A).toList.isEmpty with _ | _
        · have hA' : ¬ (mkS A).toList = [] := by intro e; rw [e] at hA; cases hA
          have HA : Hid (A.isEmpty = false) := Lib.hid (by rw [Lib.toList_data, data_mkS] at hA; exact hA)
          rcases gA with _ | _
          · have E1 : Hid (partsO s.data.toList = none) := Lib.hid (by rw [HE3.out, if_neg HK.out, if_neg (by rw [HA.out]; simp), if_pos rfl])
            go_enter Tryd.func39, Tryd.ntmps39
            go_wp2_with (go_at_call 43; refine (Tryd.strings_LastIndexByte _ _ (by omega) _).mono ?_; rintro e w1 ⟨rfl, rfl⟩; rw [H1.out])
            refine (CK.out _).mono ?_
            rintro e w2 ⟨rfl, hb2⟩
            obtain ⟨c2, f2⟩ := bcell hb2
            have z2 : w.heap.size < w2.heap.size := by have := hb2.size; simp at this; omega
            go_wp2_with fail
            refine (CC.out _).mono ?_
            rintro e w3 ⟨rfl, hb3⟩
            obtain ⟨c3, f3⟩ := bcell hb3
            have z3 : w2.heap.size < w3.heap.size := by have := hb3.size; simp at this; omega
            have y3 : Below w.heap.size w w3 := (((Below.refl _ w).alloc (Nat.le_refl _) _).trans (hb2.mono (by simp))).trans (((Below.refl _ w2).alloc (Nat.le_of_lt z2) _).trans (hb3.mono (by simp; omega)))
            have r3 : w3.heap[w.heap.size]? = some (.cells #[.string ⟨#[]⟩, .string ⟨#[]⟩, .bool false, .int .i64 0] 61) :=
              (hb3.block _ (by simp; omega)).trans (hp_alloc_old _ ((hb2.block _ (by simp)).trans (hp_alloc_new w _)))
            have m3 : w3.heap[w2.heap.size]? = some (.cells #[.string ⟨#[]⟩, .string ⟨#[]⟩, .bool false, .int .i64 (K : Int)] 61) :=
              (hb3.block _ (by simp)).trans (hp_alloc_new w2 _)
            go_wp2_with fail
            refine (CA.out _).mono ?_
            rintro e w4 ⟨rfl, hb4⟩
            have z4 : w3.heap.size ≤ w4.heap.size := by have := hb4.size; simpa using this
            have n4 : w4.heap[w.heap.size]? = some (.cells #[.string ⟨#[]⟩, .string ⟨#[]⟩, .bool false, .int .i64 0] 61) :=
              (hb4.block _ (by simp; omega)).trans ((hp_setCell_other _ (by simp; omega)).trans ((hp_setCell_other _ (by simp; omega)).trans ((hp_setCell_other _ (by simp; omega)).trans r3)))
            have m4 : w4.heap[w2.heap.size]? = some (.cells #[.string (mkS A), .string (mkS B), .bool F, .int .i64 (K : Int)] 61) :=
              (hb4.block _ (by simp; omega)).trans (hp_setCell_same (hp_setCell_same (hp_setCell_same m3 0 _) 1 _) 2 _)
            have y4 : Below w.heap.size w w4 := (((y3.setCell (p := ⟨w2.heap.size, 0, none⟩) (by simp; omega) _).setCell (p := ⟨w2.heap.size, 1, none⟩) (by simp; omega) _).setCell (p := ⟨w2.heap.size, 2, none⟩) (by simp; omega) _).trans (hb4.mono (by simp; omega))
            clear c2 f2 c3 f3 hb2 hb3 hb4 y3 r3 m3
            have d0 : w4.cell? ⟨w2.heap.size, 0, none⟩ = some (.string (mkS A)) := by rw [hp_cell m4]; rfl
            have d1 : w4.cell? ⟨w2.heap.size, 1, none⟩ = some (.string (mkS B)) := by rw [hp_cell m4]; rfl
            have d2 : w4.cell? ⟨w2.heap.size, 2, none⟩ = some (.bool F) := by rw [hp_cell m4]; rfl
            have d3 : w4.cell? ⟨w2.heap.size, 3, none⟩ = some (.int .i64 (K : Int)) := by rw [hp_cell m4]; rfl
            have e0 : ∀ i, w4.frozen? ⟨w.heap.size, i, none⟩ = false := hp_frozen n4
            have b0 : w4.cell? ⟨w.heap.size, 0, none⟩ = some (.string ⟨#[]⟩) := by rw [hp_cell n4]; rfl
            have b1 : w4.cell? ⟨w.heap.size, 1, none⟩ = some (.string ⟨#[]⟩) := by rw [hp_cell n4]; rfl
            have b2 : w4.cell? ⟨w.heap.size, 2, none⟩ = some (.bool false) := by rw [hp_cell n4]; rfl
            have b3 : w4.cell? ⟨w.heap.size, 3, none⟩ = some (.int .i64 0) := by rw [hp_cell n4]; rfl
            go_wp2_with fail
            refine parts_end (b := w.heap.size) (cells4 n4 _ _ _ _) rfl rfl (by rw [E1.out]; rfl) ?_
            iterate 4 refine Below.setCell ?_ (by simp) _
            exact y4
          · rcases gB with _ | _
            · have E1 : Hid (partsO s.data.toList = none) := Lib.hid (by rw [HE3.out, if_neg HK.out, if_neg (by rw [HA.out]; simp), if_neg (by simp), if_pos rfl])
              go_enter Tryd.func39, Tryd.ntmps39
              go_wp2_with (go_at_call 43; refine (Tryd.strings_LastIndexByte _ _ (by omega) _).mono ?_; rintro e w1 ⟨rfl, rfl⟩; rw [H1.out])
              refine (CK.out _).mono ?_
              rintro e w2 ⟨rfl, hb2⟩
              obtain ⟨c2, f2⟩ := bcell hb2
              have z2 : w.heap.size < w2.heap.size := by have := hb2.size; simp at this; omega
              go_wp2_with fail
              refine (CC.out _).mono ?_
              rintro e w3 ⟨rfl, hb3⟩
              obtain ⟨c3, f3⟩ := bcell hb3
              have z3 : w2.heap.size < w3.heap.size := by have := hb3.size; simp at this; omega
              have y3 : Below w.heap.size w w3 := (((Below.refl _ w).alloc (Nat.le_refl _) _).trans (hb2.mono (by simp))).trans (((Below.refl _ w2).alloc (Nat.le_of_lt z2) _).trans (hb3.mono (by simp; omega)))
              have r3 : w3.heap[w.heap.size]? = some (.cells #[.string ⟨#[]⟩, .string ⟨#[]⟩, .bool false, .int .i64 0] 61) :=
                (hb3.block _ (by simp; omega)).trans (hp_alloc_old _ ((hb2.block _ (by simp)).trans (hp_alloc_new w _)))
              have m3 : w3.heap[w2.heap.size]? = some (.cells #[.string ⟨#[]⟩, .string ⟨#[]⟩, .bool false, .int .i64 (K : Int)] 61) :=
                (hb3.block _ (by simp)).trans (hp_alloc_new w2 _)
              go_wp2_with fail
              refine (CA.out _).mono ?_
              rintro e w4 ⟨rfl, hb4⟩
              have z4 : w3.heap.size ≤ w4.heap.size := by have := hb4.size; simpa using this
              have n4 : w4.heap[w.heap.size]? = some (.cells #[.string ⟨#[]⟩, .string ⟨#[]⟩, .bool false, .int .i64 0] 61) :=
                (hb4.block _ (by simp; omega)).trans ((hp_setCell_other _ (by simp; omega)).trans ((hp_setCell_other _ (by simp; omega)).trans ((hp_setCell_other _ (by simp; omega)).trans r3)))
              have m4 : w4.heap[w2.heap.size]? = some (.cells #[.string (mkS A), .string (mkS B), .bool F, .int .i64 (K : Int)] 61) :=
                (hb4.block _ (by simp; omega)).trans (hp_setCell_same (hp_setCell_same (hp_setCell_same m3 0 _) 1 _) 2 _)
              have y4 : Below w.heap.size w w4 := (((y3.setCell (p := ⟨w2.heap.size, 0, none⟩) (by simp; omega) _).setCell (p := ⟨w2.heap.size, 1, none⟩) (by simp; omega) _).setCell (p := ⟨w2.heap.size, 2, none⟩) (by simp; omega) _).trans (hb4.mono (by simp; omega))
              clear c2 f2 c3 f3 hb2 hb3 hb4 y3 r3 m3
              have d0 : w4.cell? ⟨w2.heap.size, 0, none⟩ = some (.string (mkS A)) := by rw [hp_cell m4]; rfl
              have d1 : w4.cell? ⟨w2.heap.size, 1, none⟩ = some (.string (mkS B)) := by rw [hp_cell m4]; rfl
              have d2 : w4.cell? ⟨w2.heap.size, 2, none⟩ = some (.bool F) := by rw [hp_cell m4]; rfl
              have d3 : w4.cell? ⟨w2.heap.size, 3, none⟩ = some (.int .i64 (K : Int)) := by rw [hp_cell m4]; rfl
              have e0 : ∀ i, w4.frozen? ⟨w.heap.size, i, none⟩ = false := hp_frozen n4
              have b0 : w4.cell? ⟨w.heap.size, 0, none⟩ = some (.string ⟨#[]⟩) := by rw [hp_cell n4]; rfl
              have b1 : w4.cell? ⟨w.heap.size, 1, none⟩ = some (.string ⟨#[]⟩) := by rw [hp_cell n4]; rfl
              have b2 : w4.cell? ⟨w.heap.size, 2, none⟩ = some (.bool false) := by rw [hp_cell n4]; rfl
              have b3 : w4.cell? ⟨w.heap.size, 3, none⟩ = some (.int .i64 0) := by rw [hp_cell n4]; rfl
              go_wp2_with fail
              refine (CB.out _).mono ?_
              rintro e w5 ⟨rfl, hb5⟩
              have z5 : w4.heap.size ≤ w5.heap.size := by have := hb5.size; simpa using this
              have n5 : w5.heap[w.heap.size]? = some (.cells #[.string ⟨#[]⟩, .string ⟨#[]⟩, .bool false, .int .i64 0] 61) :=
                (hb5.block _ (by omega)).trans n4
              have m5 : w5.heap[w2.heap.size]? = some (.cells #[.string (mkS A), .string (mkS B), .bool F, .int .i64 (K : Int)] 61) :=
                (hb5.block _ (by omega)).trans m4
              have y5 : Below w.heap.size w w5 := y4.trans (hb5.mono (by omega))
              clear d0 d1 d2 d3 e0 b0 b1 b2 b3 hb5 y4 n4 m4
              have d0 : w5.cell? ⟨w2.heap.size, 0, none⟩ = some (.string (mkS A)) := by rw [hp_cell m5]; rfl
              have d1 : w5.cell? ⟨w2.heap.size, 1, none⟩ = some (.string (mkS B)) := by rw [hp_cell m5]; rfl
              have d2 : w5.cell? ⟨w2.heap.size, 2, none⟩ = some (.bool F) := by rw [hp_cell m5]; rfl
              have d3 : w5.cell? ⟨w2.heap.size, 3, none⟩ = some (.int .i64 (K : Int)) := by rw [hp_cell m5]; rfl
              have e0 : ∀ i, w5.frozen? ⟨w.heap.size, i, none⟩ = false := hp_frozen n5
              have b0 : w5.cell? ⟨w.heap.size, 0, none⟩ = some (.string ⟨#[]⟩) := by rw [hp_cell n5]; rfl
              have b1 : w5.cell? ⟨w.heap.size, 1, none⟩ = some (.string ⟨#[]⟩) := by rw [hp_cell n5]; rfl
              have b2 : w5.cell? ⟨w.heap.size, 2, none⟩ = some (.bool false) := by rw [hp_cell n5]; rfl
              have b3 : w5.cell? ⟨w.heap.size, 3, none⟩ = some (.int .i64 0) := by rw [hp_cell n5]; rfl
              go_wp2_with fail
              refine parts_end (b := w.heap.size) (cells4 n5 _ _ _ _) rfl rfl (by rw [E1.out]; rfl) ?_
              iterate 4 refine Below.setCell ?_ (by simp) _
              exact y5
            · have E1 : Hid (partsO s.data.toList = some (A, B, F, K)) := Lib.hid (by rw [HE3.out, if_neg HK.out, if_neg (by rw [HA.out]; simp), if_neg (by simp), if_neg (by simp)])
              go_enter Tryd.func39, Tryd.ntmps39
              go_wp2_with (go_at_call 43; refine (Tryd.strings_LastIndexByte _ _ (by omega) _).mono ?_; rintro e w1 ⟨rfl, rfl⟩; rw [H1.out])
              refine (CK.out _).mono ?_
              rintro e w2 ⟨rfl, hb2⟩
              obtain ⟨c2, f2⟩ := bcell hb2
              have z2 : w.heap.size < w2.heap.size := by have := hb2.size; simp at this; omega
              go_wp2_with fail
              refine (CC.out _).mono ?_
              rintro e w3 ⟨rfl, hb3⟩
              obtain ⟨c3, f3⟩ := bcell hb3
              have z3 : w2.heap.size < w3.heap.size := by have := hb3.size; simp at this; omega
              have y3 : Below w.heap.size w w3 := (((Below.refl _ w).alloc (Nat.le_refl _) _).trans (hb2.mono (by simp))).trans (((Below.refl _ w2).alloc (Nat.le_of_lt z2) _).trans (hb3.mono (by simp; omega)))
              have r3 : w3.heap[w.heap.size]? = some (.cells #[.string ⟨#[]⟩, .string ⟨#[]⟩, .bool false, .int .i64 0] 61) :=
                (hb3.block _ (by simp; omega)).trans (hp_alloc_old _ ((hb2.block _ (by simp)).trans (hp_alloc_new w _)))
              have m3 : w3.heap[w2.heap.size]? = some (.cells #[.string ⟨#[]⟩, .string ⟨#[]⟩, .bool false, .int .i64 (K : Int)] 61) :=
                (hb3.block _ (by simp)).trans (hp_alloc_new w2 _)
              go_wp2_with fail
              refine (CA.out _).mono ?_
              rintro e w4 ⟨rfl, hb4⟩
              have z4 : w3.heap.size ≤ w4.heap.size := by have := hb4.size; simpa using this
              have n4 : w4.heap[w.heap.size]? = some (.cells #[.string ⟨#[]⟩, .string ⟨#[]⟩, .bool false, .int .i64 0] 61) :=
                (hb4.block _ (by simp; omega)).trans ((hp_setCell_other _ (by simp; omega)).trans ((hp_setCell_other _ (by simp; omega)).trans ((hp_setCell_other _ (by simp; omega)).trans r3)))
              have m4 : w4.heap[w2.heap.size]? = some (.cells #[.string (mkS A), .string (mkS B), .bool F, .int .i64 (K : Int)] 61) :=
                (hb4.block _ (by simp; omega)).trans (hp_setCell_same (hp_setCell_same (hp_setCell_same m3 0 _) 1 _) 2 _)
              have y4 : Below w.heap.size w w4 := (((y3.setCell (p := ⟨w2.heap.size, 0, none⟩) (by simp; omega) _).setCell (p := ⟨w2.heap.size, 1, none⟩) (by simp; omega) _).setCell (p := ⟨w2.heap.size, 2, none⟩) (by simp; omega) _).trans (hb4.mono (by simp; omega))
              clear c2 f2 c3 f3 hb2 hb3 hb4 y3 r3 m3
              have d0 : w4.cell? ⟨w2.heap.size, 0, none⟩ = some (.string (mkS A)) := by rw [hp_cell m4]; rfl
              have d1 : w4.cell? ⟨w2.heap.size, 1, none⟩ = some (.string (mkS B)) := by rw [hp_cell m4]; rfl
              have d2 : w4.cell? ⟨w2.heap.size, 2, none⟩ = some (.bool F) := by rw [hp_cell m4]; rfl
              have d3 : w4.cell? ⟨w2.heap.size, 3, none⟩ = some (.int .i64 (K : Int)) := by rw [hp_cell m4]; rfl
              have e0 : ∀ i, w4.frozen? ⟨w.heap.size, i, none⟩ = false := hp_frozen n4
              have b0 : w4.cell? ⟨w.heap.size, 0, none⟩ = some (.string ⟨#[]⟩) := by rw [hp_cell n4]; rfl
              have b1 : w4.cell? ⟨w.heap.size, 1, none⟩ = some (.string ⟨#[]⟩) := by rw [hp_cell n4]; rfl
              have b2 : w4.cell? ⟨w.heap.size, 2, none⟩ = some (.bool false) := by rw [hp_cell n4]; rfl
              have b3 : w4.cell? ⟨w.heap.size, 3, none⟩ = some (.int .i64 0) := by rw [hp_cell n4]; rfl
              go_wp2_with fail
              refine (CB.out _).mono ?_
              rintro e w5 ⟨rfl, hb5⟩
              have z5 : w4.heap.size ≤ w5.heap.size := by have := hb5.size; simpa using this
              have n5 : w5.heap[w.heap.size]? = some (.cells #[.string ⟨#[]⟩, .string ⟨#[]⟩, .bool false, .int .i64 0] 61) :=
                (hb5.block _ (by omega)).trans n4
              have m5 : w5.heap[w2.heap.size]? = some (.cells #[.string (mkS A), .string (mkS B), .bool F, .int .i64 (K : Int)] 61) :=
                (hb5.block _ (by omega)).trans m4
              have y5 : Below w.heap.size w w5 := y4.trans (hb5.mono (by omega))
              clear d0 d1 d2 d3 e0 b0 b1 b2 b3 hb5 y4 n4 m4
              have d0 : w5.cell? ⟨w2.heap.size, 0, none⟩ = some (.string (mkS A)) := by rw [hp_cell m5]; rfl
              have d1 : w5.cell? ⟨w2.heap.size, 1, none⟩ = some (.string (mkS B)) := by rw [hp_cell m5]; rfl
              have d2 : w5.cell? ⟨w2.heap.size, 2, none⟩ = some (.bool F) := by rw [hp_cell m5]; rfl
              have d3 : w5.cell? ⟨w2.heap.size, 3, none⟩ = some (.int .i64 (K : Int)) := by rw [hp_cell m5]; rfl
              have e0 : ∀ i, w5.frozen? ⟨w.heap.size, i, none⟩ = false := hp_frozen n5
              have b0 : w5.cell? ⟨w.heap.size, 0, none⟩ = some (.string ⟨#[]⟩) := by rw [hp_cell n5]; rfl
              have b1 : w5.cell? ⟨w.heap.size, 1, none⟩ = some (.string ⟨#[]⟩) := by rw [hp_cell n5]; rfl
              have b2 : w5.cell? ⟨w.heap.size, 2, none⟩ = some (.bool false) := by rw [hp_cell n5]; rfl
              have b3 : w5.cell? ⟨w.heap.size, 3, none⟩ = some (.int .i64 0) := by rw [hp_cell n5]; rfl
              go_wp2_with fail
              refine parts_end (b := w.heap.size) (cells4 n5 _ _ _ _) rfl rfl (by rw [E1.out]; rfl) ?_
              iterate 4 refine Below.setCell ?_ (by simp) _
              exact y5
        · have hA' : (mkS A).toList = [] := by simpa using hA
          have E1 : Hid (partsO s.data.toList = none) := Lib.hid (by
            have : A.isEmpty = true := by rw [Lib.toList_data, data_mkS] at hA; exact hA
            rw [HE3.out, if_neg HK.out, if_pos this])
          go_enter Tryd.func39, Tryd.ntmps39
          go_wp2_with (go_at_call 43; refine (Tryd.strings_LastIndexByte _ _ (by omega) _).mono ?_; rintro e w1 ⟨rfl, rfl⟩; rw [H1.out])
          refine (CK.out _).mono ?_
          rintro e w2 ⟨rfl, hb2⟩
          obtain ⟨c2, f2⟩ := bcell hb2
          have z2 : w.heap.size < w2.heap.size := by have := hb2.size; simp at this; omega
          go_wp2_with fail
          refine (CC.out _).mono ?_
          rintro e w3 ⟨rfl, hb3⟩
          obtain ⟨c3, f3⟩ := bcell hb3
          have z3 : w2.heap.size < w3.heap.size := by have := hb3.size; simp at this; omega
          have y3 : Below w.heap.size w w3 := (((Below.refl _ w).alloc (Nat.le_refl _) _).trans (hb2.mono (by simp))).trans (((Below.refl _ w2).alloc (Nat.le_of_lt z2) _).trans (hb3.mono (by simp; omega)))
          have r3 : w3.heap[w.heap.size]? = some (.cells #[.string ⟨#[]⟩, .string ⟨#[]⟩, .bool false, .int .i64 0] 61) :=
            (hb3.block _ (by simp; omega)).trans (hp_alloc_old _ ((hb2.block _ (by simp)).trans (hp_alloc_new w _)))
          have m3 : w3.heap[w2.heap.size]? = some (.cells #[.string ⟨#[]⟩, .string ⟨#[]⟩, .bool false, .int .i64 (K : Int)] 61) :=
            (hb3.block _ (by simp)).trans (hp_alloc_new w2 _)
          clear m3
          go_wp2_with fail
          refine parts_end (b := w.heap.size) (cells4 ((hp_setCell_other _ (by simp; omega)).trans ((hp_setCell_other _ (by simp; omega)).trans ((hp_setCell_other _ (by simp; omega)).trans r3))) _ _ _ _) rfl rfl (by rw [E1.out]; rfl) ?_
          iterate 7 refine Below.setCell ?_ (by simp <;> omega) _
          exact y3
end Go.Proofs.YtgppdndpnflkeaaDoor
