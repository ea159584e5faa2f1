/- Contracts of package name: Is, Kind, Prefix, Instance, Template, With. -/
import Derived.Test.YtgppdndpnflkeaaDoorNe
namespace Go.Proofs.YtgppdndpnflkeaaDoor
open Go.RowKit Go.Rv

/-- A name's parts; of what is no name: nothing. -/
def pT (l : List UInt8) : Parted := (partsO l).getD ([], [], false, 0)
theorem parts_at {s : ByteArray} (hs : s.size ≤ 1000000) {a b : List UInt8} {f ok : Bool} {k : Nat} (h : pT s.data.toList = (a, b, f, k)) (h2 : (partsO s.data.toList).isSome = ok) (w : World) :
    Calls Tryd.prog 39 #[.string s] w fun e w' => e = .returned (.tuple #[.agg #[.string (mkS a), .string (mkS b), .bool f, .int .i64 (k : Int)], .bool ok]) ∧ Below w.heap.size w w' := by
  refine (parts_calls s hs w).mono fun e w' ⟨h3, h4⟩ => ⟨?_, h4⟩
  rw [h3]
  unfold pT at h
  cases hp : partsO s.data.toList with
  | none =>
    rw [hp] at h h2
    cases h; cases h2; rfl
  | some q =>
    obtain ⟨a', b', f', k'⟩ := q
    rw [hp] at h h2
    cases h; cases h2; rfl

theorem is_calls (s : ByteArray) (hs : s.size ≤ 1000000) (w : World) : Calls Tryd.prog 14 #[.string s] w fun e w' => e = .returned (.bool (partsO s.data.toList).isSome) ∧ Below w.heap.size w w' := by
  obtain ⟨⟨a, b, f, k⟩, hp⟩ : ∃ q, pT s.data.toList = q := ⟨_, rfl⟩
  obtain ⟨ok, ho⟩ : ∃ q, (partsO s.data.toList).isSome = q := ⟨_, rfl⟩
  have HP := Lib.hid hp
  have HO := Lib.hid ho
  rw [ho]
  clear hp ho
  go_enter Tryd.func14, Tryd.ntmps14
  go_wp2_with (go_at_call 39; refine (parts_at hs HP.out HO.out _).mono ?_; rintro e w1 ⟨rfl, hb⟩)
  go_ret
  exact ⟨rfl, hb.alloc hb.size _⟩
theorem kind_calls (s : ByteArray) (hs : s.size ≤ 1000000) (w : World) : Calls Tryd.prog 18 #[.string s] w fun e w' => e = .returned (.int .i64 ((pT s.data.toList).2.2.2 : Int)) ∧ Below w.heap.size w w' := by
  obtain ⟨⟨a, b, f, k⟩, hp⟩ : ∃ q, pT s.data.toList = q := ⟨_, rfl⟩
  have HP := Lib.hid hp
  rw [hp]
  clear hp
  go_enter Tryd.func18, Tryd.ntmps18
  go_wp2_with (go_at_call 39; refine (parts_at hs HP.out rfl _).mono ?_; rintro e w1 ⟨rfl, hb⟩)
  go_ret
  exact ⟨rfl, hb.alloc hb.size _⟩
theorem prefix_calls (s : ByteArray) (hs : s.size ≤ 1000000) (w : World) : Calls Tryd.prog 20 #[.string s] w fun e w' => e = .returned (.string (mkS (pT s.data.toList).1)) ∧ Below w.heap.size w w' := by
  obtain ⟨⟨a, b, f, k⟩, hp⟩ : ∃ q, pT s.data.toList = q := ⟨_, rfl⟩
  have HP := Lib.hid hp
  rw [hp]
  clear hp
  go_enter Tryd.func20, Tryd.ntmps20
  go_wp2_with (go_at_call 39; refine (parts_at hs HP.out rfl _).mono ?_; rintro e w1 ⟨rfl, hb⟩)
  go_ret
  exact ⟨rfl, hb.alloc hb.size _⟩
theorem instance_calls (s : ByteArray) (hs : s.size ≤ 1000000) (w : World) : Calls Tryd.prog 15 #[.string s] w fun e w' => e = .returned (.tuple #[.string (mkS (pT s.data.toList).2.1), .bool (pT s.data.toList).2.2.1]) ∧ Below w.heap.size w w' := by
  obtain ⟨⟨a, b, f, k⟩, hp⟩ : ∃ q, pT s.data.toList = q := ⟨_, rfl⟩
  have HP := Lib.hid hp
  rw [hp]
  clear hp
  go_enter Tryd.func15, Tryd.ntmps15
  go_wp2_with (go_at_call 39; refine (parts_at hs HP.out rfl _).mono ?_; rintro e w1 ⟨rfl, hb⟩)
  go_quiet (fail)
  go_wp2
  go_ret2
  exact ⟨rfl, (hb.alloc hb.size _).trans (below_drewN _ _ _)⟩
/-- A name's ending. -/
def tailL (l : List UInt8) : List UInt8 := match dotO l with | some (_, y) => y | none => []
def templateL (l : List UInt8) : List UInt8 := if (pT l).2.2.1 then (pT l).1 ++ 64 :: tailL l else []
theorem pT_at {l : List UInt8} (h : (pT l).2.2.1 = true) : (partsO l).isSome = true ∧ (dotO l).isSome = true ∧ l.length ≤ 60 := by
  unfold pT at h
  cases hp : partsO l with
  | none => rw [hp] at h; cases h
  | some q =>
    unfold partsO at hp
    cases hd : dotO l with
    | none => rw [hd] at hp; cases hp
    | some d =>
      rw [hd] at hp
      refine ⟨rfl, rfl, ?_⟩
      by_cases hl : l.length > 60
      · simp only [if_pos hl] at hp; cases hp
      · omega
theorem dotO_app {l a b : List UInt8} (h : dotO l = some (a, b)) : l = a ++ b := by
  induction l generalizing a b with
  | nil => cases h
  | cons c r ih =>
    unfold dotO at h
    cases hd : dotO r with
    | none =>
      rw [hd] at h
      dsimp only at h
      split at h
      · cases h; rfl
      · cases h
    | some q =>
      obtain ⟨x, y⟩ := q
      rw [hd] at h
      cases h
      rw [ih hd]; rfl
theorem pT_len (l : List UInt8) : (pT l).1.length ≤ l.length ∧ (pT l).2.1.length ≤ l.length := by
  unfold pT partsO
  cases hd : dotO l with
  | none => simp
  | some q =>
    obtain ⟨x, y⟩ := q
    have hl := congrArg List.length (dotO_app hd)
    rw [List.length_append] at hl
    have hc := cutL_len 64 x
    dsimp only
    split
    · simp
    · rw [Parted.of_def]
      split
      · simp
      · split
        · simp
        · split
          · simp
          · split
            · simp
            · simp only [Option.getD_some]; omega
theorem mkS_append (a b : List UInt8) : mkS a ++ mkS b = mkS (a ++ b) := by
  rw [← mkS_data (mkS a ++ mkS b)]
  rw [ByteArray.data_append, Array.toList_append, data_mkS, data_mkS]
theorem size_mkS (l : List UInt8) : (mkS l).size = l.length := by rw [Lib.size_eq, data_mkS]
theorem add_str {a b : ByteArray} (h : a.size + b.size ≤ 9223372036854775807) (W : World) : (Op.stringOp .add a b).run Tryd.prog W = .ok (.string (a ++ b)) W := run_string_add_sum W a b h
theorem template_calls (s : ByteArray) (hs : s.size ≤ 1000000) (w : World) : Calls Tryd.prog 22 #[.string s] w fun e w' => e = .returned (.string (mkS (templateL s.data.toList))) ∧ Below w.heap.size w w' := by
  obtain ⟨⟨a, b, f, k⟩, hp⟩ : ∃ q, pT s.data.toList = q := ⟨_, rfl⟩
  have HP := Lib.hid hp
  rw [templateL, hp]
  clear hp
  dsimp only
  rcases f with _ | _
  · rw [if_neg (by simp)]
    go_enter Tryd.func22, Tryd.ntmps22
    go_wp2_with (go_at_call 39; refine (parts_at hs HP.out rfl _).mono ?_; rintro e w1 ⟨rfl, hb⟩)
    go_ret
    exact ⟨rfl, hb.alloc hb.size _⟩
  · rw [if_pos rfl]
    obtain ⟨h1, h2, h3⟩ := pT_at (l := s.data.toList) (by rw [HP.out])
    rcases last_cases s with ⟨h4, h5⟩ | ⟨i, h4, h5, h6⟩
    · rw [h5] at h2; cases h2
    · have e1 : tailL s.data.toList = (s.extract i s.size).data.toList := by rw [tailL, h6, Lib.extract_from]
      rw [e1]
      have e2 : mkS (a ++ 64 :: (s.extract i s.size).data.toList) = mkS a ++ ⟨#[64]⟩ ++ s.extract i s.size := by
        rw [← mkS_data (s.extract i s.size), show (⟨#[64]⟩ : ByteArray) = mkS [64] from rfl, mkS_append, mkS_append]
        simp [data_mkS]
      rw [e2]
      have hsl : s.size ≤ 60 := by rw [Lib.size_eq]; exact h3
      have hla := (pT_len s.data.toList).1
      rw [HP.out] at hla
      have hA : ∀ W, (Op.stringOp .add (mkS a) ⟨#[64]⟩).run Tryd.prog W = .ok (.string (mkS a ++ ⟨#[64]⟩)) W := add_str (by rw [size_mkS, show (⟨#[64]⟩ : ByteArray).size = 1 from rfl]; dsimp only at hla; omega)
      have hB : ∀ W, (Op.stringOp .add (mkS a ++ ⟨#[64]⟩) (s.extract i s.size)).run Tryd.prog W = .ok (.string (mkS a ++ ⟨#[64]⟩ ++ s.extract i s.size)) W := add_str (by
        rw [ByteArray.size_append, size_mkS, show (⟨#[64]⟩ : ByteArray).size = 1 from rfl, ByteArray.size_extract]; dsimp only at hla; omega)
      have H4 := Lib.hid h4
      clear e1 e2 h2 h3 h4 h6 hla h1
      have hi1 : (i : Int) < (s.size : Int) := by omega
      go_enter Tryd.func22, Tryd.ntmps22
      go_wp2_with (go_at_call 39; refine (parts_at hs HP.out rfl _).mono ?_; rintro e w1 ⟨rfl, hb⟩)
      have HC : Hid (∀ W, Calls Tryd.prog 43 #[.string s, .int .u8 46] W fun e w' => e = .returned (.int .i64 (i : Int)) ∧ w' = W) := Lib.hid fun W => by
        have := Tryd.strings_LastIndexByte s 46 (by omega) W
        rw [H4.out] at this; exact this
      go_quiet ((go_at_call 43; exact Calls.quiet_of_same (HC.out _)))
      go_wp2
      go_ret
      exact ⟨rfl, (hb.alloc hb.size _).trans (below_drewN _ _ _)⟩
def withL (l inst : List UInt8) : List UInt8 × Int :=
  if (pT l).2.2.1 = false ∨ (pT l).2.1 ≠ [] then ([], 40)
  else if (partsO ((pT l).1 ++ 64 :: (inst ++ tailL l))).isSome = false ∨ (pT ((pT l).1 ++ 64 :: (inst ++ tailL l))).1 ≠ (pT l).1 ∨ (pT ((pT l).1 ++ 64 :: (inst ++ tailL l))).2.1 ≠ inst ∨ (pT ((pT l).1 ++ 64 :: (inst ++ tailL l))).2.2.2 ≠ (pT l).2.2.2 then ([], 40)
  else ((pT l).1 ++ 64 :: (inst ++ tailL l), 0)
theorem mkS_inj {x y : List UInt8} (h : (mkS x).toList = (mkS y).toList) : x = y := by rw [Lib.toList_data, Lib.toList_data, data_mkS, data_mkS] at h; exact h
theorem str_ne {a b : List UInt8} (h : a ≠ b) : ((mkS a).toList == (mkS b).toList) = false := by
  rw [Lib.toList_data, Lib.toList_data, data_mkS, data_mkS]; simpa using h
def WithPost (s t : ByteArray) (w : World) (e : Ending) (w' : World) : Prop :=
  e = .returned (.tuple #[.string (mkS (withL s.data.toList t.data.toList).1), .int .i64 (withL s.data.toList t.data.toList).2]) ∧ Below w.heap.size w w'
theorem with_bad {s t : ByteArray} {w w' : World} {e : Ending} (h : withL s.data.toList t.data.toList = ([], 40)) (he : e = .returned (.tuple #[.string ⟨#[]⟩, .int .i64 40])) (hb : Below w.heap.size w w') : WithPost s t w e w' :=
  ⟨by rw [h, he]; rfl, hb⟩
theorem with_calls (s t : ByteArray) (hs : s.size ≤ 1000000) (ht : t.size ≤ 900000) (w : World) : Calls Tryd.prog 25 #[.string s, .string t] w (WithPost s t w) := by
  obtain ⟨⟨a, b, f, k⟩, hp⟩ : ∃ q, pT s.data.toList = q := ⟨_, rfl⟩
  have HP := Lib.hid hp
  have hW : withL s.data.toList t.data.toList = if f = false ∨ b ≠ [] then ([], 40)
    else if (partsO (a ++ 64 :: (t.data.toList ++ tailL s.data.toList))).isSome = false ∨ (pT (a ++ 64 :: (t.data.toList ++ tailL s.data.toList))).1 ≠ a ∨ (pT (a ++ 64 :: (t.data.toList ++ tailL s.data.toList))).2.1 ≠ t.data.toList ∨ (pT (a ++ 64 :: (t.data.toList ++ tailL s.data.toList))).2.2.2 ≠ k then ([], 40)
    else (a ++ 64 :: (t.data.toList ++ tailL s.data.toList), 0) := by
    rw [withL, hp]
  have HW := Lib.hid hW
  clear hp hW
  rcases f with _ | _
  · have E := Lib.hid (HW.out.trans (if_pos (.inl rfl)))
    go_enter Tryd.func25, Tryd.ntmps25
    go_wp2_with (go_at_call 39; refine (parts_at hs HP.out rfl _).mono ?_; rintro e w1 ⟨rfl, hb⟩)
    go_ret2
    exact with_bad E.out rfl (hb.alloc hb.size _)
  · by_cases hb0 : b = []
    · obtain ⟨h1, h2, h3⟩ := pT_at (l := s.data.toList) (by rw [HP.out])
      rcases last_cases s with ⟨h4, h5⟩ | ⟨i, h4, h5, h6⟩
      · rw [h5] at h2; cases h2
      · have e1 : tailL s.data.toList = (s.extract i s.size).data.toList := by rw [tailL, h6, Lib.extract_from]
        rw [e1] at HW
        have e2 : mkS (a ++ 64 :: (t.data.toList ++ (s.extract i s.size).data.toList)) = mkS a ++ ⟨#[64]⟩ ++ t ++ s.extract i s.size := by
          rw [← mkS_data (s.extract i s.size), show (⟨#[64]⟩ : ByteArray) = mkS [64] from rfl, mkS_append, ← mkS_data t, mkS_append, mkS_append]
          simp [data_mkS]
        have hsl : s.size ≤ 60 := by rw [Lib.size_eq]; exact h3
        have hla := (pT_len s.data.toList).1
        rw [HP.out] at hla
        dsimp only at hla
        have hA := add_str (a := mkS a) (b := ⟨#[64]⟩) (by rw [size_mkS, show (⟨#[64]⟩ : ByteArray).size = 1 from rfl]; omega)
        have hB := add_str (a := mkS a ++ ⟨#[64]⟩) (b := t) (by rw [ByteArray.size_append, size_mkS, show (⟨#[64]⟩ : ByteArray).size = 1 from rfl]; omega)
        have hC := add_str (a := mkS a ++ ⟨#[64]⟩ ++ t) (b := s.extract i s.size) (by rw [ByteArray.size_append, ByteArray.size_append, size_mkS, show (⟨#[64]⟩ : ByteArray).size = 1 from rfl, ByteArray.size_extract]; omega)
        have hO : (mkS a ++ ⟨#[64]⟩ ++ t ++ s.extract i s.size).size ≤ 1000000 := by rw [ByteArray.size_append, ByteArray.size_append, ByteArray.size_append, size_mkS, show (⟨#[64]⟩ : ByteArray).size = 1 from rfl, ByteArray.size_extract]; omega
        have hd : (mkS a ++ ⟨#[64]⟩ ++ t ++ s.extract i s.size).data.toList = a ++ 64 :: (t.data.toList ++ (s.extract i s.size).data.toList) := by rw [← e2, data_mkS]
        obtain ⟨O, hOO⟩ : ∃ O, mkS a ++ ⟨#[64]⟩ ++ t ++ s.extract i s.size = O := ⟨_, rfl⟩
        rw [hOO] at hC hO hd
        rw [← hd] at HW
        obtain ⟨⟨a2, b2, f2, k2⟩, hp2⟩ : ∃ q, pT O.data.toList = q := ⟨_, rfl⟩
        obtain ⟨ok2, ho2⟩ : ∃ q, (partsO O.data.toList).isSome = q := ⟨_, rfl⟩
        rw [hp2, ho2] at HW
        have HP2 := Lib.hid hp2
        have HO2 := Lib.hid ho2
        have HO := Lib.hid hO
        have hl4 := h4
        have H4 := Lib.hid h4
        have hi1 : (i : Int) < (s.size : Int) := by omega
        clear e1 e2 h2 h3 h4 h6 h1 hOO hd hp2 ho2 hO hla hl4
        subst hb0
        have hb1 : (mkS []).toList.isEmpty = true := by rw [Lib.toList_data, data_mkS]; rfl
        have HC : Hid (∀ W, Calls Tryd.prog 43 #[.string s, .int .u8 46] W fun e w' => e = .returned (.int .i64 (i : Int)) ∧ w' = W) := Lib.hid fun W => by
          have := Tryd.strings_LastIndexByte s 46 (by omega) W
          rw [H4.out] at this; exact this
        go_enter Tryd.func25, Tryd.ntmps25
        go_wp2_with (go_at_call 39; refine (parts_at hs HP.out rfl _).mono ?_; rintro e w1 ⟨rfl, hb⟩)
        go_quiet ((go_at_call 43; exact Calls.quiet_of_same (HC.out _)))
        go_wp2_with (go_at_call 39; refine (parts_at HO.out HP2.out HO2.out _).mono ?_; rintro e w2 ⟨rfl, hb2⟩; obtain ⟨c2, f2⟩ := bcell hb2; have z2 : w1.heap.size < w2.heap.size := (by have := hb2.size; simp at this; omega); have hb3 := Lib.hid (((hb.alloc hb.size _).trans (below_drewN _ _ nq)).trans (hb2.mono (by simp; exact Nat.le_succ_of_le hb.size))))
        · rename_i g1 g2 g3 g4
          go_ret2
          have gk : k2 ≠ k := by simp at g4; omega
          exact with_bad (HW.out.trans ((if_neg (by simp)).trans (if_pos (.inr (.inr (.inr gk)))))) rfl (hb3.out.alloc hb3.out.size _)
        · rename_i g1 g2 g3 g4
          go_ret2
          have gt : b2 = t.data.toList := by rw [Lib.toList_data, Lib.toList_data, data_mkS] at g3; exact g3
          have gk : k2 = k := by simp at g4; omega
          refine ⟨?_, hb3.out.alloc hb3.out.size _⟩
          rw [HW.out, if_neg (by simp), if_neg (by rw [g1, mkS_inj g2, gt, gk]; simp), mkS_data]
          rfl
        · rename_i g1 g2 g3
          go_ret2
          have gt : b2 ≠ t.data.toList := by rw [Lib.toList_data, Lib.toList_data, data_mkS] at g3; exact g3
          exact with_bad (HW.out.trans ((if_neg (by simp)).trans (if_pos (.inr (.inr (.inl gt)))))) rfl (hb3.out.alloc hb3.out.size _)
        · rename_i g1 g2
          go_ret2
          have gt : a2 ≠ a := fun e => g2 (by rw [e])
          exact with_bad (HW.out.trans ((if_neg (by simp)).trans (if_pos (.inr (.inl gt))))) rfl (hb3.out.alloc hb3.out.size _)
        · rename_i g1
          go_ret2
          exact with_bad (HW.out.trans ((if_neg (by simp)).trans (if_pos (.inl (by simpa using g1))))) rfl (hb3.out.alloc hb3.out.size _)
    · have hb1 : (mkS b).toList.isEmpty = false := by rw [Lib.toList_data, data_mkS]; simpa using hb0
      have E := Lib.hid (HW.out.trans (if_pos (.inr hb0)))
      have Hb0 := Lib.hid hb0
      clear hb0
      go_enter Tryd.func25, Tryd.ntmps25
      go_wp2_with (go_at_call 39; refine (parts_at hs HP.out rfl _).mono ?_; rintro e w1 ⟨rfl, hb⟩)
      go_ret2
      exact with_bad E.out rfl (hb.alloc hb.size _)
end Go.Proofs.YtgppdndpnflkeaaDoor
