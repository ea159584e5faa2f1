/- Contracts of package name: Expand. -/
import Derived.Test.YtgppdndpnflkeaaDoorNh
namespace Go.Proofs.YtgppdndpnflkeaaDoor
open Go.RowKit Go.Rv

theorem isBuilder_below {B b : Nat} {bs : List Value} {w w' : World} (h : Lib.IsBuilder 43 5 B b bs w) (hb : Below w.heap.size w w') : Lib.IsBuilder 43 5 B b bs w' := by
  have key : ∀ p, Lib.BuilderAt 43 5 B b p bs w → Lib.BuilderAt 43 5 B b p bs w' := by
    rintro p ⟨h1, v, h2, ⟨h3, h4⟩, h5⟩
    refine ⟨h1, v, (hb.block _ (hp_lt h2)).trans h2, ⟨h3, ?_⟩, h5⟩
    rcases h4 with h4 | ⟨g, cap, cur, hv, hg, hh, r⟩
    · exact .inl h4
    · exact .inr ⟨g, cap, cur, hv, hg, (hb.block _ (hp_lt hh)).trans hh, r⟩
  rcases h with h | h
  · exact .inl (key _ h)
  · exact .inr (key _ h)

/-- What a text with specifiers stands for, of a unit; none: it has a specifier that there isn't. -/
def exR (u : List UInt8) : List UInt8 → Option (List UInt8)
  | [] => some []
  | c :: r => if c = 37 then (match r with
      | [] => none
      | d :: r' => if (specL d u).2 = 0 then (exR u r').map ((specL d u).1 ++ ·) else none)
    else (exR u r).map (c :: ·)
theorem exR_cons (u : List UInt8) (c : UInt8) (r : List UInt8) : exR u (c :: r) = if c = 37 then (match r with
      | [] => none
      | d :: r' => if (specL d u).2 = 0 then (exR u r').map ((specL d u).1 ++ ·) else none)
    else (exR u r).map (c :: ·) := by rw [exR.eq_def]
def expandL (t u : List UInt8) : List UInt8 × Int :=
  if (partsO u).isSome = false then ([], 40) else match exR u t with
    | some o => (o, 0)
    | none => ([], 42)
theorem exR_front {u a : List UInt8} (h : ∀ x ∈ a, x ≠ 37) (r : List UInt8) : exR u (a ++ r) = (exR u r).map (a ++ ·) := by
  induction a with
  | nil => simp
  | cons x a ih =>
    have hx := h x (by simp)
    rw [List.cons_append, exR_cons, if_neg hx, ih fun y hy => h y (by simp [hy]), Option.map_map]
    rfl
theorem exR_plain {u a : List UInt8} (h : ∀ x ∈ a, x ≠ 37) : exR u a = some a := by
  have := exR_front (u := u) h []
  simpa [exR] using this
theorem specL_err (c : UInt8) (u : List UInt8) : (specL c u).2 = 0 ∨ specL c u = ([], 42) := by
  unfold specL
  split
  · exact .inl rfl
  · split
    · exact .inl rfl
    · split
      · exact .inl rfl
      · split
        · split
          · exact .inl rfl
          · exact .inr rfl
        · split
          · exact .inl rfl
          · exact .inr rfl
theorem rawU_len : ∀ (n : Nat) (l o : List UInt8), l.length ≤ n → rawU l = some o → o.length ≤ l.length := by
  intro n
  induction n with
  | zero =>
    intro l o hl h
    have : l = [] := List.eq_nil_of_length_eq_zero (by omega)
    subst this
    rw [rawU] at h; cases h; simp
  | succ n ih =>
    intro l o hl h
    cases l with
    | nil => rw [rawU] at h; cases h; simp
    | cons c r =>
      rw [rawU_cons] at h
      have hr : r.length ≤ n := by simpa using hl
      split at h
      · obtain ⟨o', h1, rfl⟩ := Option.map_eq_some_iff.1 h
        have := ih r o' hr h1
        simp; omega
      · split at h
        · obtain ⟨o', h1, rfl⟩ := Option.map_eq_some_iff.1 h
          have := ih r o' hr h1
          simp; omega
        · unfold hexT at h
          split at h
          · rename_i x y z r'
            split at h
            · obtain ⟨o', h1, rfl⟩ := Option.map_eq_some_iff.1 h
              have := ih r' o' (by simp at hr; omega) h1
              simp; omega
            · cases h
          · cases h
theorem unescL_len (l : List UInt8) : (unescL l).1.length ≤ l.length := by
  unfold unescL
  cases h : rawU l with
  | none => simp
  | some o =>
    dsimp only
    split
    · exact rawU_len _ _ _ (Nat.le_refl _) h
    · simp
theorem specL_len (c : UInt8) (u : List UInt8) : (specL c u).1.length ≤ u.length + 1 := by
  have h1 := pT_len u
  have h2 := unescL_len (pT u).2.1
  unfold specL
  split
  · simp
  · split
    · simp; omega
    · split
      · simp; omega
      · split
        · split
          · simp; omega
          · simp
        · split <;> simp
theorem byteCells_append (a b : List UInt8) : Lib.byteCells (a ++ b) = Lib.byteCells a ++ Lib.byteCells b := by simp [Lib.byteCells]
def ExRel (w : World) (s u : ByteArray) (b : Nat) (g : Nat) (v : Value) (W : World) : Prop :=
  ∃ r o : List UInt8, g = r.length ∧ v = .string (mkS r) ∧ exR u.data.toList s.data.toList = (exR u.data.toList r).map (o ++ ·) ∧ Lib.IsBuilder 43 5 b b (Lib.byteCells o) W ∧ Below w.heap.size w W ∧
    o.length + 1002 * r.length ≤ 1002 * s.size ∧ b ≤ W.heap.size
def ExPost (w : World) (s u : ByteArray) (e : Ending) (w' : World) : Prop :=
  e = .returned (.tuple #[.string (mkS (expandL s.data.toList u.data.toList).1), .int .i64 (expandL s.data.toList u.data.toList).2]) ∧ Below w.heap.size w w'
theorem ex_bad {w w' : World} {s u : ByteArray} {e : Ending} (h1 : Hid ((partsO u.data.toList).isSome = true)) (h : exR u.data.toList s.data.toList = none) (he : e = .returned (.tuple #[.string ⟨#[]⟩, .int .i64 42])) (hb : Below w.heap.size w w') : ExPost w s u e w' := by
  refine ⟨?_, hb⟩
  rw [expandL, if_neg (by rw [h1.out]; simp), h, he]; rfl
theorem ex_good {w w' : World} {s u : ByteArray} {e : Ending} {o : List UInt8} (h1 : Hid ((partsO u.data.toList).isSome = true)) (h : exR u.data.toList s.data.toList = some o) (he : e = .returned (.tuple #[.string (mkS o), .int .i64 0])) (hb : Below w.heap.size w w') : ExPost w s u e w' := by
  refine ⟨?_, hb⟩
  rw [expandL, if_neg (by rw [h1.out]; simp), h, he]

set_option maxHeartbeats 1000000 in
theorem expand_calls (s u : ByteArray) (hs : s.size ≤ 1000) (hu : u.size ≤ 1000) (w : World) : Calls Tryd.prog 9 #[.string s, .string u] w (ExPost w s u) := by
  rcases hok : (partsO u.data.toList).isSome with _ | _
  · have E : Hid (expandL s.data.toList u.data.toList = ([], 40)) := Lib.hid (by rw [expandL, if_pos hok])
    have HK := Lib.hid hok
    clear hok
    go_enter Tryd.func9, Tryd.ntmps9
    go_wp2_with (go_at_call 14; refine (is_calls u (by omega) _).mono ?_; rintro e w1 ⟨rfl, hb⟩; rw [HK.out])
    go_ret2
    exact ⟨by rw [E.out]; rfl, hb⟩
  · have HK := Lib.hid hok
    clear hok
    go_enter Tryd.func9, Tryd.ntmps9
    go_wp2_with (go_at_call 14; refine (is_calls u (by omega) _).mono ?_; rintro e w1 ⟨rfl, hb⟩; rw [HK.out])
    go_loopg [0] s.size (fun g v W => ExRel w s u w1.heap.size g v W)
    case atStart =>
      refine ⟨s.data.toList, [], Lib.size_eq s, by rw [mkS_data], by simp, Lib.fresh_isBuilder 43 5 w1, hb.alloc hb.size _, by rw [Lib.size_eq]; simp, by simp⟩
    case round =>
      obtain ⟨r, o, rfl, rfl, hex, hB, hbw, hlen, hbz⟩ := hrel
      have HEX := Lib.hid hex
      have HBu := Lib.hid hB
      have HBw := Lib.hid hbw
      have HL := Lib.hid hlen
      have HZ := Lib.hid hbz
      clear hex hB hbw hlen hbz
      by_cases hi : Lib.indexByte r 37 < 0
      · have hq : cutL 37 r = (r, [], false) := cutL_none (index_none hi)
        have CC : Hid (∀ W, Calls Tryd.prog 30 #[.string (mkS r), .string ⟨#[37]⟩] W fun e w' => e = .returned (.tuple #[.string (mkS r), .string (mkS []), .bool false]) ∧ Below W.heap.size W w') := Lib.hid fun W => by
          have := cut_calls (mkS r) 37 (by rw [size_mkS]; have := HL.out; omega) W
          rw [data_mkS, hq] at this; exact this
        have hr := exR_plain (u := u.data.toList) (index_none hi)
        have HR := Lib.hid hr
        clear hq hi hr
        go_wp2_with (go_at_call 30; refine (CC.out _).mono ?_; rintro e w2 ⟨rfl, hb2⟩)
        refine (writeString_calls w1.heap.size w1.heap.size _ _ _ (isBuilder_below HBu.out hb2) (by rw [Lib.byteCells_length, size_mkS]; have := HL.out; omega) (Nat.le_trans HZ.out hb2.size)).mono ?_
        rintro e w3 ⟨rfl, hb3, hb4⟩
        go_wp2_with fail
        rw [Lib.strCells_eq, data_mkS, ← byteCells_append] at hb3
        refine (Tryd.Builder_String_any w1.heap.size w1.heap.size _ _ (.inr hb3) (Nat.le_trans HZ.out (Nat.le_trans hb2.size hb4.size))).mono ?_
        rintro e w4 ⟨rfl, hb5⟩
        go_wp2_with fail
        go_ret2
        exact ex_good HK (by rw [HEX.out, HR.out]; rfl) rfl (((HBw.out.trans (hb2.mono HBw.out.size)).trans (hb4.mono hb.size)).trans (hb5.mono hb.size))
      · obtain ⟨i, hix⟩ := Int.eq_ofNat_of_zero_le (Int.not_lt.1 hi)
        obtain ⟨h1, h2, h3⟩ := index_parts hix
        obtain ⟨A, hA⟩ : ∃ A, r.take i = A := ⟨_, rfl⟩
        obtain ⟨R, hR⟩ : ∃ R, r.drop (i + 1) = R := ⟨_, rfl⟩
        rw [hA, hR] at h2
        rw [hA] at h3
        have hq : cutL 37 r = (A, R, true) := by rw [h2]; exact cutL_at _ _ h3
        have CC : Hid (∀ W, Calls Tryd.prog 30 #[.string (mkS r), .string ⟨#[37]⟩] W fun e w' => e = .returned (.tuple #[.string (mkS A), .string (mkS R), .bool true]) ∧ Below W.heap.size W w') := Lib.hid fun W => by
          have := cut_calls (mkS r) 37 (by rw [size_mkS]; have := HL.out; omega) W
          rw [data_mkS, hq] at this; exact this
        have hr : exR u.data.toList r = (exR u.data.toList (37 :: R)).map (A ++ ·) := by rw [h2]; exact exR_front h3 _
        have hrl : r.length = A.length + 1 + R.length := by rw [h2]; simp; omega
        have HR := Lib.hid hr
        have HRL := Lib.hid hrl
        clear hq hi hr h1 h2 h3 hA hR hix hrl
        cases R with
        | nil =>
          have hem : (mkS []).toList.isEmpty = true := by rw [Lib.toList_data, data_mkS]; rfl
          have hem2 : (mkS []).toList = [] := by rw [Lib.toList_data, data_mkS]
          go_wp2_with (go_at_call 30; refine (CC.out _).mono ?_; rintro e w2 ⟨rfl, hb2⟩)
          refine (writeString_calls w1.heap.size w1.heap.size _ _ _ (isBuilder_below HBu.out hb2) (by rw [Lib.byteCells_length, size_mkS]; have := HL.out; have := HRL.out; omega) (Nat.le_trans HZ.out hb2.size)).mono ?_
          rintro e w3 ⟨rfl, hb3, hb4⟩
          go_wp2_with fail
          go_ret2
          exact ex_bad HK (by rw [HEX.out, HR.out, exR_cons, if_pos rfl]; rfl) rfl ((HBw.out.trans (hb2.mono HBw.out.size)).trans (hb4.mono hb.size))
        | cons d R =>
          have hem : (mkS (d :: R)).toList.isEmpty = false := by rw [Lib.toList_data, data_mkS]; rfl
          have hem2 : ¬ (mkS (d :: R)).toList = [] := by rw [Lib.toList_data, data_mkS]; simp
          have hsz : (mkS (d :: R)).size = R.length + 1 := by rw [size_mkS]; rfl
          obtain ⟨⟨x, n⟩, hsp⟩ : ∃ q, specL d u.data.toList = q := ⟨_, rfl⟩
          have CS : Hid (∀ W, Calls Tryd.prog 33 #[.int .u8 (d.toNat : Int), .string u] W fun e w' => e = .returned (.tuple #[.string (mkS x), .int .i64 n]) ∧ Below W.heap.size W w') := Lib.hid fun W => by
            have := specifier_calls d u (by omega) W
            unfold SpecPost at this
            rw [hsp] at this; exact this
          have hxl := specL_len d u.data.toList
          rw [hsp, ← Lib.size_eq] at hxl
          have he := specL_err d u.data.toList
          rw [hsp] at he
          dsimp only at he hxl
          have HSP := Lib.hid hsp
          clear hsp
          have iA : ∀ W, (Instr.index 9 (.string (mkS (d :: R))) (.int .i64 0)).run Tryd.prog W = .ok (.int .u8 (d.toNat : Int)) W := fun W => index_at Tryd.underlying9 (j := 0) (by rw [hsz]; omega) rfl rfl W
          by_cases hn : n = 0
          · subst hn
            clear he
            go_wp2_with (go_at_call 30; refine (CC.out _).mono ?_; rintro e w2 ⟨rfl, hb2⟩)
            refine (writeString_calls w1.heap.size w1.heap.size _ _ _ (isBuilder_below HBu.out hb2) (by rw [Lib.byteCells_length, size_mkS]; have := HL.out; have := HRL.out; omega) (Nat.le_trans HZ.out hb2.size)).mono ?_
            rintro e w3 ⟨rfl, hb3, hb4⟩
            go_wp2_with fail
            refine (CS.out _).mono ?_
            rintro e w4 ⟨rfl, hb5⟩
            go_wp2_with fail
            rw [Lib.strCells_eq, data_mkS, ← byteCells_append] at hb3
            refine (writeString_calls w1.heap.size w1.heap.size _ _ _ (isBuilder_below (.inr hb3) hb5) (by rw [Lib.byteCells_length, List.length_append, size_mkS]; have := HL.out; have := HRL.out; omega) (Nat.le_trans HZ.out (Nat.le_trans hb2.size (Nat.le_trans hb4.size hb5.size)))).mono ?_
            rintro e w5 ⟨rfl, hb6, hb7⟩
            have hsl : (1 : Int) ≤ ((mkS (d :: R)).size : Int) := by rw [hsz]; omega
            go_wp2_with fail
            go_roundg R.length
            case rel =>
              rw [Lib.strCells_eq, data_mkS, ← byteCells_append] at hb6
              refine ⟨R, o ++ A ++ x, rfl, ?_, ?_, .inr hb6, (((HBw.out.trans (hb2.mono HBw.out.size)).trans (hb4.mono hb.size)).trans (hb5.mono (by have := hb.size; have := hb4.size; have := hb2.size; have := HZ.out; omega))).trans (hb7.mono hb.size), ?_, ?_⟩
              · congr 1
                rw [← hsz, Lib.extract_from, data_mkS]; rfl
              · rw [HEX.out, HR.out, exR_cons, if_pos rfl]
                dsimp only
                rw [HSP.out, if_pos rfl]
                simp [Option.map_map, Function.comp_def]
              · have := HL.out
                have := HRL.out
                simp only [List.length_append, List.length_cons] at this ⊢
                omega
              · have := HZ.out; have := hb2.size; have := hb4.size; have := hb5.size; have := hb7.size; omega
            case measure => have := HRL.out; simp at this; omega
          · rcases he with he | he
            · exact absurd he hn
            · cases he
              clear hn
              go_wp2_with (go_at_call 30; refine (CC.out _).mono ?_; rintro e w2 ⟨rfl, hb2⟩)
              refine (writeString_calls w1.heap.size w1.heap.size _ _ _ (isBuilder_below HBu.out hb2) (by rw [Lib.byteCells_length, size_mkS]; have := HL.out; have := HRL.out; omega) (Nat.le_trans HZ.out hb2.size)).mono ?_
              rintro e w3 ⟨rfl, hb3, hb4⟩
              go_wp2_with fail
              refine (CS.out _).mono ?_
              rintro e w4 ⟨rfl, hb5⟩
              go_wp2_with fail
              go_ret2
              exact ex_bad HK (by rw [HEX.out, HR.out, exR_cons, if_pos rfl]; dsimp only; rw [HSP.out]; rfl) rfl (((HBw.out.trans (hb2.mono HBw.out.size)).trans (hb4.mono hb.size)).trans (hb5.mono (by have := hb.size; have := hb4.size; have := hb2.size; have := HZ.out; omega)))
end Go.Proofs.YtgppdndpnflkeaaDoor
