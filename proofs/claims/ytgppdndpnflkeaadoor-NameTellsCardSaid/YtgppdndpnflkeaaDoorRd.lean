/- Contracts of the reference: a name's kind, and what follows of it. -/
import Derived.Test.YtgppdndpnflkeaaDoorRc
namespace Go.Proofs.YtgppdndpnflkeaaDoor
open Go.RowKit Go.Rv

def stemB (c : UInt8) : Bool := c == 64 || goodB c
theorem goodB_is (c : UInt8) : goodB c = (alnumB c || c == 58 || c == 45 || c == 95 || c == 46 || c == 92) :=
  all_u8 (p := fun c => goodB c = (alnumB c || c == 58 || c == 45 || c == 95 || c == 46 || c == 92)) (by decide +kernel) c
/-- The reference's kind. -/
def kindL (l : List UInt8) : Nat :=
  if (partedL l).2 = 0 ∨ 60 < l.length ∨ (partedL l).1 = [] then 0
  else if (partedL l).1.all stemB = false then 0
  else if 1 < (partedL l).1.count 64 ∨ (partedL l).1.head? = some 64 then 0 else (partedL l).2
theorem goodAll_no {l : List UInt8} (h : goodAll l = true) : ∀ x ∈ l, x ≠ 64 := by
  intro x hx e
  subst e
  have := List.all_eq_true.1 h _ hx
  revert this
  decide +kernel
theorem stem_good {l : List UInt8} (h : goodAll l = true) : l.all stemB = true := by
  rw [List.all_eq_true]
  intro x hx
  simp [stemB, List.all_eq_true.1 h x hx]
theorem good_stem {l : List UInt8} (h : l.all stemB = true) (h2 : ∀ x ∈ l, x ≠ 64) : goodAll l = true := by
  rw [goodAll, List.all_eq_true]
  intro x hx
  have := List.all_eq_true.1 h x hx
  simpa [stemB, h2 x hx] using this
theorem count_no {l : List UInt8} (h : ∀ x ∈ l, x ≠ 64) : l.count 64 = 0 := List.count_eq_zero.2 fun h2 => h _ h2 rfl
/-- The reference's kind and the program's are the same; a name's parts are the stem's. -/
theorem kind_same (l : List UInt8) : kindL l = (pT l).2.2.2 ∧ (kindL l ≠ 0 ↔ (partsO l).isSome = true) ∧ (kindL l ≠ 0 → (partedL l).1 = stemL (pT l).1 (pT l).2.1 (pT l).2.2.1 ∧ (∀ x ∈ (pT l).1, x ≠ 64) ∧ tailL l = endL.getD (kindL l - 1) [] ∧ kindL l ≤ 6 ∧ ((pT l).2.2.1 = false → (pT l).2.1 = [])) := by
  unfold kindL pT partsO partedL
  cases hd : dotO l with
  | none => simp
  | some q =>
    obtain ⟨a, b⟩ := q
    dsimp only
    by_cases hK : endK b = 0
    · simp only [if_pos hK, Parted.of_def]
      by_cases hl : l.length > 60 <;> simp [hl]
    · simp only [if_neg hK]
      by_cases hl : l.length > 60
      · simp [hl]
      · rw [if_neg hl, Parted.of_def, if_neg hK]
        have hl2 : ¬ 60 < l.length := hl
        have ht : tailL l = endL.getD (endK b - 1) [] := by
          rw [tailL, hd]
          dsimp only
          have hm := (endN_mem b endL 1 (by omega)).1 hK
          obtain ⟨j, hj, he⟩ := List.getElem_of_mem hm
          have hj6 : j < 6 := hj
          have hg : endL.getD j [] = b := by rw [List.getD_eq_getElem?_getD, List.getElem?_eq_getElem hj, Option.getD_some, he]
          obtain ⟨_, _, _, h3, _⟩ := end_shape j hj6
          rw [hg] at h3
          rw [h3, Nat.add_sub_cancel, hg]
        have h6 := endK_le b
        by_cases h64 : ∀ x ∈ a, x ≠ 64
        · rw [cutL_none h64]
          dsimp only
          by_cases ha : a = []
          · subst ha; simp [hK]
          · have hh : a.head? ≠ some 64 := fun e => h64 64 (List.mem_of_head? e) rfl
            rcases hg : goodAll a with _ | _
            · have : a.all stemB = false := by
                cases h : a.all stemB with
                | false => rfl
                | true => rw [good_stem h h64] at hg; cases hg
              simp [ha, this, hl2, hK]
            · have h1 := stem_good hg
              have h2 := count_no h64
              rw [if_neg (show ¬ a.isEmpty = true by simpa using ha), if_neg (show ¬ true = false by simp), if_neg (show ¬ goodAll [] = false by simp [goodAll])]
              simp only [ha, h1, h2, hh, hl2, hK, ht, stemL]
              refine ⟨by simp, by simp [hK], fun _ => ⟨by simp, ?_, by simp, by simpa using h6, by simp⟩⟩
              simpa using h64
        · obtain ⟨x, y, hxy, hx⟩ : ∃ x y, a = x ++ 64 :: y ∧ ∀ c ∈ x, c ≠ 64 := by
            by_cases hi : Lib.indexByte a 64 < 0
            · exact absurd (index_none hi) h64
            · obtain ⟨i, hix⟩ := Int.eq_ofNat_of_zero_le (Int.not_lt.1 hi)
              obtain ⟨_, h2, h3⟩ := index_parts hix
              exact ⟨_, _, h2, h3⟩
          rw [hxy, cutL_at x y hx]
          dsimp only
          have hne : x ++ 64 :: y ≠ [] := by simp
          by_cases hx0 : x = []
          · subst hx0
            simp [hl2, hK]
          · have hh : (x ++ 64 :: y).head? ≠ some 64 := by
              cases x with
              | nil => exact absurd rfl hx0
              | cons c x => simpa using hx c (by simp)
            have hc : (x ++ 64 :: y).count 64 = 1 + y.count 64 := by
              rw [List.count_append, count_no hx, List.count_cons]; simp; omega
            have hall : (x ++ 64 :: y).all stemB = (x.all stemB && y.all stemB) := by
              rw [List.all_append, List.all_cons]
              simp [stemB]
            rcases hg : goodAll x with _ | _
            · have : x.all stemB = false := by
                cases h : x.all stemB with
                | false => rfl
                | true => rw [good_stem h hx] at hg; cases hg
              simp [hne, hall, this, hl2, hK, hx0]
            · have h1 := stem_good hg
              rcases hgy : goodAll y with _ | _
              · by_cases hy : ∀ c ∈ y, c ≠ 64
                · have : y.all stemB = false := by
                    cases h : y.all stemB with
                    | false => rfl
                    | true => rw [good_stem h hy] at hgy; cases hgy
                  simp [hne, hall, h1, this, hl2, hK, hx0]
                · have hcy : 1 ≤ y.count 64 := by
                    rcases Nat.eq_zero_or_pos (y.count 64) with h | h
                    · exact absurd (fun c hc e => by subst e; exact List.count_eq_zero.1 h hc) hy
                    · exact h
                  have : 1 < 1 + y.count 64 := by omega
                  simp [hne, hc, this, hl2, hK, hx0]
              · have h2 := stem_good hgy
                have h3 := count_no (goodAll_no hgy)
                rw [if_neg (show ¬ x.isEmpty = true by simpa using hx0), if_neg (show ¬ true = false by simp)]
                simp only [hne, hall, h1, h2, hc, h3, hh, hl2, hK, ht, stemL]
                refine ⟨by simp, by simp [hK], fun _ => ⟨by simp, ?_, by simp, by simpa using h6, by simp⟩⟩
                simpa using hx

theorem mkS_at {l : List UInt8} {k : Nat} {c : UInt8} (h : l[k]? = some c) (hk : k < (mkS l).size) : (mkS l)[k] = c := by
  have := Lib.data_getElem? (mkS l) k hk
  rw [data_mkS, h] at this
  exact (Option.some.inj this).symm
theorem partedL_len (l : List UInt8) : (partedL l).1.length ≤ l.length := by
  unfold partedL
  cases hd : dotO l with
  | none => simp
  | some q =>
    obtain ⟨a, b⟩ := q
    dsimp only
    split
    · simp
    · have := congrArg List.length (dotO_app hd)
      rw [List.length_append] at this
      dsimp only
      omega
def KdRel (a : List UInt8) (v i : Value) : Prop := ∃ k : Nat, k ≤ a.length ∧ i = .int .i64 k ∧ v = .int .i64 (((a.take k).count 64 : Nat) : Int) ∧ Hid ((a.take k).all stemB = true)
theorem kd_next {a : List UInt8} {k : Nat} {c : UInt8} (h : Hid ((a.take k).all stemB = true)) (hc : a[k]? = some c) (hs : stemB c = true) : Hid ((a.take (k + 1)).all stemB = true) :=
  Lib.hid (by rw [List.take_add_one, List.all_append, h.out, hc]; simp [hs])
theorem kd_count {a : List UInt8} {k : Nat} {c : UInt8} (hc : a[k]? = some c) : (a.take (k + 1)).count 64 = (a.take k).count 64 + if c = 64 then 1 else 0 := by
  rw [List.take_add_one, List.count_append, hc]
  simp [List.count_cons]
def KdPost (s : ByteArray) (w : World) (e : Ending) (w' : World) : Prop := e = .returned (.int .i64 (kindL s.data.toList : Int)) ∧ Below w.heap.size w w'
theorem kd_end {s : ByteArray} {w w' : World} {e : Ending} {n : Nat} (h : Hid (kindL s.data.toList = n)) (he : e = .returned (.int .i64 (n : Int))) (hb : Below w.heap.size w w') : KdPost s w e w' := ⟨by rw [h.out, he], hb⟩

set_option maxHeartbeats 1000000 in
theorem kindR_calls (s : ByteArray) (hs : s.size ≤ 1000000) (w : World) : Calls Tryd.prog 19 #[.string s] w (KdPost s w) := by
  obtain ⟨⟨a, K⟩, hp⟩ : ∃ q, partedL s.data.toList = q := ⟨_, rfl⟩
  have CP : Hid (∀ W, Calls Tryd.prog 40 #[.string s] W fun e w' => e = .returned (.tuple #[.string (mkS a), .int .i64 (K : Int)]) ∧ Below W.heap.size W w') := Lib.hid fun W => by
    have := parted_calls s hs W
    unfold PdPost at this
    rw [hp] at this; exact this
  have hk : kindL s.data.toList = if K = 0 ∨ 60 < s.size ∨ a = [] then 0 else if a.all stemB = false then 0 else if 1 < a.count 64 ∨ a.head? = some 64 then 0 else K := by
    rw [kindL, hp, Lib.size_eq]
  have HK := Lib.hid hk
  have hpp := Lib.hid hp
  clear hk hp
  by_cases hK0 : K = 0
  · have E : Hid (kindL s.data.toList = 0) := Lib.hid (by rw [HK.out, if_pos (.inl hK0)])
    subst hK0
    go_enter Tryd.func19, Tryd.ntmps19
    go_wp2_with (go_at_call 40; refine (CP.out _).mono ?_; rintro e w1 ⟨rfl, hb⟩)
    go_ret
    exact kd_end E rfl hb
  have hKb : ((K : Int) == 0) = false := by simp [hK0]
  by_cases hl : (60 : Int) < (s.size : Int)
  · have E : Hid (kindL s.data.toList = 0) := Lib.hid (by rw [HK.out, if_pos (.inr (.inl (by omega)))])
    have HK0 := Lib.hid hK0
    clear hK0
    go_enter Tryd.func19, Tryd.ntmps19
    go_wp2_with (go_at_call 40; refine (CP.out _).mono ?_; rintro e w1 ⟨rfl, hb⟩)
    go_ret
    exact kd_end E rfl hb
  cases a with
  | nil =>
    have E : Hid (kindL s.data.toList = 0) := Lib.hid (by rw [HK.out, if_pos (.inr (.inr rfl))])
    have HK0 := Lib.hid hK0
    have hem : (mkS []).toList.isEmpty = true := by rw [Lib.toList_data, data_mkS]; rfl
    have hem2 : (mkS []).toList = [] := by rw [Lib.toList_data, data_mkS]
    clear hK0
    go_enter Tryd.func19, Tryd.ntmps19
    go_wp2_with (go_at_call 40; refine (CP.out _).mono ?_; rintro e w1 ⟨rfl, hb⟩)
    go_ret
    exact kd_end E rfl hb
  | cons c0 a0 =>
    have hk2 : kindL s.data.toList = if (c0 :: a0).all stemB = false then 0 else if 1 < (c0 :: a0).count 64 ∨ (c0 :: a0).head? = some 64 then 0 else K := by
      rw [HK.out, if_neg]
      simp [hK0]
      omega
    have h00 : (c0 :: a0)[0]? = some c0 := rfl
    have hem : (mkS (c0 :: a0)).toList.isEmpty = false := by rw [Lib.toList_data, data_mkS]; rfl
    have hem2 : ¬ (mkS (c0 :: a0)).toList = [] := by rw [Lib.toList_data, data_mkS]; simp
    have hh : (c0 :: a0).head? = some c0 := rfl
    rw [hh] at hk2
    have hln : 0 < (c0 :: a0).length := by simp
    have hal : (c0 :: a0).length ≤ 1000000 := by
      have := partedL_len s.data.toList
      rw [hpp.out, ← Lib.size_eq] at this
      dsimp only at this
      omega
    obtain ⟨a, ha⟩ : ∃ a, c0 :: a0 = a := ⟨_, rfl⟩
    rw [ha] at hk2 h00 hem hem2 CP hln hal
    have hsz : (mkS a).size = a.length := size_mkS a
    have HK2 := Lib.hid hk2
    have H00 := Lib.hid h00
    have HK0 := Lib.hid hK0
    clear ha hk2 HK hK0 hh
    go_enter Tryd.func19, Tryd.ntmps19
    go_wp2_with (go_at_call 40; refine (CP.out _).mono ?_; rintro e w1 ⟨rfl, hb⟩)
    go_loop [5, 6] (fun v i => KdRel a v i) (fun _ i => a.length - (intOf i).toNat)
    case atStart => exact ⟨0, by omega, rfl, by simp, Lib.hid rfl⟩
    case round =>
      obtain ⟨k, hk, rfl, rfl, Hall⟩ := hrel
      by_cases hlt : (k : Int) < (a.length : Int)
      · have hkl : k < (mkS a).size := by rw [size_mkS]; omega
        obtain ⟨x, hx⟩ : ∃ x, a[k]? = some x := ⟨_, List.getElem?_eq_getElem (by omega)⟩
        have hxx : ∀ h, (mkS a)[k]'h = x := fun h => mkS_at hx h
        have Hx := Lib.hid hx
        clear hx
        have hcl : (List.take k a).count 64 ≤ 1000000 := by
          have := List.count_le_length (a := (64 : UInt8)) (l := List.take k a)
          rw [List.length_take] at this
          omega
        obtain ⟨m, hm⟩ : ∃ m, (List.take k a).count 64 = m := ⟨_, rfl⟩
        rw [hm] at hcl
        rw [hm]
        have HM := Lib.hid hm
        clear hm
        by_cases h64 : x = 64
        · subst h64
          go_wp2
          go_round
          case rel => exact ⟨k + 1, by omega, by go_num, by rw [kd_count Hx.out, HM.out, if_pos rfl]; go_num, kd_next Hall Hx.out (by decide +kernel)⟩
          case measure => simp [intOf]; omega
        · have n64 : ¬ (x.toNat : Int) = 64 := ne_u8 (n := 64) (by decide) h64
          have H64 := Lib.hid h64
          clear h64
          rcases hal2 : alnumB x with _ | _
          · skip
            by_cases h58 : x = 58
            · subst h58
              have Ha : Hid (alnum 58 = false) := Lib.hid (by decide)
              clear hal2
              go_wp2_with (go_at_call 42; refine (alnum_calls _ _).mono ?_; rintro e w2 ⟨rfl, rfl⟩; rw [Ha.out])
              go_round
              case rel => exact ⟨k + 1, by omega, by go_num, by rw [kd_count Hx.out, HM.out, if_neg (by decide)]; rfl, kd_next Hall Hx.out (by decide +kernel)⟩
              case measure => simp [intOf]; omega
            by_cases h45 : x = 45
            · subst h45
              have Ha : Hid (alnum 45 = false) := Lib.hid (by decide)
              clear hal2
              go_wp2_with (go_at_call 42; refine (alnum_calls _ _).mono ?_; rintro e w2 ⟨rfl, rfl⟩; rw [Ha.out])
              go_round
              case rel => exact ⟨k + 1, by omega, by go_num, by rw [kd_count Hx.out, HM.out, if_neg (by decide)]; rfl, kd_next Hall Hx.out (by decide +kernel)⟩
              case measure => simp [intOf]; omega
            by_cases h95 : x = 95
            · subst h95
              have Ha : Hid (alnum 95 = false) := Lib.hid (by decide)
              clear hal2
              go_wp2_with (go_at_call 42; refine (alnum_calls _ _).mono ?_; rintro e w2 ⟨rfl, rfl⟩; rw [Ha.out])
              go_round
              case rel => exact ⟨k + 1, by omega, by go_num, by rw [kd_count Hx.out, HM.out, if_neg (by decide)]; rfl, kd_next Hall Hx.out (by decide +kernel)⟩
              case measure => simp [intOf]; omega
            by_cases h46 : x = 46
            · subst h46
              have Ha : Hid (alnum 46 = false) := Lib.hid (by decide)
              clear hal2
              go_wp2_with (go_at_call 42; refine (alnum_calls _ _).mono ?_; rintro e w2 ⟨rfl, rfl⟩; rw [Ha.out])
              go_round
              case rel => exact ⟨k + 1, by omega, by go_num, by rw [kd_count Hx.out, HM.out, if_neg (by decide)]; rfl, kd_next Hall Hx.out (by decide +kernel)⟩
              case measure => simp [intOf]; omega
            by_cases h92 : x = 92
            · subst h92
              have Ha : Hid (alnum 92 = false) := Lib.hid (by decide)
              clear hal2
              go_wp2_with (go_at_call 42; refine (alnum_calls _ _).mono ?_; rintro e w2 ⟨rfl, rfl⟩; rw [Ha.out])
              go_round
              case rel => exact ⟨k + 1, by omega, by go_num, by rw [kd_count Hx.out, HM.out, if_neg (by decide)]; rfl, kd_next Hall Hx.out (by decide +kernel)⟩
              case measure => simp [intOf]; omega
            have HB : Hid (stemB x = false) := Lib.hid (by rw [stemB, goodB_is, hal2]; simp [h58, h45, h95, h46, h92, H64.out])
            have E : Hid (kindL s.data.toList = 0) := Lib.hid (by
              rw [HK2.out, if_pos]
              rw [List.all_eq_false]
              exact ⟨x, List.mem_of_getElem? Hx.out, by rw [HB.out]; simp⟩)
            have Ha : Hid (alnum (x.toNat : Int) = false) := Lib.hid hal2
            have m58 : ((x.toNat : Int) != 58) = true := by have := ne_u8 (n := 58) (by decide) h58; simpa using this
            have m45 : ((x.toNat : Int) != 45) = true := by have := ne_u8 (n := 45) (by decide) h45; simpa using this
            have m95 : ((x.toNat : Int) != 95) = true := by have := ne_u8 (n := 95) (by decide) h95; simpa using this
            have m46 : ((x.toNat : Int) != 46) = true := by have := ne_u8 (n := 46) (by decide) h46; simpa using this
            have m92 : ((x.toNat : Int) != 92) = true := by have := ne_u8 (n := 92) (by decide) h92; simpa using this
            clear hal2 h58 h45 h95 h46 h92
            go_wp2_with (go_at_call 42; refine (alnum_calls _ _).mono ?_; rintro e w2 ⟨rfl, rfl⟩; rw [Ha.out])
            go_ret
            exact kd_end E rfl hb
          · have Ha : Hid (alnum (x.toNat : Int) = true) := Lib.hid hal2
            have HB : Hid (stemB x = true) := Lib.hid (by rw [stemB, goodB_is, hal2]; simp)
            clear hal2
            go_wp2_with (go_at_call 42; refine (alnum_calls _ _).mono ?_; rintro e w2 ⟨rfl, rfl⟩; rw [Ha.out])
            go_round
            case rel => exact ⟨k + 1, by omega, by go_num, by rw [kd_count Hx.out, HM.out, if_neg H64.out]; rfl, kd_next Hall Hx.out HB.out⟩
            case measure => simp [intOf]; omega
      · obtain rfl : k = a.length := by omega
        rw [List.take_length] at Hall ⊢
        have hx0 : ∀ h, (mkS a)[0]'h = c0 := fun h => mkS_at H00.out h
        have h0s : (0 : Int) < (a.length : Int) := by omega
        obtain ⟨m, hm⟩ : ∃ m, a.count 64 = m := ⟨_, rfl⟩
        rw [hm]
        have hk3 : kindL s.data.toList = if 1 < m ∨ some c0 = some 64 then 0 else K := by rw [HK2.out, if_neg (by rw [Hall.out]; simp), hm]
        have HK3 := Lib.hid hk3
        have HM := Lib.hid hm
        clear hk3 hm
        by_cases hm1 : (1 : Int) < (m : Int)
        · have E : Hid (kindL s.data.toList = 0) := Lib.hid (by rw [HK3.out, if_pos (.inl (by omega))])
          go_wp2
          go_ret
          exact kd_end E rfl hb
        · by_cases h64 : c0 = 64
          · subst h64
            have E : Hid (kindL s.data.toList = 0) := Lib.hid (by rw [HK3.out, if_pos (.inr rfl)])
            go_wp2
            go_ret
            exact kd_end E rfl hb
          · have n64 : ¬ (c0.toNat : Int) = 64 := ne_u8 (n := 64) (by decide) h64
            have m64 : ((c0.toNat : Int) == 64) = false := by simpa using n64
            have E : Hid (kindL s.data.toList = K) := Lib.hid (by
              rw [HK3.out, if_neg]
              rintro (h | h)
              · omega
              · exact h64 (Option.some.inj h))
            clear h64
            go_wp2
            go_ret
            exact kd_end E rfl hb
end Go.Proofs.YtgppdndpnflkeaaDoor
