/- Contracts of the tree's functions. -/
import Derived.Test.YtopfgaogfnepfaaDoorTa
import Derived.StillTailTactics
import Derived.Deep.QuietTactic
import Derived.BigQuiet
namespace Go.Proofs.YtopfgaogfnepfaaDoor
open Go.RowKit Go.Rv

theorem T41 : MapTy Tryd.prog 41 9 4 Value.string Value.bool false :=
  ⟨Maps.string_keyed Tryd.underlying9, inj_string, Tryd.underlying41, fun _ => by kernel_rfl⟩
theorem T42 : MapTy Tryd.prog 42 9 3 Value.string (Value.int .i64) 0 :=
  ⟨Maps.string_keyed Tryd.underlying9, inj_string, Tryd.underlying42, fun _ => by kernel_rfl⟩
theorem T43 : MapTy Tryd.prog 43 9 9 Value.string Value.string ByteArray.empty :=
  ⟨Maps.string_keyed Tryd.underlying9, inj_string, Tryd.underlying43, fun _ => by kernel_rfl⟩

/-- A tree: its three maps. -/
structure TreeAt (w : World) (bt b1 b2 b3 : Nat) (th : List (ByteArray × Bool)) (st : List (ByteArray × Int)) (mo : List (ByteArray × ByteArray)) : Prop where
  obj : w.heap[bt]? = some (.cells #[.map (some b1), .map (some b2), .map (some b3)] 45)
  there : MapAt Tryd.prog 9 Value.string Value.bool w b1 th
  stamps : MapAt Tryd.prog 9 Value.string (Value.int .i64) w b2 st
  mounts : MapAt Tryd.prog 9 Value.string Value.string w b3 mo
  ne12 : b1 ≠ b2
  ne13 : b1 ≠ b3
  ne23 : b2 ≠ b3

section
variable {w w' : World} {bt b1 b2 b3 : Nat} {th : List (ByteArray × Bool)} {st : List (ByteArray × Int)} {mo : List (ByteArray × ByteArray)}
theorem TreeAt.keep {S : Nat → Prop} (h : TreeAt w bt b1 b2 b3 th st mo) (hu : Upd S w w') (n0 : ¬ S bt) (n1 : ¬ S b1) (n2 : ¬ S b2) (n3 : ¬ S b3) : TreeAt w' bt b1 b2 b3 th st mo :=
  ⟨hu.at h.obj n0, h.there.keep hu n1, h.stamps.keep hu n2, h.mounts.keep hu n3, h.ne12, h.ne13, h.ne23⟩
theorem TreeAt.below (h : TreeAt w bt b1 b2 b3 th st mo) (hb : Below w.heap.size w w') : TreeAt w' bt b1 b2 b3 th st mo :=
  h.keep (Upd.of_below_all hb fun _ => False) id id id id
theorem TreeAt.drewN (h : TreeAt w bt b1 b2 b3 th st mo) (n : Nat) : TreeAt (w.drewN n) bt b1 b2 b3 th st mo :=
  h.keep ((Upd.refl (fun _ => False) w).drewN n) id id id id
theorem TreeAt.c0 (h : TreeAt w bt b1 b2 b3 th st mo) : w.cell? ⟨bt, 0, none⟩ = some (.map (some b1)) := by rw [hp_cell h.obj]; rfl
theorem TreeAt.c1 (h : TreeAt w bt b1 b2 b3 th st mo) : w.cell? ⟨bt, 1, none⟩ = some (.map (some b2)) := by rw [hp_cell h.obj]; rfl
theorem TreeAt.c2 (h : TreeAt w bt b1 b2 b3 th st mo) : w.cell? ⟨bt, 2, none⟩ = some (.map (some b3)) := by rw [hp_cell h.obj]; rfl
theorem TreeAt.n1 (h : TreeAt w bt b1 b2 b3 th st mo) : bt ≠ b1 := fun e => by obtain ⟨es, c, hb, _⟩ := h.there; have := h.obj; rw [e, hb] at this; cases this
theorem TreeAt.n2 (h : TreeAt w bt b1 b2 b3 th st mo) : bt ≠ b2 := fun e => by obtain ⟨es, c, hb, _⟩ := h.stamps; have := h.obj; rw [e, hb] at this; cases this
theorem TreeAt.n3 (h : TreeAt w bt b1 b2 b3 th st mo) : bt ≠ b3 := fun e => by obtain ⟨es, c, hb, _⟩ := h.mounts; have := h.obj; rw [e, hb] at this; cases this
theorem TreeAt.put1 {th' : List (ByteArray × Bool)} (h : TreeAt w bt b1 b2 b3 th st mo) (ht : MapAt Tryd.prog 9 Value.string Value.bool w' b1 th') (hu : Upd (fun i => i = b1) w w') : TreeAt w' bt b1 b2 b3 th' st mo :=
  ⟨hu.at h.obj h.n1, ht, h.stamps.keep hu (Ne.symm h.ne12), h.mounts.keep hu (Ne.symm h.ne13), h.ne12, h.ne13, h.ne23⟩
theorem TreeAt.put2 {st' : List (ByteArray × Int)} (h : TreeAt w bt b1 b2 b3 th st mo) (ht : MapAt Tryd.prog 9 Value.string (Value.int .i64) w' b2 st') (hu : Upd (fun i => i = b2) w w') : TreeAt w' bt b1 b2 b3 th st' mo :=
  ⟨hu.at h.obj h.n2, h.there.keep hu h.ne12, ht, h.mounts.keep hu (Ne.symm h.ne23), h.ne12, h.ne13, h.ne23⟩
theorem TreeAt.put3 {mo' : List (ByteArray × ByteArray)} (h : TreeAt w bt b1 b2 b3 th st mo) (ht : MapAt Tryd.prog 9 Value.string Value.string w' b3 mo') (hu : Upd (fun i => i = b3) w w') : TreeAt w' bt b1 b2 b3 th st mo' :=
  ⟨hu.at h.obj h.n3, h.there.keep hu h.ne13, h.stamps.keep hu h.ne23, ht, h.ne12, h.ne13, h.ne23⟩

/-- The blocks of a tree. -/
def TS (b1 b2 b3 : Nat) (k : Nat) : Prop := k = b1 ∨ k = b2 ∨ k = b3

/-- Exists -/
theorem exists_calls (s : ByteArray) (hs : s.size ≤ 9223372036854775807) (h : TreeAt w bt b1 b2 b3 th st mo) :
    Calls Tryd.prog 9 #[.pointer (some ⟨bt, 0, none⟩), .string s] w fun e w' => e = .returned (.bool (kget th s).isSome) ∧ w = w' := by
  have c0 := h.c0
  have hk := kok_string Tryd.underlying9 hs
  go_enter Tryd.func9, Tryd.ntmps9
  go_wp2_with (at_lookup; refine wpList_look2 _ rfl _ _ 41 rfl T41 b1 th rfl h.there _ rfl hk ?_)
  go_ret
  exact ⟨rfl, rfl⟩

/-- Stamp -/
theorem stamp_calls (s : ByteArray) (hs : s.size ≤ 9223372036854775807) (h : TreeAt w bt b1 b2 b3 th st mo) :
    Calls Tryd.prog 10 #[.pointer (some ⟨bt, 0, none⟩), .string s] w fun e w' => e = .returned (.int .i64 ((kget st s).getD 0)) ∧ w = w' := by
  have c1 := h.c1
  have hk := kok_string Tryd.underlying9 hs
  go_enter Tryd.func10, Tryd.ntmps10
  go_wp2_with (at_lookup; refine wpList_look1 _ rfl _ _ 42 rfl T42 b2 st rfl h.stamps _ rfl hk ?_)
  go_ret
  exact ⟨rfl, rfl⟩

/-- Mounted -/
theorem mounted_calls (s : ByteArray) (hs : s.size ≤ 9223372036854775807) (h : TreeAt w bt b1 b2 b3 th st mo) :
    Calls Tryd.prog 15 #[.pointer (some ⟨bt, 0, none⟩), .string s] w fun e w' => e = .returned (.tuple #[.string ((kget mo s).getD ByteArray.empty), .bool (kget mo s).isSome]) ∧ w = w' := by
  have c2 := h.c2
  have hk := kok_string Tryd.underlying9 hs
  go_enter Tryd.func15, Tryd.ntmps15
  go_wp2_with (at_lookup; refine wpList_look2 _ rfl _ _ 43 rfl T43 b3 mo rfl h.mounts _ rfl hk ?_)
  go_ret2
  exact ⟨rfl, rfl⟩

/-- A path's folder. -/
def folderOf (s : ByteArray) : ByteArray :=
  if 0 < Lib.lastIndexByte s 47 then s.extract 0 (Lib.lastIndexByte s 47).toNat else ⟨#[47]⟩

theorem lastIndexByte_le (s : ByteArray) (c : Int) : -1 ≤ Lib.lastIndexByte s c ∧ Lib.lastIndexByte s c ≤ s.size := by
  rcases Lib.lastIndexByte_spec s c with ⟨h, _⟩ | ⟨i, hi, h, _⟩
  · rw [h]; omega
  · rw [h]; omega

theorem folder_calls (s : ByteArray) (hs : s.size < 4611686018427387904) (w : World) :
    Calls Tryd.prog 17 #[.string s] w fun e w' => e = .returned (.string (folderOf s)) ∧ w = w' := by
  have hle := lastIndexByte_le s 47
  by_cases h : 0 < Lib.lastIndexByte s 47
  · have h0 : 0 ≤ Lib.lastIndexByte s 47 := by omega
    have h1 : Lib.lastIndexByte s 47 ≤ (s.size : Int) := by omega
    go_enter Tryd.func17, Tryd.ntmps17
    go_wp2_with (go_at_call 26; refine (Tryd.strings_LastIndexByte _ _ hs _).mono ?_; rintro e w' ⟨rfl, rfl⟩)
    go_ret
    exact ⟨by rw [folderOf, if_pos h]; rfl, rfl⟩
  · go_enter Tryd.func17, Tryd.ntmps17
    go_wp2_with (go_at_call 26; refine (Tryd.strings_LastIndexByte _ _ hs _).mono ?_; rintro e w' ⟨rfl, rfl⟩)
    go_ret
    exact ⟨by rw [folderOf, if_neg (by omega)]; rfl, rfl⟩

theorem folderOf_size (s : ByteArray) : (folderOf s).size ≤ s.size + 1 := by
  unfold folderOf
  split
  · have := lastIndexByte_le s 47; simp; omega
  · show 1 ≤ _; omega

/-- changes -/
def chg (st : List (ByteArray × Int)) (s : ByteArray) : List (ByteArray × Int) :=
  let st1 := kput st s (wrap64 ((kget st s).getD 0 + 1))
  kput st1 (folderOf s) (wrap64 ((kget st1 (folderOf s)).getD 0 + 1))

theorem changes_calls (s : ByteArray) (hs : s.size < 4611686018427387904) (h : TreeAt w bt b1 b2 b3 th st mo) :
    Calls Tryd.prog 18 #[.pointer (some ⟨bt, 0, none⟩), .string s] w fun e w' => e = .returned (.tuple #[]) ∧ TreeAt w' bt b1 b2 b3 th (chg st s) mo ∧ Upd (fun i => i = b2) w w' := by
  have c1 := h.c1
  have hk := kok_string Tryd.underlying9 (s := s) (by omega)
  have hk2 := kok_string Tryd.underlying9 (s := folderOf s) (by have := folderOf_size s; omega)
  go_enter Tryd.func18, Tryd.ntmps18
  go_wp2_with (first
    | (at_lookup; refine wpList_look1 _ rfl _ _ 42 rfl T42 b2 st rfl h.stamps _ rfl hk ?_)
    | (at_mapUpdate; refine wpList_upd _ rfl _ _ _ 42 rfl T42 b2 st rfl h.stamps _ rfl hk _ rfl ?_; intro w1 hat1 hu1 hs1; have h1 := h.put2 hat1 hu1; have d1 := h1.c1))
  have hl : (Instr.lookup 42 (.map (some b2)) (.string (folderOf s)) false).run Tryd.prog w1.drew = .ok (.int .i64 ((kget (kput st s (wrap64 ((kget st s).getD 0 + 1))) (folderOf s)).getD 0)) w1.drew := by
    obtain ⟨kl, hkl⟩ := hk2
    have h2 : MapAt Tryd.prog 9 Value.string (Value.int .i64) w1.drew b2 (kput st s (wrap64 ((kget st s).getD 0 + 1))) := hat1
    exact h2.run_look false T42.keyed T42.inj T42.und (T42.zero _) hkl
  refine wp_region_still_tail 8 (by kernel_rfl) (by kernel_rfl) ?_
  simp only [List.take_succ_cons, List.take_zero, List.drop_succ_cons, List.drop_zero]
  simp only [World.drew_eq]
  repeat still_step
  still_call ((folder_calls s hs _).mono fun _ _ ⟨h, e⟩ => ⟨h, e.symm⟩)
  repeat still_step
  refine wpStill_nil ?_
  have hat2 : MapAt Tryd.prog 9 Value.string (Value.int .i64) w1.drew b2 (kput st s (wrap64 ((kget st s).getD 0 + 1))) := hat1
  go_wp2_with (at_mapUpdate; refine wpList_upd _ rfl _ _ _ 42 rfl T42 b2 _ rfl hat2 _ rfl hk2 _ rfl ?_; intro w2 hat3 hu2 hs2)
  go_end0
  have hu3 : Upd (fun i => i = b2) w1 w2 := (Upd.refl _ _).drew.trans hu2
  rw [IntWalk.i64_left] at hat3
  exact ⟨rfl, h1.put2 hat3 hu3, hu1.trans hu3⟩

/-- found -/
def foundE (th : List (ByteArray × Bool)) (s : ByteArray) : Int := if rightB s then (if (kget th s).isSome then 0 else 110) else 111

theorem found_calls (s : ByteArray) (hs : s.size < 4611686018427387904) (h : TreeAt w bt b1 b2 b3 th st mo) :
    Calls Tryd.prog 19 #[.pointer (some ⟨bt, 0, none⟩), .string s] w fun e w' => e = .returned (.int .i64 (foundE th s)) ∧ Below w.heap.size w w' := by
  rcases hr : rightB s with _ | _
  · have HR := Lib.hid hr
    clear hr
    go_enter Tryd.func19, Tryd.ntmps19
    go_wp2_with (go_at_call 16; refine (right_calls s hs _).mono ?_; rintro e w1 ⟨rfl, hb1⟩; rw [HR.out])
    go_ret
    exact ⟨by rw [foundE, HR.out]; rfl, hb1⟩
  · have HR := Lib.hid hr
    clear hr
    rcases hx : (kget th s).isSome with _ | _
    all_goals
      have HX := Lib.hid hx
      clear hx
      go_enter Tryd.func19, Tryd.ntmps19
      go_wp2_with (first
        | (go_at_call 16; refine (right_calls s hs _).mono ?_; rintro e w1 ⟨rfl, hb1⟩; rw [HR.out]; have h1 := h.below hb1)
        | (go_at_call 9; refine (exists_calls s (by omega) h1).mono ?_; rintro e w2 ⟨rfl, rfl⟩; rw [HX.out]))
      go_ret
      exact ⟨by rw [foundE, HR.out, HX.out]; rfl, hb1⟩

/-- Touch -/
def TouchPost (w : World) (bt b1 b2 b3 : Nat) (th : List (ByteArray × Bool)) (st : List (ByteArray × Int)) (mo : List (ByteArray × ByteArray)) (s : ByteArray) (e : Ending) (w' : World) : Prop :=
  e = .returned (.int .i64 (foundE th s)) ∧ TreeAt w' bt b1 b2 b3 th (if foundE th s = 0 then kput st s (wrap64 ((kget st s).getD 0 + 1)) else st) mo ∧ Upd (TS b1 b2 b3) w w'
theorem touch_calls (s : ByteArray) (hs : s.size < 4611686018427387904) (h : TreeAt w bt b1 b2 b3 th st mo) :
    Calls Tryd.prog 12 #[.pointer (some ⟨bt, 0, none⟩), .string s] w (TouchPost w bt b1 b2 b3 th st mo s) := by
  have hk := kok_string Tryd.underlying9 (s := s) (by omega)
  by_cases hf : foundE th s = 0
  · have hf' : (foundE th s == 0) = true := by rw [hf]; rfl
    have HF := Lib.hid hf
    clear hf hf'
    go_enter Tryd.func12, Tryd.ntmps12
    go_wp2_with (first
      | (go_at_call 19; refine (found_calls s hs h).mono ?_; rintro e w1 ⟨rfl, hb1⟩; rw [HF.out]; have h1 := h.below hb1; have d1 := h1.c1)
      | (at_lookup; refine wpList_look1 _ rfl _ _ 42 rfl T42 b2 st rfl h1.stamps _ rfl hk ?_)
      | (at_mapUpdate; refine wpList_upd _ rfl _ _ _ 42 rfl T42 b2 st rfl h1.stamps _ rfl hk _ rfl ?_; intro w2 hat2 hu2 hs2))
    go_ret
    exact ⟨by rw [HF.out]; rfl, by rw [if_pos HF.out]; exact h1.put2 hat2 hu2, (Upd.of_below_all hb1 _).trans (hu2.mono fun k _ e => .inr (.inl e))⟩
  · have HF := Lib.hid hf
    have hf' : (foundE th s == 0) = false := beq_eq_false_iff_ne.2 hf
    have hf2 : (foundE th s != 0) = true := by simp [hf]
    go_enter Tryd.func12, Tryd.ntmps12
    go_wp2_with (go_at_call 19; refine (found_calls s hs h).mono ?_; rintro e w1 ⟨rfl, hb1⟩)
    go_ret
    exact ⟨rfl, by rw [if_neg HF.out]; exact h.below hb1, Upd.of_below_all hb1 _⟩

/-- Make -/
def makeE (th : List (ByteArray × Bool)) (s : ByteArray) : Int :=
  if rightB s then (if (kget th s).isSome then 112 else if (kget th (folderOf s)).getD false then 0 else 110) else 111
def MakePost (w : World) (bt b1 b2 b3 : Nat) (th : List (ByteArray × Bool)) (st : List (ByteArray × Int)) (mo : List (ByteArray × ByteArray)) (s : ByteArray) (f : Bool) (e : Ending) (w' : World) : Prop :=
  e = .returned (.int .i64 (makeE th s)) ∧ TreeAt w' bt b1 b2 b3 (if makeE th s = 0 then kput th s f else th) (if makeE th s = 0 then chg st s else st) mo ∧ Upd (TS b1 b2 b3) w w'
theorem make_no {n : Int} {s : ByteArray} {f : Bool} (hE : makeE th s = n) (hn : n ≠ 0) (h : TreeAt w' bt b1 b2 b3 th st mo) (hu : Upd (TS b1 b2 b3) w w') : MakePost w bt b1 b2 b3 th st mo s f (.returned (.int .i64 n)) w' := by
  refine ⟨by rw [hE], ?_, hu⟩
  rw [if_neg (by rw [hE]; exact hn), if_neg (by rw [hE]; exact hn)]
  exact h
theorem look_drawn {t kt et : TypeId} {K V : Type} [DecidableEq K] {ek : K → Value} {ev : V → Value} {v0 : V} (T : MapTy Tryd.prog t kt et ek ev v0) {b : Nat} {m : List (K × V)} (h : MapAt Tryd.prog kt ek ev w b m) {k : K} (hk : KOk Tryd.prog kt ek k) (n : Nat) :
    (Instr.lookup t (.map (some b)) (ek k) false).run Tryd.prog (w.drewN n) = .ok (ev ((kget m k).getD v0)) (w.drewN n) := by
  obtain ⟨kl, hkl⟩ := hk
  have h2 : MapAt Tryd.prog kt ek ev (w.drewN n) b m := h
  exact h2.run_look false T.keyed T.inj T.und (T.zero _) hkl

theorem make_calls (s : ByteArray) (f : Bool) (hs : s.size < 4611686018427387904) (h : TreeAt w bt b1 b2 b3 th st mo) :
    Calls Tryd.prog 8 #[.pointer (some ⟨bt, 0, none⟩), .string s, .bool f] w (MakePost w bt b1 b2 b3 th st mo s f) := by
  have hk := kok_string Tryd.underlying9 (s := s) (by omega)
  have hk2 := kok_string Tryd.underlying9 (s := folderOf s) (by have := folderOf_size s; omega)
  rcases hr : rightB s with _ | _
  · have hE : makeE th s = 111 := by rw [makeE, hr]; rfl
    have HE := Lib.hid hE
    have HR := Lib.hid hr
    clear hr hE
    go_enter Tryd.func8, Tryd.ntmps8
    go_wp2_with (go_at_call 16; refine (right_calls s hs _).mono ?_; rintro e w1 ⟨rfl, hb1⟩; rw [HR.out])
    go_ret
    exact make_no HE.out (by decide) (h.below hb1) (Upd.of_below_all hb1 _)
  · rcases hx : (kget th s).isSome with _ | _
    · rcases hd : (kget th (folderOf s)).getD false with _ | _
      · have hE : makeE th s = 110 := by rw [makeE, hr, hx, hd]; rfl
        have HE := Lib.hid hE
        have HR := Lib.hid hr
        have HX := Lib.hid hx
        have HD := Lib.hid hd
        clear hr hE hx hd
        go_enter Tryd.func8, Tryd.ntmps8
        go_wp2_with (first
          | (go_at_call 16; refine (right_calls s hs _).mono ?_; rintro e w1 ⟨rfl, hb1⟩; rw [HR.out]; have h1 := h.below hb1; have d0 := h1.c0)
          | (go_at_call 9; refine (exists_calls s (by omega) h1).mono ?_; rintro e w2 ⟨rfl, rfl⟩; rw [HX.out]))
        have hl : ∀ n, (Instr.lookup 41 (.map (some b1)) (.string (folderOf s)) false).run Tryd.prog (w1.drewN n) = .ok (.bool false) (w1.drewN n) := fun n => by
          have := look_drawn T41 h1.there hk2 n
          rw [HD.out] at this
          exact this
        go_quiet ((go_at_call 17; exact Calls.quiet_of_same ((folder_calls s hs _).mono fun _ _ ⟨h, e⟩ => ⟨h, e.symm⟩)))
        go_wp2
        go_ret
        exact make_no HE.out (by decide) (h1.drewN _) ((Upd.of_below_all hb1 _).drewN _)
      · have hE : makeE th s = 0 := by rw [makeE, hr, hx, hd]; rfl
        have HE := Lib.hid hE
        have HR := Lib.hid hr
        have HX := Lib.hid hx
        have HD := Lib.hid hd
        clear hr hE hx hd
        go_enter Tryd.func8, Tryd.ntmps8
        go_wp2_with (first
          | (go_at_call 16; refine (right_calls s hs _).mono ?_; rintro e w1 ⟨rfl, hb1⟩; rw [HR.out]; have h1 := h.below hb1; have d0 := h1.c0)
          | (go_at_call 9; refine (exists_calls s (by omega) h1).mono ?_; rintro e w2 ⟨rfl, rfl⟩; rw [HX.out]))
        have hl : ∀ n, (Instr.lookup 41 (.map (some b1)) (.string (folderOf s)) false).run Tryd.prog (w1.drewN n) = .ok (.bool true) (w1.drewN n) := fun n => by
          have := look_drawn T41 h1.there hk2 n
          rw [HD.out] at this
          exact this
        go_quiet ((go_at_call 17; exact Calls.quiet_of_same ((folder_calls s hs _).mono fun _ _ ⟨h, e⟩ => ⟨h, e.symm⟩)))
        have h2 := h1.drewN nq
        have e0 := h2.c0
        go_wp2_with (first
          | (at_mapUpdate; refine wpList_upd _ rfl _ _ _ 41 rfl T41 b1 th rfl h2.there _ rfl hk _ rfl ?_; intro w3 hat3 hu3 hs3; have h3 := h2.put1 hat3 hu3; have g0 := h3.c0)
          | (go_at_call 18; refine (changes_calls s hs h3).mono ?_; rintro e w4 ⟨rfl, h4, hu4⟩))
        go_ret
        refine ⟨by rw [HE.out]; rfl, ?_, ((((Upd.of_below_all hb1 _).drewN nq).trans (hu3.mono fun k _ e => .inl e))).trans (hu4.mono fun k _ e => .inr (.inl e))⟩
        rw [if_pos HE.out, if_pos HE.out]
        exact h4
    · have hE : makeE th s = 112 := by rw [makeE, hr, hx]; rfl
      have HE := Lib.hid hE
      have HR := Lib.hid hr
      have HX := Lib.hid hx
      clear hr hE hx
      go_enter Tryd.func8, Tryd.ntmps8
      go_wp2_with (first
        | (go_at_call 16; refine (right_calls s hs _).mono ?_; rintro e w1 ⟨rfl, hb1⟩; rw [HR.out]; have h1 := h.below hb1; have d0 := h1.c0)
        | (go_at_call 9; refine (exists_calls s (by omega) h1).mono ?_; rintro e w2 ⟨rfl, rfl⟩; rw [HX.out]))
      go_ret
      exact make_no HE.out (by decide) (h.below hb1) (Upd.of_below_all hb1 _)

/-- Mount -/
def mountE (th : List (ByteArray × Bool)) (mo : List (ByteArray × ByteArray)) (s : ByteArray) : Int :=
  if rightB s then (if (kget th s).getD false then (if (kget mo s).isSome then 112 else 0) else 110) else 111
def MountPost (w : World) (bt b1 b2 b3 : Nat) (th : List (ByteArray × Bool)) (st : List (ByteArray × Int)) (mo mo' : List (ByteArray × ByteArray)) (n : Int) (e : Ending) (w' : World) : Prop :=
  e = .returned (.int .i64 n) ∧ TreeAt w' bt b1 b2 b3 th st (if n = 0 then mo' else mo) ∧ Upd (TS b1 b2 b3) w w'
theorem mount_no {n : Int} {mo' : List (ByteArray × ByteArray)} (hn : n ≠ 0) (h : TreeAt w' bt b1 b2 b3 th st mo) (hu : Upd (TS b1 b2 b3) w w') : MountPost w bt b1 b2 b3 th st mo mo' n (.returned (.int .i64 n)) w' :=
  ⟨rfl, by rw [if_neg hn]; exact h, hu⟩

theorem mount_calls (what s : ByteArray) (hs : s.size < 4611686018427387904) (h : TreeAt w bt b1 b2 b3 th st mo) :
    Calls Tryd.prog 13 #[.pointer (some ⟨bt, 0, none⟩), .string what, .string s] w (MountPost w bt b1 b2 b3 th st mo (kput mo s what) (mountE th mo s)) := by
  have hk := kok_string Tryd.underlying9 (s := s) (by omega)
  rcases hr : rightB s with _ | _
  · rw [show mountE th mo s = 111 by rw [mountE, hr]; rfl]
    have HR := Lib.hid hr
    clear hr
    go_enter Tryd.func13, Tryd.ntmps13
    go_wp2_with (go_at_call 16; refine (right_calls s hs _).mono ?_; rintro e w1 ⟨rfl, hb1⟩; rw [HR.out])
    go_ret
    exact mount_no (by decide) (h.below hb1) (Upd.of_below_all hb1 _)
  · rcases hd : (kget th s).getD false with _ | _
    · rw [show mountE th mo s = 110 by rw [mountE, hr, hd]; rfl]
      have HR := Lib.hid hr
      have HD := Lib.hid hd
      clear hr hd
      go_enter Tryd.func13, Tryd.ntmps13
      go_wp2_with (first
        | (go_at_call 16; refine (right_calls s hs _).mono ?_; rintro e w1 ⟨rfl, hb1⟩; rw [HR.out]; have h1 := h.below hb1; have d0 := h1.c0)
        | (at_lookup; refine wpList_look1 _ rfl _ _ 41 rfl T41 b1 th rfl h1.there _ rfl hk ?_; rw [HD.out]))
      go_ret
      exact mount_no (by decide) h1 (Upd.of_below_all hb1 _)
    · rcases hx : (kget mo s).isSome with _ | _
      · rw [show mountE th mo s = 0 by rw [mountE, hr, hd, hx]; rfl]
        have HR := Lib.hid hr
        have HD := Lib.hid hd
        have HX := Lib.hid hx
        clear hr hd hx
        go_enter Tryd.func13, Tryd.ntmps13
        go_wp2_with (first
          | (go_at_call 16; refine (right_calls s hs _).mono ?_; rintro e w1 ⟨rfl, hb1⟩; rw [HR.out]; have h1 := h.below hb1; have d0 := h1.c0; have d2 := h1.c2)
          | (at_lookup; refine wpList_look1 _ rfl _ _ 41 rfl T41 b1 th rfl h1.there _ rfl hk ?_; rw [HD.out])
          | (at_lookup; refine wpList_look2 _ rfl _ _ 43 rfl T43 b3 mo rfl h1.mounts _ rfl hk ?_; rw [HX.out])
          | (at_mapUpdate; refine wpList_upd _ rfl _ _ _ 43 rfl T43 b3 mo rfl h1.mounts _ rfl hk _ rfl ?_; intro w3 hat3 hu3 hs3; have h3 := h1.put3 hat3 hu3))
        go_ret
        exact ⟨rfl, h3, (Upd.of_below_all hb1 _).trans (hu3.mono fun k _ e => .inr (.inr e))⟩
      · rw [show mountE th mo s = 112 by rw [mountE, hr, hd, hx]; rfl]
        have HR := Lib.hid hr
        have HD := Lib.hid hd
        have HX := Lib.hid hx
        clear hr hd hx
        go_enter Tryd.func13, Tryd.ntmps13
        go_wp2_with (first
          | (go_at_call 16; refine (right_calls s hs _).mono ?_; rintro e w1 ⟨rfl, hb1⟩; rw [HR.out]; have h1 := h.below hb1; have d0 := h1.c0; have d2 := h1.c2)
          | (at_lookup; refine wpList_look1 _ rfl _ _ 41 rfl T41 b1 th rfl h1.there _ rfl hk ?_; rw [HD.out])
          | (at_lookup; refine wpList_look2 _ rfl _ _ 43 rfl T43 b3 mo rfl h1.mounts _ rfl hk ?_; rw [HX.out]))
        go_ret
        exact mount_no (by decide) h1 (Upd.of_below_all hb1 _)
end
end Go.Proofs.YtopfgaogfnepfaaDoor
