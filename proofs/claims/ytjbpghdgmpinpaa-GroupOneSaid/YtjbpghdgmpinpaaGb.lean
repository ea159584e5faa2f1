/- Contracts of the groups' functions (cgroup). -/
import Derived.Test.YtjbpghdgmpinpaaGa
namespace Go.Proofs.Ytjbpghdgmpinpaa
open Go.RowKit Go.Rv

theorem gnew_calls (w : World) :
    Calls Try.prog 10 #[] w fun e w' => e = .returned (.pointer (some ⟨w.heap.size + 2, 0, none⟩)) ∧ GroupsAt (fun k => w.heap.size ≤ k) w' (w.heap.size + 2) [] [] [] ∧ Below w.heap.size w w' := by
  have hmm := @run_makeMap Try.prog
  go_enter Try.func10, Try.ntmps10
  go_wp2
  go_ret
  have h0 := mapAt_made w Try.prog 9 Value.string (Value.map)
  have h1 := mapAt_made (w.alloc (.map #[] 0)) Try.prog 3 (Value.int .i64) Value.string
  rw [World.size_alloc] at h1
  refine ⟨rfl, ⟨w.heap.size, w.heap.size + 1, _, [], rfl, hp_at _ (by simp), (h0.alloc _).alloc _, h1.alloc _, rowAt_nil _ _ _ _ _, by simp, by omega, by simp, by simp, by simp, by simp, by simp, fun k hk => hk.elim, by simp⟩, (((Below.refl _ w).alloc (by simp) _).alloc (by simp) _).alloc (by simp; omega) _⟩

section
variable {S : Nat → Prop} {w : World} {p : Nat} {of : List (Int × ByteArray)} {notes : List ByteArray} {G : List (ByteArray × List Int)}

/-- What is behind a call of the groups: the answer, the groups. -/
def GPost (S : Nat → Prop) (w : World) (p : Nat) (a : Value) (G : List (ByteArray × List Int)) (of : List (Int × ByteArray)) (notes : List ByteArray) (e : Ending) (w' : World) : Prop :=
  e = .returned a ∧ ∃ S', GroupsAt S' w' p G of notes ∧ Own S w S' w'

/-- Make -/
def makeE (G : List (ByteArray × List Int)) (s : ByteArray) : Int := if s.toList = [] then 90 else if (kget G s).isSome then 91 else 0
def makeG (G : List (ByteArray × List Int)) (s : ByteArray) : List (ByteArray × List Int) := if makeE G s = 0 then G ++ [(s, [])] else G
theorem make_calls (s : ByteArray) (hs : s.size ≤ 9223372036854775807) (h : GroupsAt S w p G of notes) :
    Calls Try.prog 11 #[.pointer (some ⟨p, 0, none⟩), .string s] w (GPost S w p (.int .i64 (makeE G s)) (makeG G s) of notes) := by
  have hk := kok_string Try.underlying9 hs
  have hmm := @run_makeMap Try.prog
  obtain ⟨b1, b2, v, gl, rfl, h⟩ := h
  have c0 := h.c0
  by_cases h0 : s.toList = []
  · have h0' : s.toList.isEmpty = true := by simp [h0]
    have e1 : makeE (absL gl) s = 90 := by simp [makeE, h0]
    have e2 : makeG (absL gl) s = absL gl := by simp [makeG, e1]
    rw [e1, e2]
    clear e1 e2
    go_enter Try.func11, Try.ntmps11
    go_wp2
    go_ret
    exact ⟨rfl, S, ⟨b1, b2, v, gl, rfl, h⟩, Own.refl _ _⟩
  · have h0' : s.toList.isEmpty = false := by simp [h0]
    rcases find_grp gl s with ⟨h1, h2⟩ | ⟨b, l, hm, h1, h2⟩
    · have e1 : makeE (absL gl) s = 0 := by simp [makeE, h0, h1]
      have e2 : makeG (absL gl) s = absL gl ++ [(s, [])] := by simp [makeG, e1]
      rw [e1, e2]
      clear e1 e2
      go_enter Try.func11, Try.ntmps11
      go_wp2_with (first
        | (at_lookup; refine wpList_look2 _ rfl _ _ 141 rfl T141 b1 (grpL gl) rfl h.groups _ rfl hk ?_; rw [h2])
        | (at_mapUpdate; refine wpList_upd _ rfl _ _ _ 141 rfl T141 b1 (grpL gl) rfl (h.groups.alloc _) _ rfl hk (some w.heap.size) rfl ?_; intro w1 hat1 hu1 hs1))
      go_ret
      rw [upd_of_none h2, show grpL gl ++ [(s, some w.heap.size)] = grpL (gl ++ [(s, w.heap.size, [])]) by simp [grpL]] at hat1
      have hs0 := mapAt_made w Try.prog 3 (Value.int .i64) unitV
      refine ⟨rfl, _, ⟨b1, b2, v, gl ++ [(s, w.heap.size, [])], by simp [absL], h.putNew (upd_alloc _ w _) rfl hs0 hat1 hu1⟩, ((upd_alloc S w _).trans (hu1.mono fun k _ e => by rw [e]; exact h.s1)), fun k hk => hk⟩
    · have e1 : makeE (absL gl) s = 91 := by simp [makeE, h0, h1]
      have e2 : makeG (absL gl) s = absL gl := by simp [makeG, e1]
      rw [e1, e2]
      clear e1 e2
      go_enter Try.func11, Try.ntmps11
      go_wp2_with (at_lookup; refine wpList_look2 _ rfl _ _ 141 rfl T141 b1 (grpL gl) rfl h.groups _ rfl hk ?_; rw [h2])
      go_ret
      exact ⟨rfl, S, ⟨b1, b2, v, gl, rfl, h⟩, Own.refl _ _⟩

/-- set.has -/
theorem has_calls (b : Nat) (l : List Int) (x : Int) (hx : -9223372036854775808 ≤ x ∧ x ≤ 9223372036854775807) (h : MapAt Try.prog 3 (Value.int .i64) unitV w b (setL l)) :
    Calls Try.prog 89 #[.map (some b), .int .i64 x] w fun e w' => e = .returned (.bool (decide (x ∈ l))) ∧ Below w.heap.size w w' := by
  have hk := kok_int (P := Try.prog) Try.underlying3 hx
  have hv : (kget (setL l) x).isSome = decide (x ∈ l) := by rw [kget_setL]; by_cases hm : x ∈ l <;> simp [hm]
  go_enter Try.func89, Try.ntmps89
  go_wp2_with (at_lookup; refine wpList_look2 _ rfl _ _ 146 rfl T146 b (setL l) rfl h _ rfl hk ?_; rw [hv, show unitV ((kget (setL l) x).getD ()) = .agg #[] from rfl])
  go_ret
  exact ⟨rfl, ((Below.refl _ w).alloc (Nat.le_refl _) _)⟩
/-- set.add -/
theorem add_calls (b : Nat) (l : List Int) (x : Int) (hx : -9223372036854775808 ≤ x ∧ x ≤ 9223372036854775807) (h : MapAt Try.prog 3 (Value.int .i64) unitV w b (setL l)) :
    Calls Try.prog 90 #[.map (some b), .int .i64 x] w fun e w' => e = .returned (.tuple #[]) ∧ MapAt Try.prog 3 (Value.int .i64) unitV w' b (setL (addI l x)) ∧ Upd (fun i => i = b) w w' := by
  have hk := kok_int (P := Try.prog) Try.underlying3 hx
  go_enter Try.func90, Try.ntmps90
  go_wp2_with (at_mapUpdate; refine wpList_upd _ rfl _ _ _ 146 rfl T146 b (setL l) rfl h _ rfl hk () rfl ?_; intro w1 hat1 hu1 hs1)
  go_end0
  rw [kput_setL] at hat1
  exact ⟨rfl, hat1, hu1⟩

/-- slices.Contains -/
theorem contains88 {B0 : Nat} {v : Value} {l : List ByteArray} (h : RowAt 9 1 encS B0 v l w) (x : ByteArray) :
    Calls Try.prog 88 #[v, .string x] w fun e w' => e = .returned (.bool (Lib.containsS l x)) ∧ w' = w := by
  rcases h.shape with ⟨rfl, rfl⟩ | ⟨g, off, cap, rfl, q1, q2, q3, q4⟩
  · exact (Try.slices_Contains_string_empty none 0 x w).mono fun e w' ⟨h1, h2⟩ => ⟨by rw [h1]; rfl, h2⟩
  · have := Try.slices_Contains_string g off l.length cap l x w (Nat.le_refl _) (by simp only [maxLen] at q4; omega) (fun j hj => by
      have := h.cell (enc := encS) (fun _ => rfl) (i := j) (j := 0) (List.getElem?_eq_getElem hj) (u := .string l[j]) rfl
      rw [Nat.mul_one, Nat.add_zero] at this
      rw [this]; simp [hj])
    rwa [List.take_length] at this

/-- Gone -/
def goneG (G : List (ByteArray × List Int)) (of : List (Int × ByteArray)) (q : Int) : List (ByteArray × List Int) := match kget of q with
  | none => G
  | some n => setIn G n fun l => l.erase q
def goneN (G : List (ByteArray × List Int)) (of : List (Int × ByteArray)) (notes : List ByteArray) (q : Int) : List ByteArray := match kget of q with
  | none => notes
  | some n => if ((kget G n).getD []).erase q = [] ∧ Lib.containsS notes n = false then notes ++ [n] else notes
def goneL (gl : List (ByteArray × Nat × List Int)) (of : List (Int × ByteArray)) (q : Int) : List (ByteArray × Nat × List Int) := match kget of q with
  | none => gl
  | some n => setB gl n fun l => l.erase q
def GPostL (S : Nat → Prop) (w : World) (p b1 b2 : Nat) (a : Value) (gl : List (ByteArray × Nat × List Int)) (of : List (Int × ByteArray)) (notes : List ByteArray) (e : Ending) (w' : World) : Prop :=
  e = .returned a ∧ ∃ S' v', GAt S' w' p b1 b2 v' gl of notes ∧ Own S w S' w'
theorem gone_at {b1 b2 : Nat} {v : Value} {gl : List (ByteArray × Nat × List Int)} (q : Int) (hq : -9223372036854775808 ≤ q ∧ q ≤ 9223372036854775807) (hnl : notes.length ≤ 1000000) (hin : ∀ q n, kget of q = some n → (kget (absL gl) n).isSome = true) (h : GAt S w p b1 b2 v gl of notes) :
    Calls Try.prog 12 #[.pointer (some ⟨p, 0, none⟩), .int .i64 q] w (GPostL S w p b1 b2 (.bool (kget of q).isSome) (goneL gl of q) (kdel of q) (goneN (absL gl) of notes q)) := by
  have hk := kok_int (P := Try.prog) Try.underlying3 hq
  have c1 := h.c1
  cases ho : kget of q with
  | none =>
    have e1 : goneL gl of q = gl := by simp [goneL, ho]
    have e2 : goneN (absL gl) of notes q = notes := by simp [goneN, ho]
    rw [e1, e2, del_of_none ho]
    clear e1 e2
    go_enter Try.func12, Try.ntmps12
    go_wp2_with (at_lookup; refine wpList_look2 _ rfl _ _ 142 rfl T142 b2 of rfl h.of_ _ rfl hk ?_; rw [ho])
    go_ret
    exact ⟨rfl, S, v, h, Own.refl _ _⟩
  | some n =>
    have hin1 := hin q n ho
    rcases find_grp gl n with ⟨h1, h2⟩ | ⟨b, l, hm, h1, h2⟩
    · rw [h1] at hin1; cases hin1
    have hkn : KOk Try.prog 9 Value.string n := h.groups.key (p := (n, some b)) (List.mem_map.2 ⟨_, hm, rfl⟩)
    have e1 : goneL gl of q = setB gl n fun l => l.erase q := by simp [goneL, ho]
    have e2 : goneN (absL gl) of notes q = if l.erase q = [] ∧ Lib.containsS notes n = false then notes ++ [n] else notes := by simp [goneN, ho, h1]
    rw [e1, e2]
    clear e1 e2 hin hin1
    obtain ⟨N', hN'⟩ : ∃ N', (if l.erase q = [] ∧ Lib.containsS notes n = false then notes ++ [n] else notes) = N' := ⟨_, rfl⟩
    rw [hN']
    have HN := Lib.hid hN'
    clear hN' h1
    have own2 : ∀ w2, Upd (fun i => i = b2) w w2 → ∀ w3, Upd (fun i => i = b) w2 w3 → Upd S w w3 := fun w2 u1 w3 u2 =>
      (u1.mono fun k _ e => by rw [e]; exact h.s2).then (u2.mono fun k _ e => (by rw [e]; exact h.ss _ hm : S k)) fun i _ hs => hs
    have OWN := Lib.hid own2
    clear own2
    rcases he : decide (l.erase q = []) with _ | _
    · have HE := Lib.hid he
      have he' : ¬ ((l.erase q).length : Int) = 0 := by simp at he ⊢; exact he
      have he2 : (((l.erase q).length : Int) == 0) = false := beq_eq_false_iff_ne.2 he'
      clear he
      go_enter Try.func12, Try.ntmps12
      go_wp2_with (first
        | (at_lookup; refine wpList_look2 _ rfl _ _ 142 rfl T142 b2 of rfl h.of_ _ rfl hk ?_; rw [ho])
        | (at_delete; refine wpList_del _ rfl _ _ 142 3 rfl T142 b2 of rfl h.of_ _ rfl hk ?_; intro w1 hat1 hu1 hs1; have k1 := h.putOf hat1 hu1; have d0 := k1.c0)
        | (at_delete; refine wpList_del _ rfl _ _ 146 3 rfl T146 b (setL l) rfl (k1.sets _ hm) _ rfl hk ?_; intro w2 hat2 hu2 hs2; rw [kdel_setL] at hat2; have k2 := k1.putSet (f := fun l => l.erase q) hm hat2 hu2; have g0 := k2.c0; have g2 := k2.c2; have hln := fun ty => hat2.run_len (ty := ty) Try.underlying146; rw [setL_length] at hln; have hgr := k2.groups; rw [grpL_setB] at hgr)
        | (at_lookup; refine wpList_look1 _ rfl _ _ 141 rfl T141 b1 (grpL gl) rfl k1.groups _ rfl hkn ?_; rw [h2])
        | (at_lookup; refine wpList_look1 _ rfl _ _ 141 rfl T141 b1 (grpL gl) rfl hgr _ rfl hkn ?_; rw [h2]))
      go_ret
      have : N' = notes := by
        rw [← HN.out, if_neg]
        intro h9
        have := HE.out
        simp [h9.1] at this
      subst this
      exact ⟨rfl, S, v, k2, Own.of_upd (OWN.out _ hu1 _ hu2) fun _ h => .inl h⟩
    · have HE := Lib.hid he
      have he' : ((l.erase q).length : Int) = 0 := by simp at he ⊢; exact he
      rcases hc : Lib.containsS notes n with _ | _
      · have HC := Lib.hid hc
        have hN2 : N' = notes ++ [n] := by
          rw [← HN.out, if_pos ⟨by simpa using HE.out, hc⟩]
        subst hN2
        clear he hc
        go_enter Try.func12, Try.ntmps12
        go_wp2_with (first
          | (at_lookup; refine wpList_look2 _ rfl _ _ 142 rfl T142 b2 of rfl h.of_ _ rfl hk ?_; rw [ho])
          | (at_delete; refine wpList_del _ rfl _ _ 142 3 rfl T142 b2 of rfl h.of_ _ rfl hk ?_; intro w1 hat1 hu1 hs1; have k1 := h.putOf hat1 hu1; have d0 := k1.c0)
          | (at_delete; refine wpList_del _ rfl _ _ 146 3 rfl T146 b (setL l) rfl (k1.sets _ hm) _ rfl hk ?_; intro w2 hat2 hu2 hs2; rw [kdel_setL] at hat2; have k2 := k1.putSet (f := fun l => l.erase q) hm hat2 hu2; have g0 := k2.c0; have g2 := k2.c2; have hln := fun ty => hat2.run_len (ty := ty) Try.underlying146; rw [setL_length, he'] at hln; have hgr := k2.groups; rw [grpL_setB] at hgr)
          | (at_lookup; refine wpList_look1 _ rfl _ _ 141 rfl T141 b1 (grpL gl) rfl k1.groups _ rfl hkn ?_; rw [h2])
          | (at_lookup; refine wpList_look1 _ rfl _ _ 141 rfl T141 b1 (grpL gl) rfl hgr _ rfl hkn ?_; rw [h2])
          | (go_at_call 88; refine (contains88 k2.row n).mono ?_; rintro e w3 ⟨rfl, rfl⟩; rw [HC.out]; have hra := k2.row.alloc (.cells #[.string n] 9); have hsrc := src_one w3 E90 n #[.string n] 9 rfl)
          | (at_builtin; refine wpList_apR E90 0 v notes hra [n] (.slice (some ⟨w3.heap.size, 0, none⟩) 1 1) hsrc rfl rfl ?_ ?_ ?_ ?_; simp only [List.length_cons, List.length_nil, maxLen]; omega; simp only [List.length_cons, List.length_nil]; omega; omega; intro v' w4 hr4 hu4 hn4; obtain ⟨bb, nn, cc, rfl⟩ := hr4.isSlice; have o4 := hu4.at (hp_alloc_old (.cells #[.string n] 9) k2.obj) (fun hk => (k2.row_ne hk).1 rfl); have f4 := hp_frozen o4 2; have c4 := hp_cell o4 2))
        go_ret
        have u12 := OWN.out _ hu1 _ hu2
        obtain ⟨k3, u3⟩ := k2.putNotes ((upd_alloc (rowBlock v) w3 _).trans hu4) (fun _ h _ => h) hr4 (fun k hk => (hn4.out k hk).imp id fun h => by simp at h; omega)
        exact ⟨rfl, _, _, k3, Own.of_upd (u12.then u3 fun _ _ h => h) fun k hk => hk.imp id fun h9 => by have := u12.size; omega⟩
      · have HC := Lib.hid hc
        have hN2 : N' = notes := by
          rw [← HN.out, if_neg]
          intro h9
          rw [hc] at h9
          cases h9.2
        subst hN2
        clear he hc
        go_enter Try.func12, Try.ntmps12
        go_wp2_with (first
          | (at_lookup; refine wpList_look2 _ rfl _ _ 142 rfl T142 b2 of rfl h.of_ _ rfl hk ?_; rw [ho])
          | (at_delete; refine wpList_del _ rfl _ _ 142 3 rfl T142 b2 of rfl h.of_ _ rfl hk ?_; intro w1 hat1 hu1 hs1; have k1 := h.putOf hat1 hu1; have d0 := k1.c0)
          | (at_delete; refine wpList_del _ rfl _ _ 146 3 rfl T146 b (setL l) rfl (k1.sets _ hm) _ rfl hk ?_; intro w2 hat2 hu2 hs2; rw [kdel_setL] at hat2; have k2 := k1.putSet (f := fun l => l.erase q) hm hat2 hu2; have g0 := k2.c0; have g2 := k2.c2; have hln := fun ty => hat2.run_len (ty := ty) Try.underlying146; rw [setL_length, he'] at hln; have hgr := k2.groups; rw [grpL_setB] at hgr)
          | (at_lookup; refine wpList_look1 _ rfl _ _ 141 rfl T141 b1 (grpL gl) rfl k1.groups _ rfl hkn ?_; rw [h2])
          | (at_lookup; refine wpList_look1 _ rfl _ _ 141 rfl T141 b1 (grpL gl) rfl hgr _ rfl hkn ?_; rw [h2])
          | (go_at_call 88; refine (contains88 k2.row n).mono ?_; rintro e w3 ⟨rfl, rfl⟩; rw [HC.out]))
        go_ret
        exact ⟨rfl, S, v, k2, Own.of_upd (OWN.out _ hu1 _ hu2) fun _ h => .inl h⟩

theorem absL_goneL (gl : List (ByteArray × Nat × List Int)) (of : List (Int × ByteArray)) (q : Int) : absL (goneL gl of q) = goneG (absL gl) of q := by
  unfold goneL goneG
  split
  · rfl
  · rw [absL_setB]
theorem gone_calls (q : Int) (hq : -9223372036854775808 ≤ q ∧ q ≤ 9223372036854775807) (hnl : notes.length ≤ 1000000) (hin : ∀ q n, kget of q = some n → (kget G n).isSome = true) (h : GroupsAt S w p G of notes) :
    Calls Try.prog 12 #[.pointer (some ⟨p, 0, none⟩), .int .i64 q] w (GPost S w p (.bool (kget of q).isSome) (goneG G of q) (kdel of q) (goneN G of notes q)) := by
  obtain ⟨b1, b2, v, gl, rfl, h⟩ := h
  refine (gone_at q hq hnl hin h).mono ?_
  rintro e w' ⟨h1, S', v', h2, h3⟩
  exact ⟨h1, S', ⟨b1, b2, v', _, absL_goneL _ _ _, h2⟩, h3⟩

/-- Put -/
def putE (G : List (ByteArray × List Int)) (q : Int) (n : ByteArray) : Int := if (kget G n).isSome = true ∧ 2 ≤ q then 0 else 90
/-- Does the call turn anything? -/
def puts (G : List (ByteArray × List Int)) (q : Int) (n : ByteArray) : Bool := (kget G n).isSome && decide (2 ≤ q) && !decide (q ∈ (kget G n).getD [])
def putG (G : List (ByteArray × List Int)) (of : List (Int × ByteArray)) (q : Int) (n : ByteArray) : List (ByteArray × List Int) := if puts G q n then setIn (goneG G of q) n fun l => addI l q else G
def putO (G : List (ByteArray × List Int)) (of : List (Int × ByteArray)) (q : Int) (n : ByteArray) : List (Int × ByteArray) := if puts G q n then kput (kdel of q) q n else of
def putN (G : List (ByteArray × List Int)) (of : List (Int × ByteArray)) (notes : List ByteArray) (q : Int) (n : ByteArray) : List ByteArray := if puts G q n then goneN G of notes q else notes
theorem put_calls (q : Int) (hq : -9223372036854775808 ≤ q ∧ q ≤ 9223372036854775807) (n : ByteArray) (hs : n.size ≤ 9223372036854775807) (hnl : notes.length ≤ 1000000) (hin : ∀ q n, kget of q = some n → (kget G n).isSome = true) (h : GroupsAt S w p G of notes) :
    Calls Try.prog 13 #[.pointer (some ⟨p, 0, none⟩), .int .i64 q, .string n] w (GPost S w p (.int .i64 (putE G q n)) (putG G of q n) (putO G of q n) (putN G of notes q n)) := by
  have hk := kok_string Try.underlying9 hs
  have hkq := kok_int (P := Try.prog) Try.underlying3 hq
  have H0 := Lib.hid h
  obtain ⟨b1, b2, v, gl, rfl, h⟩ := h
  have c0 := h.c0
  rcases find_grp gl n with ⟨h1, h2⟩ | ⟨b, l, hm, h1, h2⟩
  · have hp : puts (absL gl) q n = false := by simp [puts, h1]
    have e1 : putE (absL gl) q n = 90 := by simp [putE, h1]
    have e2 : putG (absL gl) of q n = absL gl := by simp [putG, hp]
    have e3 : putO (absL gl) of q n = of := by simp [putO, hp]
    have e4 : putN (absL gl) of notes q n = notes := by simp [putN, hp]
    rw [e1, e2, e3, e4]
    clear e1 e2 e3 e4 hp hin
    go_enter Try.func13, Try.ntmps13
    go_wp2_with (at_lookup; refine wpList_look2 _ rfl _ _ 141 rfl T141 b1 (grpL gl) rfl h.groups _ rfl hk ?_; rw [h2])
    go_ret
    exact ⟨rfl, S, ⟨b1, b2, v, gl, rfl, h⟩, Own.refl _ _⟩
  by_cases h2q : 2 ≤ q
  · have e1 : putE (absL gl) q n = 0 := by simp [putE, h1, h2q]
    rw [e1]
    clear e1
    have hlt : ¬ q < 2 := by omega
    rcases hmem : decide (q ∈ l) with _ | _
    · have hp : puts (absL gl) q n = true := by simp only [decide_eq_false_iff_not] at hmem; simp [puts, h1, h2q, hmem]
      have e2 : putG (absL gl) of q n = setIn (goneG (absL gl) of q) n fun l => addI l q := by simp [putG, hp]
      have e3 : putO (absL gl) of q n = kput (kdel of q) q n := by simp [putO, hp]
      have e4 : putN (absL gl) of notes q n = goneN (absL gl) of notes q := by simp [putN, hp]
      rw [e2, e3, e4]
      clear e2 e3 e4 hp
      have C := Lib.hid (has_calls (w := w) b l q hq (h.sets _ hm))
      have HM := Lib.hid hmem
      have hm2 : (n, b, l) ∈ goneL gl of q := by
        unfold goneL
        split
        · exact hm
        · refine List.mem_map.2 ⟨_, hm, ?_⟩
          simp only [decide_eq_false_iff_not] at hmem
          split
          · show (n, b, l.erase q) = (n, b, l)
            rw [List.erase_of_not_mem hmem]
          · rfl
      have HG := Lib.hid (fun W hW => gone_at (w := W) q hq hnl hin (h.below hW))
      clear hmem hin h1 H0
      obtain ⟨N', hN'⟩ : ∃ N', goneN (absL gl) of notes q = N' := ⟨_, rfl⟩
      rw [hN'] at HG ⊢
      clear hN'
      have hgl : setIn (goneG (absL gl) of q) n (fun l => addI l q) = absL (setB (goneL gl of q) n fun l => addI l q) := by rw [absL_setB, absL_goneL]
      rw [hgl]
      clear hgl
      go_enter Try.func13, Try.ntmps13
      go_wp2_with (first
        | (at_lookup; refine wpList_look2 _ rfl _ _ 141 rfl T141 b1 (grpL gl) rfl h.groups _ rfl hk ?_; rw [h2])
        | (go_at_call 89; refine C.out.mono ?_; rintro e w1 ⟨rfl, hb1⟩; rw [HM.out])
        | (go_at_call 12; refine (HG.out w1 hb1).mono ?_; rintro e w2 ⟨rfl, S2, v2, k2, u2⟩)
        | (go_at_call 90; refine (add_calls b l q hq (k2.sets _ hm2)).mono ?_; rintro e w3 ⟨rfl, hat3, hu3⟩; have k3 := k2.putSet (f := fun l => addI l q) hm2 hat3 hu3; have g1 := k3.c1)
        | (at_mapUpdate; refine wpList_upd _ rfl _ _ _ 142 rfl T142 b2 (kdel of q) rfl k3.of_ _ rfl hkq n rfl ?_; intro w4 hat4 hu4 hs4; have k4 := k3.putOf hat4 hu4))
      go_ret
      have u4 : Upd S2 w2 w4 := (hu3.mono fun k _ e => by rw [e]; exact k2.ss _ hm2).then hu4 fun i _ e => by rw [e]; exact k2.s2
      exact ⟨rfl, S2, ⟨b1, b2, v2, _, rfl, k4⟩, (Own.of_below S hb1).trans (u2.trans (Own.of_upd u4 fun _ h => .inl h))⟩
    · have hp : puts (absL gl) q n = false := by simp only [decide_eq_true_eq] at hmem; simp [puts, h1, h2q, hmem]
      have e2 : putG (absL gl) of q n = absL gl := by simp [putG, hp]
      have e3 : putO (absL gl) of q n = of := by simp [putO, hp]
      have e4 : putN (absL gl) of notes q n = notes := by simp [putN, hp]
      rw [e2, e3, e4]
      clear e2 e3 e4 hp
      have C := Lib.hid (has_calls (w := w) b l q hq (h.sets _ hm))
      have HM := Lib.hid hmem
      clear hmem hin
      go_enter Try.func13, Try.ntmps13
      go_wp2_with (first
        | (at_lookup; refine wpList_look2 _ rfl _ _ 141 rfl T141 b1 (grpL gl) rfl h.groups _ rfl hk ?_; rw [h2])
        | (go_at_call 89; refine C.out.mono ?_; rintro e w1 ⟨rfl, hb1⟩; rw [HM.out]))
      go_ret
      exact ⟨rfl, S, ⟨b1, b2, v, gl, rfl, h.below hb1⟩, Own.of_below _ hb1⟩
  · have hp : puts (absL gl) q n = false := by simp [puts, h2q]
    have e1 : putE (absL gl) q n = 90 := by simp [putE, h2q]
    have e2 : putG (absL gl) of q n = absL gl := by simp [putG, hp]
    have e3 : putO (absL gl) of q n = of := by simp [putO, hp]
    have e4 : putN (absL gl) of notes q n = notes := by simp [putN, hp]
    rw [e1, e2, e3, e4]
    clear e1 e2 e3 e4 hp hin
    have hlt : q < 2 := by omega
    go_enter Try.func13, Try.ntmps13
    go_wp2_with (at_lookup; refine wpList_look2 _ rfl _ _ 141 rfl T141 b1 (grpL gl) rfl h.groups _ rfl hk ?_; rw [h2])
    go_ret
    exact ⟨rfl, S, ⟨b1, b2, v, gl, rfl, h⟩, Own.refl _ _⟩

/-- A set's members, rising: of a map that may be nil. -/
theorem rising_calls (ob : Option Nat) (l : List Int) (hl : l.length ≤ 1000000) (h : ∀ b, ob = some b → MapAt Try.prog 3 (Value.int .i64) unitV w b (setL l)) (hn : ob = none → l = []) :
    Calls Try.prog 91 #[.map ob] w (RowPost 3 encI (fun ys => ∃ xs, xs.Perm l ∧ ys = risingI xs) w) := by
  have hbox : (w.alloc (.cells #[.map ob] 146)).heap[w.heap.size]? = some (.cells #[.map ob] 146) := hp_at _ rfl
  have hent : ∀ args w, (callFunc 137 args).run Try.prog w = .ok (.enter 137 args) w := fun _ _ => by kernel_rfl
  have C : Hid (Calls Try.prog 94 #[.func (.func 137) #[] #[.pointer (some ⟨w.heap.size, 0, none⟩)]] (w.alloc (.cells #[.map ob] 146)) (RowPost 3 encI (fun ys => ∃ xs, xs.Perm l ∧ ys = risingI xs) (w.alloc (.cells #[.map ob] 146)))) := by
    cases ob with
    | none =>
      have hl0 := hn rfl
      subst hl0
      exact Lib.hid (sorted94 137 _ _ (fun ks => ks.Perm []) _ hent (iterNil137 _ _ hbox) (fun b hb => by subst hb; simp) (fun xs hx => by rw [hx.length_eq]; exact hl))
    | some b =>
      have hb := (h b rfl).alloc (.cells #[.map (some b)] 146)
      have hi := iter137 w.heap.size b (setL l) _ hbox hb
      rw [setL_fst] at hi
      exact Lib.hid (sorted94 137 _ _ (fun ks => ks.Perm l) _ hent hi (fun k hk => by rcases hk with rfl | rfl; simp; exact hb.lt) (fun xs hx => by rw [hx.length_eq]; exact hl))
  clear hent hbox h hn
  go_enter Try.func91, Try.ntmps91
  go_wp2_with (first
    | (go_at_call 122; refine (keys137_calls ob w).mono ?_; rintro e w1 ⟨rfl, rfl⟩)
    | (go_at_call 94; refine C.out.mono ?_; rintro e w2 ⟨v, xs, rfl, h1, h2, h3⟩; obtain ⟨bb, nn, cc, rfl⟩ := h2.isSlice))
  go_ret
  exact ⟨_, xs, rfl, h1, h2.mono (by simp), ((Below.refl _ w).alloc (Nat.le_refl _) _).trans (h3.mono (by simp))⟩

/-- Members -/
theorem members_calls (n : ByteArray) (hs : n.size ≤ 9223372036854775807) (hl : ((kget G n).getD []).length ≤ 1000000) (h : GroupsAt S w p G of notes) :
    Calls Try.prog 15 #[.pointer (some ⟨p, 0, none⟩), .string n] w (RowPost 3 encI (fun ys => ∃ xs, xs.Perm ((kget G n).getD []) ∧ ys = risingI xs) w) := by
  have hk := kok_string Try.underlying9 hs
  obtain ⟨b1, b2, v, gl, rfl, h⟩ := h
  have c0 := h.c0
  obtain ⟨l, hl1⟩ : ∃ l, (kget (absL gl) n).getD [] = l := ⟨_, rfl⟩
  obtain ⟨ob, ho⟩ : ∃ ob, (kget (grpL gl) n).getD none = ob := ⟨_, rfl⟩
  have C : Hid (Calls Try.prog 91 #[.map ob] w (RowPost 3 encI (fun ys => ∃ xs, xs.Perm l ∧ ys = risingI xs) w)) := by
    rw [hl1] at hl
    refine Lib.hid (rising_calls ob l hl ?_ ?_) <;> rcases find_grp gl n with ⟨h1, h2⟩ | ⟨b, l', hm, h1, h2⟩ <;> rw [h1] at hl1 <;> rw [h2] at ho <;> subst hl1 <;> subst ho
    · intro b hb; cases hb
    · intro b' hb; cases hb; exact h.sets _ hm
    · exact fun _ => rfl
    · intro hb; cases hb
  rw [hl1]
  clear hl hl1
  go_enter Try.func15, Try.ntmps15
  go_wp2_with (first
    | (at_lookup; refine wpList_look1 _ rfl _ _ 141 rfl T141 b1 (grpL gl) rfl h.groups _ rfl hk ?_; rw [ho])
    | (go_at_call 91; refine C.out.mono ?_; rintro e w2 ⟨v, xs, rfl, h1, h2, h3⟩; obtain ⟨bb, nn, cc, rfl⟩ := h2.isSlice))
  go_ret
  exact ⟨_, xs, rfl, h1, h2, h3⟩
end
end Go.Proofs.Ytjbpghdgmpinpaa
