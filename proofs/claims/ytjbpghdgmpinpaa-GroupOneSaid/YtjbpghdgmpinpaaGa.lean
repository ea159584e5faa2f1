/- The groups (cgroup): their state, told as lists. -/
import Derived.Test.YtjbpghdgmpinpaaKc
namespace Go.Proofs.Ytjbpghdgmpinpaa
open Go.RowKit Go.Rv

/-- Of the blocks S of w some may have turned; those of S' are of S or new. -/
structure Own (S : Nat → Prop) (w : World) (S' : Nat → Prop) (w' : World) : Prop where
  upd : Upd S w w'
  new : ∀ k, S' k → S k ∨ w.heap.size ≤ k
theorem Own.refl (S : Nat → Prop) (w : World) : Own S w S w := ⟨Upd.refl _ _, fun _ h => .inl h⟩
theorem Own.trans {S S' S'' : Nat → Prop} {w w' w'' : World} (h : Own S w S' w') (k : Own S' w' S'' w'') : Own S w S'' w'' :=
  ⟨h.upd.then k.upd fun i hi hs => (h.new i hs).elim id fun h => by omega, fun i hi => (k.new i hi).elim (h.new i) fun h2 => .inr (by have := h.upd.size; omega)⟩
theorem Own.of_below {w w' : World} (S : Nat → Prop) (h : Below w.heap.size w w') : Own S w S w' := ⟨Upd.of_below_all h S, fun _ h => .inl h⟩
theorem Own.of_upd {S S' : Nat → Prop} {w w' : World} (h : Upd S w w') (hs : ∀ k, S' k → S k ∨ w.heap.size ≤ k) : Own S w S' w' := ⟨h, hs⟩

/-! ### the groups as lists -/
/-- A set as the map that it is. -/
def setL (l : List Int) : List (Int × Unit) := l.map fun z => (z, ())
def grpL (gl : List (ByteArray × Nat × List Int)) : List (ByteArray × Option Nat) := gl.map fun x => (x.1, some x.2.1)
def absL (gl : List (ByteArray × Nat × List Int)) : List (ByteArray × List Int) := gl.map fun x => (x.1, x.2.2)
def setIn {α : Type} (gl : List (ByteArray × α)) (n : ByteArray) (f : α → α) : List (ByteArray × α) := gl.map fun x => if x.1 = n then (x.1, f x.2) else x
def addI (l : List Int) (k : Int) : List Int := if k ∈ l then l else l ++ [k]

theorem kget_setL (l : List Int) (k : Int) : kget (setL l) k = if k ∈ l then some () else none := by
  induction l with
  | nil => rfl
  | cons a l ih =>
    show (if a = k then some () else kget (setL l) k) = _
    rw [ih]
    by_cases h : a = k
    · simp [h]
    · simp [h, Ne.symm h]
theorem kdel_setL (l : List Int) (k : Int) : kdel (setL l) k = setL (l.erase k) := by
  induction l with
  | nil => rfl
  | cons a l ih =>
    show (if a = k then setL l else (a, ()) :: kdel (setL l) k) = _
    rw [ih, List.erase_cons]
    by_cases h : a = k
    · simp [h]
    · simp [h]; rfl
theorem kput_setL (l : List Int) (k : Int) : kput (setL l) k () = setL (addI l k) := by
  induction l with
  | nil => rfl
  | cons a l ih =>
    show (if a = k then (k, ()) :: setL l else (a, ()) :: kput (setL l) k ()) = _
    rw [ih]
    by_cases h : a = k
    · subst h; simp [addI, setL]
    · by_cases hk : k ∈ l
      · simp [addI, h, hk, setL]
      · simp [addI, h, hk, Ne.symm h, setL]
theorem setL_length (l : List Int) : (setL l).length = l.length := by simp [setL]
theorem setL_fst (l : List Int) : (setL l).map Prod.fst = l := by simp [setL, Function.comp_def]
theorem grpL_fst (gl : List (ByteArray × Nat × List Int)) : (grpL gl).map Prod.fst = gl.map Prod.fst := by simp [grpL, Function.comp_def]
theorem absL_fst (gl : List (ByteArray × Nat × List Int)) : (absL gl).map Prod.fst = gl.map Prod.fst := by simp [absL, Function.comp_def]
theorem find_grp (gl : List (ByteArray × Nat × List Int)) (n : ByteArray) :
    (kget (absL gl) n = none ∧ kget (grpL gl) n = none) ∨ ∃ b l, (n, b, l) ∈ gl ∧ kget (absL gl) n = some l ∧ kget (grpL gl) n = some (some b) := by
  induction gl with
  | nil => exact .inl ⟨rfl, rfl⟩
  | cons x gl ih =>
    obtain ⟨m, b, l⟩ := x
    by_cases h : m = n
    · subst h
      exact .inr ⟨b, l, by simp, by simp [absL, kget], by simp [grpL, kget]⟩
    · rcases ih with ⟨h1, h2⟩ | ⟨b', l', h1, h2, h3⟩
      · exact .inl ⟨by simpa [absL, kget, h] using h1, by simpa [grpL, kget, h] using h2⟩
      · exact .inr ⟨b', l', by simp [h1], by simpa [absL, kget, h] using h2, by simpa [grpL, kget, h] using h3⟩
/-- A set's members turned. -/
def setB (gl : List (ByteArray × Nat × List Int)) (n : ByteArray) (f : List Int → List Int) : List (ByteArray × Nat × List Int) := setIn gl n fun x => (x.1, f x.2)
theorem absL_setB (gl : List (ByteArray × Nat × List Int)) (n : ByteArray) (f : List Int → List Int) : absL (setB gl n f) = setIn (absL gl) n f := by
  simp only [absL, setB, setIn, List.map_map]
  refine List.map_congr_left fun x _ => ?_
  simp only [Function.comp]
  split <;> rfl
theorem grpL_setB (gl : List (ByteArray × Nat × List Int)) (n : ByteArray) (f : List Int → List Int) : grpL (setB gl n f) = grpL gl := by
  simp only [grpL, setB, setIn, List.map_map]
  refine List.map_congr_left fun x _ => ?_
  simp only [Function.comp]
  split <;> rfl
theorem blocks_setB (gl : List (ByteArray × Nat × List Int)) (n : ByteArray) (f : List Int → List Int) : (setB gl n f).map (fun x => x.2.1) = gl.map fun x => x.2.1 := by
  simp only [setB, setIn, List.map_map]
  refine List.map_congr_left fun x _ => ?_
  simp only [Function.comp]
  split <;> rfl
theorem mem_setB {gl : List (ByteArray × Nat × List Int)} {n : ByteArray} {f : List Int → List Int} {y : ByteArray × Nat × List Int} (h : y ∈ setB gl n f) : ∃ x ∈ gl, (x.1 = n ∧ y = (x.1, x.2.1, f x.2.2)) ∨ (x.1 ≠ n ∧ y = x) := by
  obtain ⟨x, hx, rfl⟩ := List.mem_map.1 h
  refine ⟨x, hx, ?_⟩
  by_cases hn : x.1 = n
  · exact .inl ⟨hn, by simp [hn]⟩
  · exact .inr ⟨hn, by simp [hn]⟩

/-! ### the groups in the heap -/
structure GAt (S : Nat → Prop) (w : World) (p b1 b2 : Nat) (v : Value) (gl : List (ByteArray × Nat × List Int)) (of : List (Int × ByteArray)) (notes : List ByteArray) : Prop where
  obj : w.heap[p]? = some (.cells #[.map (some b1), .map (some b2), v] 144)
  groups : MapAt Try.prog 9 Value.string Value.map w b1 (grpL gl)
  of_ : MapAt Try.prog 3 (Value.int .i64) Value.string w b2 of
  row : RowAt 9 1 encS 0 v notes w
  sets : ∀ x ∈ gl, MapAt Try.prog 3 (Value.int .i64) unitV w x.2.1 (setL x.2.2)
  ne12 : b1 ≠ b2
  neS : ∀ x ∈ gl, x.2.1 ≠ b1 ∧ x.2.1 ≠ b2
  nd : (gl.map fun x => x.2.1).Nodup
  sp : S p
  s1 : S b1
  s2 : S b2
  sv : ∀ k, rowBlock v k → S k
  ss : ∀ x ∈ gl, S x.2.1
def GroupsAt (S : Nat → Prop) (w : World) (p : Nat) (G : List (ByteArray × List Int)) (of : List (Int × ByteArray)) (notes : List ByteArray) : Prop :=
  ∃ b1 b2 v gl, absL gl = G ∧ GAt S w p b1 b2 v gl of notes

section
variable {S S' : Nat → Prop} {w w' : World} {p b1 b2 : Nat} {v : Value} {gl : List (ByteArray × Nat × List Int)} {of : List (Int × ByteArray)} {notes : List ByteArray} {G : List (ByteArray × List Int)}
theorem GAt.mono (h : GAt S w p b1 b2 v gl of notes) (hs : ∀ k, S k → S' k) : GAt S' w p b1 b2 v gl of notes :=
  ⟨h.obj, h.groups, h.of_, h.row, h.sets, h.ne12, h.neS, h.nd, hs _ h.sp, hs _ h.s1, hs _ h.s2, fun k hk => hs _ (h.sv k hk), fun x hx => hs _ (h.ss x hx)⟩
theorem GAt.keep {T : Nat → Prop} (h : GAt S w p b1 b2 v gl of notes) (hu : Upd T w w') (hn : ∀ k, S k → ¬ T k) : GAt S w' p b1 b2 v gl of notes :=
  ⟨hu.at h.obj (hn _ h.sp), h.groups.keep hu (hn _ h.s1), h.of_.keep hu (hn _ h.s2), h.row.keep hu fun k hk => hn _ (h.sv k hk), fun x hx => (h.sets x hx).keep hu (hn _ (h.ss x hx)), h.ne12, h.neS, h.nd, h.sp, h.s1, h.s2, h.sv, h.ss⟩
theorem GAt.below (h : GAt S w p b1 b2 v gl of notes) (hb : Below w.heap.size w w') : GAt S w' p b1 b2 v gl of notes := h.keep (Upd.of_below_all hb fun _ => False) fun _ _ => id
theorem GroupsAt.mono (h : GroupsAt S w p G of notes) (hs : ∀ k, S k → S' k) : GroupsAt S' w p G of notes := by
  obtain ⟨b1, b2, v, gl, hg, h⟩ := h; exact ⟨b1, b2, v, gl, hg, h.mono hs⟩
theorem GroupsAt.keep {T : Nat → Prop} (h : GroupsAt S w p G of notes) (hu : Upd T w w') (hn : ∀ k, S k → ¬ T k) : GroupsAt S w' p G of notes := by
  obtain ⟨b1, b2, v, gl, hg, h⟩ := h; exact ⟨b1, b2, v, gl, hg, h.keep hu hn⟩
theorem GroupsAt.below (h : GroupsAt S w p G of notes) (hb : Below w.heap.size w w') : GroupsAt S w' p G of notes := h.keep (Upd.of_below_all hb fun _ => False) fun _ _ => id
theorem GAt.c0 (h : GAt S w p b1 b2 v gl of notes) : w.cell? ⟨p, 0, none⟩ = some (.map (some b1)) := by rw [hp_cell h.obj]; rfl
theorem GAt.c1 (h : GAt S w p b1 b2 v gl of notes) : w.cell? ⟨p, 1, none⟩ = some (.map (some b2)) := by rw [hp_cell h.obj]; rfl
theorem GAt.c2 (h : GAt S w p b1 b2 v gl of notes) : w.cell? ⟨p, 2, none⟩ = some v := by rw [hp_cell h.obj]; rfl
theorem GAt.f2 (h : GAt S w p b1 b2 v gl of notes) (i : Nat) : w.frozen? ⟨p, i, none⟩ = false := hp_frozen h.obj i
theorem MapAt.isMap {K V : Type} {kt : TypeId} {ek : K → Value} {ev : V → Value} {b : Nat} {m : List (K × V)} (h : MapAt Try.prog kt ek ev w b m) : ∃ es c, w.heap[b]? = some (.map es c) := by
  obtain ⟨es, c, hb, _⟩ := h; exact ⟨es, c, hb⟩
theorem MapAt.ne_cells {K V : Type} {kt : TypeId} {ek : K → Value} {ev : V → Value} {b k : Nat} {m : List (K × V)} (h : MapAt Try.prog kt ek ev w b m) {cs : Array Value} {t : TypeId} {fr : Nat × Nat} (hk : w.heap[k]? = some (.cells cs t fr)) : k ≠ b := fun e => by
  obtain ⟨es, c, hb⟩ := MapAt.isMap h
  rw [e, hb] at hk; cases hk
theorem GAt.row_ne (h : GAt S w p b1 b2 v gl of notes) {k : Nat} (hk : rowBlock v k) : k ≠ p ∧ k ≠ b1 ∧ k ≠ b2 ∧ ∀ x ∈ gl, k ≠ x.2.1 := by
  obtain ⟨cur, hc⟩ := h.row.obj hk
  refine ⟨fun e => ?_, MapAt.ne_cells h.groups hc, MapAt.ne_cells h.of_ hc, fun x hx => MapAt.ne_cells (h.sets x hx) hc⟩
  rw [e, h.obj] at hc; cases hc
theorem GAt.p_ne (h : GAt S w p b1 b2 v gl of notes) : p ≠ b1 ∧ p ≠ b2 ∧ ∀ x ∈ gl, p ≠ x.2.1 :=
  ⟨MapAt.ne_cells h.groups h.obj, MapAt.ne_cells h.of_ h.obj, fun x hx => MapAt.ne_cells (h.sets x hx) h.obj⟩
theorem GAt.names (h : GAt S w p b1 b2 v gl of notes) : (gl.map Prod.fst).Nodup := by have := h.groups.nodup; rwa [grpL_fst] at this
theorem nodup_at {α β : Type} {l : List α} {f : α → β} (h : (l.map f).Nodup) {x y : α} (hx : x ∈ l) (hy : y ∈ l) (e : f x = f y) : x = y := by
  induction l with
  | nil => cases hx
  | cons a l ih =>
    simp only [List.map_cons, List.nodup_cons] at h
    rcases List.mem_cons.1 hx with rfl | hx1
    · rcases List.mem_cons.1 hy with rfl | hy1
      · rfl
      · exact absurd (List.mem_map.2 ⟨y, hy1, e.symm⟩) h.1
    · rcases List.mem_cons.1 hy with rfl | hy1
      · exact absurd (List.mem_map.2 ⟨x, hx1, e⟩) h.1
      · exact ih h.2 hx1 hy1
/-- 'of' turned. -/
theorem GAt.putOf {of' : List (Int × ByteArray)} (h : GAt S w p b1 b2 v gl of notes) (ht : MapAt Try.prog 3 (Value.int .i64) Value.string w' b2 of') (hu : Upd (fun i => i = b2) w w') : GAt S w' p b1 b2 v gl of' notes :=
  ⟨hu.at h.obj h.p_ne.2.1, h.groups.keep hu h.ne12, ht, h.row.keep hu fun _ hk => (h.row_ne hk).2.2.1, fun x hx => (h.sets x hx).keep hu (h.neS x hx).2, h.ne12, h.neS, h.nd, h.sp, h.s1, h.s2, h.sv, h.ss⟩
/-- A set turned. -/
theorem GAt.putSet {n : ByteArray} {b : Nat} {l : List Int} {f : List Int → List Int} (h : GAt S w p b1 b2 v gl of notes) (hm : (n, b, l) ∈ gl) (ht : MapAt Try.prog 3 (Value.int .i64) unitV w' b (setL (f l))) (hu : Upd (fun i => i = b) w w') :
    GAt S w' p b1 b2 v (setB gl n f) of notes := by
  have hne := h.neS _ hm
  refine ⟨hu.at h.obj (h.p_ne.2.2 _ hm), by rw [grpL_setB]; exact h.groups.keep hu (Ne.symm hne.1), h.of_.keep hu (Ne.symm hne.2), h.row.keep hu fun _ hk => (h.row_ne hk).2.2.2 _ hm, fun y hy => ?_, h.ne12, fun y hy => ?_, by rw [blocks_setB]; exact h.nd, h.sp, h.s1, h.s2, h.sv, fun y hy => ?_⟩
  · obtain ⟨x, hx, ⟨h1, rfl⟩ | ⟨h1, rfl⟩⟩ := mem_setB hy
    · have : x = (n, b, l) := nodup_at h.names hx hm h1
      subst this
      exact ht
    · refine (h.sets y hx).keep hu fun e => h1 ?_
      rw [nodup_at h.nd hx hm e]
  · obtain ⟨x, hx, ⟨h1, rfl⟩ | ⟨h1, rfl⟩⟩ := mem_setB hy
    · exact h.neS x hx
    · exact h.neS y hx
  · obtain ⟨x, hx, ⟨h1, rfl⟩ | ⟨h1, rfl⟩⟩ := mem_setB hy
    · exact h.ss x hx
    · exact h.ss y hx
/-- The notes turned: the new slice is laid in the struct. -/
theorem GAt.putNotes {T : Nat → Prop} {v' : Value} {notes' : List ByteArray} {w1 : World} (h : GAt S w p b1 b2 v gl of notes) (hu : Upd T w w1) (hT : ∀ k, T k → k < w.heap.size → rowBlock v k) (hr : RowAt 9 1 encS 0 v' notes' w1) (hn : ∀ k, rowBlock v' k → rowBlock v k ∨ w.heap.size ≤ k) :
    GAt (fun k => S k ∨ w.heap.size ≤ k) (w1.setCell ⟨p, 2, none⟩ v') p b1 b2 v' gl of notes' ∧ Upd S w (w1.setCell ⟨p, 2, none⟩ v') := by
  have hlt := hp_lt h.obj
  have nT : ∀ k, k < w.heap.size → (∀ j, rowBlock v j → j ≠ k) → ¬ T k := fun k hk hj ht => hj k (hT k ht hk) rfl
  have o1 := hu.at h.obj (nT p hlt fun j hj => (h.row_ne hj).1)
  have hset := hp_setCell_same o1 2 v'
  have keepM : ∀ b, b < w.heap.size → (∀ j, rowBlock v j → j ≠ b) → b ≠ p → (w1.setCell ⟨p, 2, none⟩ v').heap[b]? = w.heap[b]? := fun b hb hj hbp =>
    (hp_setCell_other (p := ⟨p, 2, none⟩) v' hbp).trans (hu.block b hb (nT b hb hj))
  have p1 : ∀ k, rowBlock v' k → k ≠ p := fun k hk e => by
    rcases hn k hk with h1 | h1
    · exact (h.row_ne h1).1 e
    · omega
  refine ⟨⟨hset, h.groups.same (keepM _ h.groups.lt (fun j hj => (h.row_ne hj).2.1) (Ne.symm h.p_ne.1)), h.of_.same (keepM _ h.of_.lt (fun j hj => (h.row_ne hj).2.2.1) (Ne.symm h.p_ne.2.1)), hr.keep (upd_setCell w1 p 2 v') p1,
    fun x hx => (h.sets x hx).same (keepM _ (h.sets x hx).lt (fun j hj => (h.row_ne hj).2.2.2 x hx) (Ne.symm (h.p_ne.2.2 x hx))), h.ne12, h.neS, h.nd, .inl h.sp, .inl h.s1, .inl h.s2, fun k hk => (hn k hk).imp (h.sv k) id, fun x hx => .inl (h.ss x hx)⟩, ?_⟩
  exact (hu.mono fun k hk ht => h.sv k (hT k ht hk)).setCell (fun _ => h.sp) v'
/-- A group more. -/
theorem GAt.putNew {n : ByteArray} {b : Nat} (h : GAt S w p b1 b2 v gl of notes) (hu0 : Upd (fun _ => False) w w') {w'' : World} (hb : b = w.heap.size) (hs : MapAt Try.prog 3 (Value.int .i64) unitV w' b []) (ht : MapAt Try.prog 9 Value.string Value.map w'' b1 (grpL (gl ++ [(n, b, [])]))) (hu : Upd (fun i => i = b1) w' w'') :
    GAt (fun k => S k ∨ w.heap.size ≤ k) w'' p b1 b2 v (gl ++ [(n, b, [])]) of notes := by
  have h' := h.keep hu0 fun _ _ => id
  have hb1 : b ≠ b1 := by have := h.groups.lt; omega
  have hb2 : b ≠ b2 := by have := h.of_.lt; omega
  refine ⟨hu.at h'.obj h.p_ne.1, ht, h'.of_.keep hu (Ne.symm h.ne12), h'.row.keep hu fun _ hk => (h.row_ne hk).2.1, fun x hx => ?_, h.ne12, fun x hx => ?_, ?_, .inl h.sp, .inl h.s1, .inl h.s2, fun k hk => .inl (h.sv k hk), fun x hx => ?_⟩
  · rcases List.mem_append.1 hx with hx | hx
    · exact (h'.sets x hx).keep hu (h.neS x hx).1
    · simp only [List.mem_singleton] at hx; subst hx
      exact hs.keep hu hb1
  · rcases List.mem_append.1 hx with hx | hx
    · exact h.neS x hx
    · simp only [List.mem_singleton] at hx; subst hx
      exact ⟨hb1, hb2⟩
  · rw [List.map_append]
    refine List.nodup_append.2 ⟨h.nd, by simp, ?_⟩
    intro a ha c hc e
    obtain ⟨x, hx, rfl⟩ := List.mem_map.1 ha
    simp only [List.map_cons, List.map_nil, List.mem_singleton] at hc
    have := (h.sets x hx).lt
    omega
  · rcases List.mem_append.1 hx with hx | hx
    · exact .inl (h.ss x hx)
    · simp only [List.mem_singleton] at hx; subst hx
      exact .inr (Nat.le_of_eq hb.symm)
end
end Go.Proofs.Ytjbpghdgmpinpaa
