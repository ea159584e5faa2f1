/- Plain laws, over any program: what a map's block holds, told as a list of keys and values in the order in which they came; what may turn between two worlds. -/
import Derived.Maps.OwnIn
import Derived.Maps.OwnSet
import Derived.Maps.RangeRun
import Derived.WalkKit
import Derived.OwnWalkIn
import Derived.Deep.Draws
namespace Go.Rv
open Go.RowKit Go.Maps Go.MapKept
open Go.ChangeMaps (setBlock heap_setBlock_same heap_setBlock_other)

/-! ### lists of keys and values -/
section assoc
variable {K V : Type} [DecidableEq K]

def kget : List (K × V) → K → Option V
  | [], _ => none
  | p :: m, k => if p.1 = k then some p.2 else kget m k

def kput : List (K × V) → K → V → List (K × V)
  | [], k, v => [(k, v)]
  | p :: m, k, v => if p.1 = k then (k, v) :: m else p :: kput m k v

def kdel : List (K × V) → K → List (K × V)
  | [], _ => []
  | p :: m, k => if p.1 = k then m else p :: kdel m k

theorem look_upd_same (m : List (K × V)) (k : K) (v : V) : kget (kput m k v) k = some v := by
  induction m with
  | nil => simp [kput, kget]
  | cons p m ih => by_cases h : p.1 = k <;> simp [kput, kget, h, ih]

theorem look_upd_other (m : List (K × V)) {k k' : K} (v : V) (hne : k' ≠ k) : kget (kput m k v) k' = kget m k' := by
  induction m with
  | nil => simp [kput, kget, Ne.symm hne]
  | cons p m ih =>
    by_cases h : p.1 = k
    · subst h; simp [kput, kget, Ne.symm hne]
    · simp [kput, kget, h, ih]

theorem look_upd (m : List (K × V)) (k k' : K) (v : V) : kget (kput m k v) k' = if k' = k then some v else kget m k' := by
  by_cases h : k' = k
  · subst h; simp [look_upd_same]
  · simp [h, look_upd_other m v h]

theorem look_none_iff (m : List (K × V)) (k : K) : kget m k = none ↔ ∀ p ∈ m, p.1 ≠ k := by
  induction m with
  | nil => simp [kget]
  | cons p m ih => by_cases h : p.1 = k <;> simp [kget, h, ih]

theorem look_mem {m : List (K × V)} {k : K} {v : V} (h : kget m k = some v) : (k, v) ∈ m := by
  induction m with
  | nil => simp [kget] at h
  | cons p m ih =>
    by_cases hp : p.1 = k
    · simp [kget, hp] at h; subst h; subst hp; simp
    · simp [kget, hp] at h; exact List.mem_cons_of_mem _ (ih h)

theorem look_isSome_iff (m : List (K × V)) (k : K) : (kget m k).isSome = true ↔ k ∈ m.map Prod.fst := by
  constructor
  · intro h
    obtain ⟨v, hv⟩ := Option.isSome_iff_exists.1 h
    exact List.mem_map.2 ⟨_, look_mem hv, rfl⟩
  · intro h
    obtain ⟨p, hp, rfl⟩ := List.mem_map.1 h
    cases hl : kget m p.1 with
    | some v => rfl
    | none => exact absurd rfl ((look_none_iff m p.1).1 hl p hp)

theorem look_of_mem {m : List (K × V)} (hn : (m.map Prod.fst).Nodup) {p : K × V} (hp : p ∈ m) : kget m p.1 = some p.2 := by
  induction m with
  | nil => cases hp
  | cons q m ih =>
    simp only [List.map_cons, List.nodup_cons] at hn
    rcases List.mem_cons.1 hp with rfl | hp
    · simp [kget]
    · have : q.1 ≠ p.1 := fun e => hn.1 (by rw [e]; exact List.mem_map.2 ⟨p, hp, rfl⟩)
      simp [kget, this, ih hn.2 hp]

theorem keys_upd (m : List (K × V)) (k : K) (v : V) : (kput m k v).map Prod.fst = if k ∈ m.map Prod.fst then m.map Prod.fst else m.map Prod.fst ++ [k] := by
  induction m with
  | nil => simp [kput]
  | cons p m ih =>
    by_cases h : p.1 = k
    · simp [kput, h]
    · have h' : k ≠ p.1 := Ne.symm h
      simp only [kput, h, if_false, List.map_cons, ih, List.mem_cons, h', false_or]
      split <;> simp

theorem nodup_upd {m : List (K × V)} (hn : (m.map Prod.fst).Nodup) (k : K) (v : V) : ((kput m k v).map Prod.fst).Nodup := by
  rw [keys_upd]
  split
  · exact hn
  · rename_i h
    refine List.nodup_append.2 ⟨hn, by simp, ?_⟩
    intro a ha b hb
    simp only [List.mem_singleton] at hb
    subst hb
    exact fun e => h (e ▸ ha)

theorem mem_keys_upd (m : List (K × V)) (k : K) (v : V) (x : K) : x ∈ (kput m k v).map Prod.fst ↔ x = k ∨ x ∈ m.map Prod.fst := by
  rw [keys_upd]
  split
  · rename_i h
    constructor
    · exact Or.inr
    · rintro (rfl | h')
      · exact h
      · exact h'
  · simp [or_comm]

theorem del_sublist (m : List (K × V)) (k : K) : (kdel m k).Sublist m := by
  induction m with
  | nil => simp [kdel]
  | cons p m ih =>
    by_cases h : p.1 = k
    · simp [kdel, h]
    · simp [kdel, h, ih]

theorem nodup_del {m : List (K × V)} (hn : (m.map Prod.fst).Nodup) (k : K) : ((kdel m k).map Prod.fst).Nodup :=
  ((del_sublist m k).map _).nodup hn

theorem look_del_other (m : List (K × V)) {k k' : K} (hne : k' ≠ k) : kget (kdel m k) k' = kget m k' := by
  induction m with
  | nil => simp [kdel]
  | cons p m ih =>
    by_cases h : p.1 = k
    · subst h; simp [kdel, kget, Ne.symm hne]
    · simp [kdel, kget, h, ih]

theorem look_del_same {m : List (K × V)} (hn : (m.map Prod.fst).Nodup) (k : K) : kget (kdel m k) k = none := by
  induction m with
  | nil => simp [kdel, kget]
  | cons p m ih =>
    simp only [List.map_cons, List.nodup_cons] at hn
    by_cases h : p.1 = k
    · subst h
      simp only [kdel, if_true]
      exact (look_none_iff _ _).2 fun q hq e => hn.1 (e ▸ List.mem_map.2 ⟨q, hq, rfl⟩)
    · simp [kdel, kget, h, ih hn.2]

theorem look_del {m : List (K × V)} (hn : (m.map Prod.fst).Nodup) (k k' : K) : kget (kdel m k) k' = if k' = k then none else kget m k' := by
  by_cases h : k' = k
  · subst h; simp [look_del_same hn]
  · simp [h, look_del_other m h]

theorem mem_keys_del {m : List (K × V)} (hn : (m.map Prod.fst).Nodup) (k x : K) : x ∈ (kdel m k).map Prod.fst ↔ x ≠ k ∧ x ∈ m.map Prod.fst := by
  rw [← look_isSome_iff, ← look_isSome_iff, look_del hn]
  by_cases h : x = k <;> simp [h]

theorem length_upd (m : List (K × V)) (k : K) (v : V) : (kput m k v).length ≤ m.length + 1 := by
  induction m with
  | nil => simp [kput]
  | cons p m ih => by_cases h : p.1 = k <;> simp [kput, h]; omega

theorem length_upd' (m : List (K × V)) (k : K) (v : V) : (kput m k v).length = if (kget m k).isSome then m.length else m.length + 1 := by
  induction m with
  | nil => simp [kput, kget]
  | cons p m ih =>
    by_cases h : p.1 = k
    · simp [kput, kget, h]
    · simp only [kput, kget, h, if_false, List.length_cons, ih]; split <;> rfl

theorem length_del (m : List (K × V)) (k : K) : (kdel m k).length ≤ m.length := (del_sublist m k).length_le

theorem length_del' (m : List (K × V)) (k : K) : (kdel m k).length + (if (kget m k).isSome then 1 else 0) = m.length := by
  induction m with
  | nil => simp [kdel, kget]
  | cons p m ih =>
    by_cases h : p.1 = k
    · simp [kdel, kget, h]
    · simp only [kdel, kget, h, if_false, List.length_cons]; omega

theorem upd_eq_set {m : List (K × V)} (hn : (m.map Prod.fst).Nodup) {j : Nat} {k : K} {v0 : V} (h : m[j]? = some (k, v0)) (v : V) : kput m k v = m.set j (k, v) := by
  induction m generalizing j with
  | nil => simp at h
  | cons p m ih =>
    simp only [List.map_cons, List.nodup_cons] at hn
    cases j with
    | zero => simp at h; subst h; simp [kput]
    | succ j =>
      simp at h
      have : p.1 ≠ k := fun e => hn.1 (by rw [e]; exact List.mem_map.2 ⟨(k, v0), List.mem_of_getElem? h, rfl⟩)
      simp [kput, this, ih hn.2 h]

theorem del_eq_erase {m : List (K × V)} (hn : (m.map Prod.fst).Nodup) {j : Nat} {k : K} {v0 : V} (h : m[j]? = some (k, v0)) : kdel m k = m.eraseIdx j := by
  induction m generalizing j with
  | nil => simp at h
  | cons p m ih =>
    simp only [List.map_cons, List.nodup_cons] at hn
    cases j with
    | zero => simp at h; subst h; simp [kdel]
    | succ j =>
      simp at h
      have : p.1 ≠ k := fun e => hn.1 (by rw [e]; exact List.mem_map.2 ⟨(k, v0), List.mem_of_getElem? h, rfl⟩)
      simp [kdel, this, ih hn.2 h]

theorem upd_of_none {m : List (K × V)} {k : K} (h : kget m k = none) (v : V) : kput m k v = m ++ [(k, v)] := by
  induction m with
  | nil => simp [kput]
  | cons p m ih =>
    by_cases hp : p.1 = k
    · simp [kget, hp] at h
    · simp [kget, hp] at h; simp [kput, hp, ih h]

theorem del_of_none {m : List (K × V)} {k : K} (h : kget m k = none) : kdel m k = m := by
  induction m with
  | nil => simp [kdel]
  | cons p m ih =>
    by_cases hp : p.1 = k
    · simp [kget, hp] at h
    · simp [kget, hp] at h; simp [kdel, hp, ih h]
end assoc

/-! ### what may turn between two worlds -/

/-- Of the blocks of w those of S may have turned; new ones may have come. -/
structure Upd (S : Nat → Prop) (w w' : World) : Prop where
  os : w'.os = w.os
  tape : w'.tape = w.tape
  output : w'.output = w.output
  size : w.heap.size ≤ w'.heap.size
  block : ∀ k, k < w.heap.size → ¬ S k → w'.heap[k]? = w.heap[k]?

section kput
variable {S S' : Nat → Prop} {w w' w'' : World}
theorem Upd.refl (S : Nat → Prop) (w : World) : Upd S w w := ⟨rfl, rfl, rfl, Nat.le_refl _, fun _ _ _ => rfl⟩
theorem Upd.trans (h : Upd S w w') (k : Upd S w' w'') : Upd S w w'' :=
  ⟨k.os.trans h.os, k.tape.trans h.tape, k.output.trans h.output, Nat.le_trans h.size k.size, fun i hi hn => (k.block i (Nat.lt_of_lt_of_le hi h.size) hn).trans (h.block i hi hn)⟩
theorem Upd.mono (h : Upd S w w') (hs : ∀ k, k < w.heap.size → S k → S' k) : Upd S' w w' :=
  ⟨h.os, h.tape, h.output, h.size, fun k hk hn => h.block k hk fun hs' => hn (hs k hk hs')⟩
/-- Two steps, of which the second may turn what the first has laid, too. -/
theorem Upd.then {S2 : Nat → Prop} (h : Upd S w w') (k : Upd S2 w' w'') (hs : ∀ i, i < w.heap.size → S2 i → S i) : Upd S w w'' :=
  ⟨k.os.trans h.os, k.tape.trans h.tape, k.output.trans h.output, Nat.le_trans h.size k.size, fun i hi hn => (k.block i (Nat.lt_of_lt_of_le hi h.size) fun h2 => hn (hs i hi h2)).trans (h.block i hi hn)⟩
theorem Upd.alloc (h : Upd S w w') (o : Obj) : Upd S w (w'.alloc o) :=
  h.trans ⟨rfl, rfl, rfl, by simp, fun k hk _ => Below.heap_alloc _ _ _ hk⟩
theorem Upd.drew (h : Upd S w w') : Upd S w w'.drew := ⟨h.os, h.tape, h.output, h.size, h.block⟩
theorem Upd.drewN (h : Upd S w w') (n : Nat) : Upd S w (w'.drewN n) := ⟨h.os, h.tape, h.output, h.size, h.block⟩
theorem Upd.setCell (h : Upd S w w') {p : Addr} (hp : p.block < w.heap.size → S p.block) (u : Value) : Upd S w (w'.setCell p u) :=
  h.then (S2 := fun k => k = p.block) ⟨rfl, rfl, rfl, by simp, fun k _ hn => Below.heap_setCell _ _ _ _ hn⟩ fun i hi e => by subst e; exact hp hi
theorem Upd.grown {row : Option Nat} (h : Upd S w w') (hg : w'.grownBy w'' row) (hr : ∀ k, row = some k → k < w.heap.size → S k) : Upd S w w'' :=
  h.then (S2 := fun k => row = some k) ⟨hg.os, hg.tape, hg.output, hg.size, fun k hk hn => hg.block k hk fun e => hn e.symm⟩ fun i hi e => hr i e hi
theorem Upd.of_grown {row : Option Nat} (hg : w.grownBy w' row) : Upd (fun k => row = some k) w w' :=
  ⟨hg.os, hg.tape, hg.output, hg.size, fun k hk hn => hg.block k hk fun e => hn e.symm⟩
theorem Upd.of_below {B : Nat} (h : Below B w w') : Upd (fun k => B ≤ k) w w' :=
  ⟨h.os, h.tape, h.output, h.size, fun k _ hn => h.block k (by omega)⟩
theorem Upd.of_below_all (h : Below w.heap.size w w') (S : Nat → Prop) : Upd S w w' :=
  ⟨h.os, h.tape, h.output, h.size, fun k hk _ => h.block k hk⟩
theorem Upd.below {B : Nat} (h : Upd S w w') (hB : B ≤ w.heap.size) (hS : ∀ k, k < B → ¬ S k) : Below B w w' :=
  ⟨h.os, h.tape, h.output, h.size, fun k hk => h.block k (by omega) (hS k hk)⟩
theorem Upd.at (h : Upd S w w') {b : Nat} {o : Obj} (hb : w.heap[b]? = some o) (hn : ¬ S b) : w'.heap[b]? = some o :=
  (h.block b (Array.getElem?_eq_some_iff.1 hb).1 hn).trans hb
theorem Upd.cell (h : Upd S w w') {p : Addr} (hp : p.block < w.heap.size) (hn : ¬ S p.block) : w'.cell? p = w.cell? p :=
  World.cell?_of_block (w := w) (h.block p.block hp hn)
theorem Upd.frozen (h : Upd S w w') {p : Addr} (hp : p.block < w.heap.size) (hn : ¬ S p.block) : w'.frozen? p = w.frozen? p :=
  World.frozen?_of_block (w := w) (h.block p.block hp hn)
end kput

theorem hp_lt {w : World} {b : Nat} {o : Obj} (h : w.heap[b]? = some o) : b < w.heap.size := (Array.getElem?_eq_some_iff.1 h).1
theorem hp_alloc (w : World) (o : Obj) (i : Nat) : (w.alloc o).heap[i]? = if i = w.heap.size then some o else w.heap[i]? := by
  show (w.heap.push o)[i]? = _
  rw [Array.getElem?_push]
theorem hp_alloc_new (w : World) (o : Obj) : (w.alloc o).heap[w.heap.size]? = some o := (MapKept.heap_alloc w o).1
theorem hp_alloc_old {w : World} {b : Nat} {o' : Obj} (o : Obj) (h : w.heap[b]? = some o') : (w.alloc o).heap[b]? = some o' :=
  (Below.heap_alloc _ _ _ (hp_lt h)).trans h
theorem hp_at {w : World} {n : Nat} (o : Obj) (h : n = w.heap.size) : (w.alloc o).heap[n]? = some o := by rw [h]; exact hp_alloc_new w o
theorem upd_setCell (w : World) (b i : Nat) (v : Value) : Upd (fun k => k = b) w (w.setCell ⟨b, i, none⟩ v) := Upd.setCell (p := ⟨b, i, none⟩) (Upd.refl (fun k => k = b) w) (fun _ => rfl) v
theorem upd_alloc (S : Nat → Prop) (w : World) (o : Obj) : Upd S w (w.alloc o) := (Upd.refl _ w).alloc o
theorem hp_cell {w : World} {b : Nat} {cs : Array Value} {t : TypeId} {fr : Nat × Nat} (h : w.heap[b]? = some (.cells cs t fr)) (i : Nat) : w.cell? ⟨b, i, none⟩ = cs[i]? := by
  simp [World.cell?, h]
theorem hp_frozen {w : World} {b : Nat} {cs : Array Value} {t : TypeId} (h : w.heap[b]? = some (.cells cs t (0, 0))) (i : Nat) : w.frozen? ⟨b, i, none⟩ = false := by
  simp [World.frozen?, h]
theorem hp_setCell_same {w : World} {b : Nat} {cs : Array Value} {t : TypeId} {fr : Nat × Nat} (h : w.heap[b]? = some (.cells cs t fr)) (i : Nat) (v : Value) :
    (w.setCell ⟨b, i, none⟩ v).heap[b]? = some (.cells (cs.setIfInBounds i v) t fr) := by
  simp [World.setCell, Array.getElem?_modify, h]
theorem hp_setCell_other {w : World} {b : Nat} {p : Addr} (v : Value) (h : b ≠ p.block) : (w.setCell p v).heap[b]? = w.heap[b]? := Below.heap_setCell _ _ _ _ h

/-! ### a map's block -/
section mapat
variable {P : Program} {K V : Type} {kt : TypeId} {ek : K → Value} {ev : V → Value} {w w' : World} {b : Nat} {m : List (K × V)}

theorem nodup_of_map {α β : Type} {f : α → β} {l : List α} (h : (l.map f).Nodup) : l.Nodup := by
  induction l with
  | nil => exact List.nodup_nil
  | cons x l ih =>
    simp only [List.map_cons, List.nodup_cons] at h ⊢
    exact ⟨fun hx => h.1 (List.mem_map.2 ⟨x, hx, rfl⟩), ih h.2⟩

/-- Block b is a map that holds just m, in the order in which the keys came. -/
def MapAt (P : Program) (kt : TypeId) (ek : K → Value) (ev : V → Value) (w : World) (b : Nat) (m : List (K × V)) : Prop :=
  ∃ es clock, w.heap[b]? = some (.map es clock) ∧ Stamped es clock ∧ es.toList.map (fun e => (e.key, e.val)) = m.map (fun p => (ek p.1, ev p.2)) ∧ ∀ p ∈ m, ∃ l, keyOf P kt (ek p.1) = some l

theorem MapAt.lt (h : MapAt P kt ek ev w b m) : b < w.heap.size := by obtain ⟨es, c, hb, _⟩ := h; exact hp_lt hb
theorem MapAt.same (h : MapAt P kt ek ev w b m) (hs : w'.heap[b]? = w.heap[b]?) : MapAt P kt ek ev w' b m := by
  obtain ⟨es, c, hb, r⟩ := h; exact ⟨es, c, hs.trans hb, r⟩
theorem MapAt.keep {S : Nat → Prop} (h : MapAt P kt ek ev w b m) (hu : Upd S w w') (hn : ¬ S b) : MapAt P kt ek ev w' b m := h.same (hu.block b h.lt hn)
theorem MapAt.alloc (h : MapAt P kt ek ev w b m) (o : Obj) : MapAt P kt ek ev (w.alloc o) b m := h.same (Below.heap_alloc _ _ _ h.lt)
theorem mapAt_made (w : World) (P : Program) (kt : TypeId) (ek : K → Value) (ev : V → Value) : MapAt P kt ek ev (w.alloc (.map #[] 0)) w.heap.size [] :=
  ⟨#[], 0, hp_alloc_new w _, stamped_empty 0, rfl, by simp⟩
theorem MapAt.nodup (h : MapAt P kt ek ev w b m) : (m.map Prod.fst).Nodup := by
  obtain ⟨es, c, _, hs, hm, _⟩ := h
  have h3 := hs.2.2
  have e : es.toList.map (·.key) = m.map fun p => ek p.1 := by
    have := congrArg (List.map Prod.fst) hm
    simpa [Function.comp_def] using this
  rw [e] at h3
  have : m.map (fun p => ek p.1) = (m.map Prod.fst).map ek := by simp [Function.comp_def]
  rw [this] at h3
  exact nodup_of_map h3
theorem MapAt.key (h : MapAt P kt ek ev w b m) {p : K × V} (hp : p ∈ m) : ∃ l, keyOf P kt (ek p.1) = some l := by
  obtain ⟨es, c, _, _, _, hk⟩ := h; exact hk p hp

theorem at_of_map {α β γ : Type} {f : α → γ} {g : β → γ} {l : List α} {l' : List β} (h : l.map f = l'.map g) {j : Nat} {x : α} (hx : l[j]? = some x) : ∃ y, l'[j]? = some y ∧ f x = g y := by
  have := congrArg (fun l => l[j]?) h
  simp only [List.getElem?_map, hx, Option.map_some] at this
  cases hy : l'[j]? with
  | none => rw [hy] at this; cases this
  | some y => rw [hy] at this; exact ⟨y, rfl, by simpa using this⟩

theorem keys_of_map {es : Array MapEntry} (hm : es.toList.map (fun e => (e.key, e.val)) = m.map (fun p => (ek p.1, ev p.2))) (hk : ∀ p ∈ m, ∃ l, keyOf P kt (ek p.1) = some l) :
    ∀ e ∈ es.toList, ∃ l, keyOf P kt e.key = some l := fun e he => by
  obtain ⟨j, hj, rfl⟩ := List.getElem_of_mem he
  obtain ⟨y, hy, e1⟩ := at_of_map hm (List.getElem?_eq_getElem hj)
  simp only [Prod.mk.injEq] at e1
  rw [e1.1]
  exact hk y (List.mem_of_getElem? hy)

variable [DecidableEq K]

/-- Where a key stands, and that it stands nowhere. -/
theorem mapAt_find (Kd : Keyed P kt) (hinj : ∀ a b, ek a = ek b → a = b) {es : Array MapEntry} {clock : Nat} (hs : Stamped es clock) (hm : es.toList.map (fun e => (e.key, e.val)) = m.map (fun p => (ek p.1, ev p.2)))
    (hk : ∀ p ∈ m, ∃ l, keyOf P kt (ek p.1) = some l) (W : World) {k : K} {kl : Lit} (hkey : keyOf P kt (ek k) = some kl) :
    ((Instr.findKey kt (ek k) es.toList).run P W = .ok none W ∧ kget m k = none ∧ ∀ e ∈ es.toList, e.key ≠ ek k) ∨
    ∃ j e v, (Instr.findKey kt (ek k) es.toList).run P W = .ok (some (j, ev v)) W ∧ es.toList[j]? = some e ∧ e.key = ek k ∧ e.val = ev v ∧ m[j]? = some (k, v) ∧ kget m k = some v := by
  rcases Kd.find W hkey es.toList (keys_of_map hm hk) with ⟨h1, h2⟩ | ⟨j, e, h1, h2, h3⟩
  · refine .inl ⟨h1, (look_none_iff _ _).2 fun p hp e => ?_, h2⟩
    obtain ⟨j, hj, rfl⟩ := List.getElem_of_mem hp
    obtain ⟨y, hy, e1⟩ := at_of_map hm.symm (List.getElem?_eq_getElem hj)
    simp only [Prod.mk.injEq] at e1
    exact h2 y (List.mem_of_getElem? hy) (by rw [← e1.1, e])
  · obtain ⟨y, hy, e1⟩ := at_of_map hm h2
    simp only [Prod.mk.injEq] at e1
    have hyk : y.1 = k := hinj _ _ (e1.1.symm.trans h3)
    have hnd : (m.map Prod.fst).Nodup := by
      have h3 := hs.2.2
      have e : es.toList.map (·.key) = m.map fun p => ek p.1 := by
        have := congrArg (List.map Prod.fst) hm
        simpa [Function.comp_def] using this
      rw [e] at h3
      have : m.map (fun p => ek p.1) = (m.map Prod.fst).map ek := by simp [Function.comp_def]
      rw [this] at h3
      exact nodup_of_map h3
    refine .inr ⟨j, e, y.2, by rw [h1, e1.2], h2, h3, e1.2, ?_, ?_⟩
    · rw [hy, ← hyk]
    · rw [← hyk]; exact look_of_mem hnd (List.mem_of_getElem? hy)

theorem MapAt.run_look {t et : TypeId} (c : Bool) (h : MapAt P kt ek ev w b m) (Kd : Keyed P kt) (hinj : ∀ a b, ek a = ek b → a = b) (ht : P.underlying t = some (.map kt et)) {v0 : V} (hz : (zeroValue et).run P w = .ok (ev v0) w)
    {k : K} {kl : Lit} (hkey : keyOf P kt (ek k) = some kl) :
    (Instr.lookup t (.map (some b)) (ek k) c).run P w = .ok (if c then .tuple #[ev ((kget m k).getD v0), .bool (kget m k).isSome] else ev ((kget m k).getD v0)) w := by
  obtain ⟨es, clock, hb, hs, hm, hk⟩ := h
  rcases mapAt_find Kd hinj hs hm hk w hkey with ⟨h1, h2, _⟩ | ⟨j, e, v, h1, h2, h3, h4, h5, h6⟩
  · simp [Instr.lookup, run_underlying ht, MapKept.run_getObj_map hb, Kd.check w _ hkey, h1, hz, Result.andThen, h2]
  · simp [Instr.lookup, run_underlying ht, MapKept.run_getObj_map hb, Kd.check w _ hkey, h1, Result.andThen, h6]

/-- A nil map, asked. -/
theorem run_look_nil {t et : TypeId} (c : Bool) (Kd : Keyed P kt) (ht : P.underlying t = some (.map kt et)) {z : Value} (hz : (zeroValue et).run P w = .ok z w) {key : Value} {kl : Lit} (hkey : keyOf P kt key = some kl) :
    (Instr.lookup t (.map none) key c).run P w = .ok (if c then .tuple #[z, .bool false] else z) w :=
  Maps.look_nil c Kd ht hz hkey

theorem MapAt.run_upd {t et : TypeId} (h : MapAt P kt ek ev w b m) (Kd : Keyed P kt) (hinj : ∀ a b, ek a = ek b → a = b) (ht : P.underlying t = some (.map kt et))
    {k : K} {kl : Lit} (hkey : keyOf P kt (ek k) = some kl) (v : V) :
    ∃ w', (Instr.mapUpdate t (.map (some b)) (ek k) (ev v)).run P w = .ok () w' ∧ MapAt P kt ek ev w' b (kput m k v) ∧ Upd (fun i => i = b) w w' ∧ w'.heap.size = w.heap.size := by
  have hnd := h.nodup
  obtain ⟨es, clock, hb, hs, hm, hk⟩ := h
  have hu : ∀ es' c', Upd (fun i => i = b) w (setBlock w b (.map es' c')) := fun es' c' =>
    ⟨rfl, rfl, rfl, by simp [setBlock], fun i _ hi => heap_setBlock_other hb _ hi⟩
  rcases mapAt_find Kd hinj hs hm hk w hkey with ⟨h1, h2, h2'⟩ | ⟨j, e, v1, h1, h2, h3, h4, h5, h6⟩
  · refine ⟨setBlock w b (.map (es.push ⟨ek k, ev v, clock⟩) (clock + 1)), ?_, ⟨_, _, heap_setBlock_same hb _, stamped_push hs h2', ?_, ?_⟩, hu _ _, by simp [setBlock]⟩
    · simp [Instr.mapUpdate, run_underlying ht, MapKept.run_getObj_map hb, Kd.check w false hkey, h1, MapKept.run_setObj_map _ hb, Result.andThen, setBlock]
    · rw [upd_of_none h2]; simp [hm]
    · intro p hp
      rw [upd_of_none h2] at hp
      rcases List.mem_append.1 hp with hp | hp
      · exact hk p hp
      · simp only [List.mem_singleton] at hp; subst hp; exact ⟨kl, hkey⟩
  · have hj : es[j]? = some e := by simpa using h2
    have hlist : (es.modify j (fun e' => { e' with key := ek k, val := ev v })).toList = es.toList.set j { e with key := ek k, val := ev v } := by rw [Array.toList_modify, ChangeMaps.modify_eq_set _ _ _ _ h2]
    refine ⟨setBlock w b (.map (es.modify j (fun e' => { e' with key := ek k, val := ev v })) clock), ?_, ⟨_, _, heap_setBlock_same hb _, stamped_modify hs _ _ (fun _ _ => rfl) (fun e' _ he' => by rw [hj] at he'; cases he'; exact h3.symm), ?_, ?_⟩, hu _ _, by simp [setBlock]⟩
    · simp [Instr.mapUpdate, run_underlying ht, MapKept.run_getObj_map hb, Kd.check w false hkey, h1, hj, h3, Kd.stays w hkey, MapKept.run_setObj_map _ hb, Result.andThen, setBlock]
    · rw [hlist, upd_eq_set hnd h5, List.map_set, List.map_set, hm]
    · intro p hp
      rw [upd_eq_set hnd h5] at hp
      rcases List.mem_or_eq_of_mem_set hp with hp | rfl
      · exact hk p hp
      · exact ⟨kl, hkey⟩

theorem MapAt.run_del {t et ty : TypeId} (h : MapAt P kt ek ev w b m) (Kd : Keyed P kt) (hinj : ∀ a b, ek a = ek b → a = b) (ht : P.underlying t = some (.map kt et))
    {k : K} {kl : Lit} (hkey : keyOf P kt (ek k) = some kl) :
    ∃ w', (Builtin.delete_ #[t, kt] ty #[.map (some b), ek k]).run P w = .ok (.tuple #[]) w' ∧ MapAt P kt ek ev w' b (kdel m k) ∧ Upd (fun i => i = b) w w' ∧ w'.heap.size = w.heap.size := by
  have hnd := h.nodup
  obtain ⟨es, clock, hb, hs, hm, hk⟩ := h
  have hu : ∀ es' c', Upd (fun i => i = b) w (setBlock w b (.map es' c')) := fun es' c' =>
    ⟨rfl, rfl, rfl, by simp [setBlock], fun i _ hi => heap_setBlock_other hb _ hi⟩
  rcases mapAt_find Kd hinj hs hm hk w hkey with ⟨h1, h2, h2'⟩ | ⟨j, e, v1, h1, h2, h3, h4, h5, h6⟩
  · refine ⟨setBlock w b (.map es clock), ?_, ⟨_, _, heap_setBlock_same hb _, hs, ?_, ?_⟩, hu _ _, by simp [setBlock]⟩
    · simp [Builtin.delete_, run_underlying ht, MapKept.run_getObj_map hb, Kd.check w _ hkey, h1, MapKept.run_setObj_map _ hb, Result.andThen, setBlock]
    · rw [del_of_none h2]; exact hm
    · rw [del_of_none h2]; exact hk
  · have hjl : j < es.toList.length := (List.getElem?_eq_some_iff.1 h2).1
    have hjs : j < es.size := by simpa using hjl
    have hsub : (es.eraseIdxIfInBounds j).toList = es.toList.eraseIdx j := by
      unfold Array.eraseIdxIfInBounds
      rw [dif_pos hjs]
      simp
    have map_erase : ∀ {α β : Type} (f : α → β) (l : List α) (j : Nat), (l.eraseIdx j).map f = (l.map f).eraseIdx j := fun f l j => by
      induction l generalizing j with
      | nil => rfl
      | cons x l ih => cases j <;> simp [ih]
    refine ⟨setBlock w b (.map (es.eraseIdxIfInBounds j) clock), ?_, ⟨_, _, heap_setBlock_same hb _, stamped_erase hs j, ?_, ?_⟩, hu _ _, by simp [setBlock]⟩
    · simp [Builtin.delete_, run_underlying ht, MapKept.run_getObj_map hb, Kd.check w _ hkey, h1, MapKept.run_setObj_map _ hb, Result.andThen, setBlock]
    · rw [hsub, del_eq_erase hnd h5, map_erase, map_erase, hm]
    · intro p hp
      exact hk p ((del_sublist m k).subset hp)

omit [DecidableEq K] in
theorem MapAt.run_len {t et ty : TypeId} (h : MapAt P kt ek ev w b m) (ht : P.underlying t = some (.map kt et)) :
    (Builtin.len_ #[t] ty #[.map (some b)]).run P w = .ok (.int .i64 m.length) w := by
  obtain ⟨es, clock, hb, hs, hm, hk⟩ := h
  have hl : es.size = m.length := by have := congrArg List.length hm; simpa using this
  simp [Builtin.len_, run_underlying ht, MapKept.run_getObj_map hb, Result.andThen, goInt, hl]
end mapat
end Go.Rv
namespace Go.Rv
open Go.RowKit Go.Maps Go.MapKept
/-! ### a map's type, and the operations of the walk -/
/-- t is the type of the maps from K to V. -/
structure MapTy {K V : Type} (P : Program) (t kt et : TypeId) (ek : K → Value) (ev : V → Value) (v0 : V) : Prop where
  keyed : Keyed P kt
  inj : ∀ a b, ek a = ek b → a = b
  und : P.underlying t = some (.map kt et)
  zero : ∀ w, (zeroValue et).run P w = .ok (ev v0) w

/-- k may be a key. -/
def KOk {K : Type} (P : Program) (kt : TypeId) (ek : K → Value) (k : K) : Prop := ∃ l, keyOf P kt (ek k) = some l

theorem kok_string {P : Program} {kt : TypeId} (hk : P.underlying kt = some .string) {s : ByteArray} (hs : s.size ≤ 9223372036854775807) : KOk P kt Value.string s :=
  ⟨_, WideMaps.keyOf_string_mk hk (by unfold maxLen; omega)⟩
theorem kok_int {P : Program} {kt : TypeId} (hk : P.underlying kt = some (.int .i64)) {a : Int} (h : -9223372036854775808 ≤ a ∧ a ≤ 9223372036854775807) : KOk P kt (Value.int .i64) a :=
  ⟨_, Maps.keyOf_int_mk hk (by exact WalkArith.wf_i64 (by omega))⟩
theorem inj_string : ∀ a b : ByteArray, Value.string a = Value.string b → a = b := fun _ _ h => by cases h; rfl
theorem inj_int : ∀ a b : Int, Value.int .i64 a = Value.int .i64 b → a = b := fun _ _ h => by cases h; rfl

section arms
variable {P : Program} {K V : Type} [DecidableEq K] {ek : K → Value} {ev : V → Value} {v0 : V}
variable {F : Fence} {nF : Nat} {ops : Array Oper} {Q : Exit → Act → World → Prop} {a : Act} {rest : List Oper} {o : Oper}

theorem wpList_look2 (w : World) (hg : o.guard = none) (mo xo : Operand) (t : TypeId) (hop : o.op = Op.lookup t mo xo true) {kt et : TypeId} (T : MapTy P t kt et ek ev v0) (b : Nat) (m : List (K × V))
    (hm : a.eval mo = .map (some b)) (hat : MapAt P kt ek ev w b m) (k : K) (hx : a.eval xo = ek k) (hk : KOk P kt ek k)
    (hK : wpList P ops Q rest (a.put o.dst (.tuple #[ev ((kget m k).getD v0), .bool (kget m k).isSome])) w) : wpList P ops Q (o :: rest) a w := by
  obtain ⟨kl, hkey⟩ := hk
  refine wpList_plain hg fun K' hK' => ?_
  have hrun := hat.run_look true T.keyed T.inj T.und (T.zero w) hkey
  unfold Oper.wp
  simp [execOp, hop, hm, hx, hrun, Result.andThen]
  exact hK' _ _ hK

theorem wpList_look1 (w : World) (hg : o.guard = none) (mo xo : Operand) (t : TypeId) (hop : o.op = Op.lookup t mo xo false) {kt et : TypeId} (T : MapTy P t kt et ek ev v0) (b : Nat) (m : List (K × V))
    (hm : a.eval mo = .map (some b)) (hat : MapAt P kt ek ev w b m) (k : K) (hx : a.eval xo = ek k) (hk : KOk P kt ek k)
    (hK : wpList P ops Q rest (a.put o.dst (ev ((kget m k).getD v0))) w) : wpList P ops Q (o :: rest) a w := by
  obtain ⟨kl, hkey⟩ := hk
  refine wpList_plain hg fun K' hK' => ?_
  have hrun := hat.run_look false T.keyed T.inj T.und (T.zero w) hkey
  unfold Oper.wp
  simp [execOp, hop, hm, hx, hrun, Result.andThen]
  exact hK' _ _ hK

theorem wpList_upd (w : World) (hg : o.guard = none) (mo xo vo : Operand) (t : TypeId) (hop : o.op = Op.mapUpdate t mo xo vo) {kt et : TypeId} (T : MapTy P t kt et ek ev v0) (b : Nat) (m : List (K × V))
    (hm : a.eval mo = .map (some b)) (hat : MapAt P kt ek ev w b m) (k : K) (hx : a.eval xo = ek k) (hk : KOk P kt ek k) (v : V) (hv : a.eval vo = ev v)
    (hK : ∀ w', MapAt P kt ek ev w' b (kput m k v) → Upd (fun i => i = b) w w' → Hid (w'.heap.size = w.heap.size) → wpList P ops Q rest (a.put o.dst undef) w') : wpList P ops Q (o :: rest) a w := by
  obtain ⟨kl, hkey⟩ := hk
  refine wpList_plain hg fun K' hK' => ?_
  obtain ⟨w', hrun, r1, r2, r3⟩ := hat.run_upd T.keyed T.inj T.und hkey v
  unfold Oper.wp
  simp [execOp, hop, hm, hx, hv, hrun, Result.andThen]
  exact hK' _ _ (hK w' r1 r2 r3)

theorem wpList_del (w : World) (hg : o.guard = none) (mo xo : Operand) (t kt : TypeId) (hop : o.op = Op.call { callee := Callee.builtin Builtin.delete, args := #[mo, xo], argTypes := #[t, kt] }) {et : TypeId} (T : MapTy P t kt et ek ev v0) (b : Nat) (m : List (K × V))
    (hm : a.eval mo = .map (some b)) (hat : MapAt P kt ek ev w b m) (k : K) (hx : a.eval xo = ek k) (hk : KOk P kt ek k)
    (hK : ∀ w', MapAt P kt ek ev w' b (kdel m k) → Upd (fun i => i = b) w w' → Hid (w'.heap.size = w.heap.size) → wpList P ops Q rest (a.put o.dst (.tuple #[])) w') : wpList P ops Q (o :: rest) a w := by
  obtain ⟨kl, hkey⟩ := hk
  refine wpList_plain hg fun K' hK' => ?_
  obtain ⟨w', hrun, r1, r2, r3⟩ := hat.run_del (ty := o.type) T.keyed T.inj T.und hkey
  unfold Oper.wp
  simp [execOp, hop, resolve, invoke, builtin, hm, hx, hrun, Result.andThen]
  exact hK' _ _ (hK w' r1 r2 r3)

theorem wpList_ins {d : Option Tmp} {mo xo vo : Operand} {t : TypeId} {ty : TypeId} {ps : String} {af : Array Edge} (w : World) {kt et : TypeId} (T : MapTy P t kt et ek ev v0) (b : Nat) (m : List (K × V))
    (hm : a.eval mo = .map (some b)) (hat : MapAt P kt ek ev w b m) (k : K) (hx : a.eval xo = ek k) (hk : KOk P kt ek k) (v : V) (hv : a.eval vo = ev v)
    (hK : ∀ w', MapAt P kt ek ev w' b (kput m k v) → Upd (fun i => i = b) w w' → Hid (w'.heap.size = w.heap.size) → wpList P ops Q rest (a.put d undef) w') :
    wpList P ops Q ({ dst := d, op := Op.insert t mo xo vo, type := ty, pos := ps, after := af, guard := none } :: rest) a w := by
  obtain ⟨kl, hkey⟩ := hk
  refine wpList_plain rfl fun K' hK' => ?_
  obtain ⟨w', hrun, r1, r2, r3⟩ := hat.run_upd T.keyed T.inj T.und hkey v
  unfold Oper.wp
  simp [execOp, hm, hx, hv, hrun, Result.andThen]
  exact hK' _ _ (hK w' r1 r2 r3)

theorem wpListIn_look2 (w : World) (hg : o.guard = none) (mo xo : Operand) (t : TypeId) (hop : o.op = Op.lookup t mo xo true) {kt et : TypeId} (T : MapTy P t kt et ek ev v0) (b : Nat) (m : List (K × V))
    (hm : a.eval mo = .map (some b)) (hat : MapAt P kt ek ev w b m) (k : K) (hx : a.eval xo = ek k) (hk : KOk P kt ek k)
    (hK : wpListIn F nF P ops Q rest (a.put o.dst (.tuple #[ev ((kget m k).getD v0), .bool (kget m k).isSome])) w) : wpListIn F nF P ops Q (o :: rest) a w := by
  obtain ⟨kl, hkey⟩ := hk
  refine wpListIn_plain hg fun K' hK' => ?_
  have hrun := hat.run_look true T.keyed T.inj T.und (T.zero w) hkey
  unfold Oper.wpIn
  refine ⟨by simp [Oper.about, hop], ?_⟩
  rw [Oper.semAt_plain F _ _ (by rw [hop]; intro c hc'; cases hc')]
  simp [execOp, hop, hm, hx, hrun, Result.andThen]
  exact hK' _ _ hK

theorem wpListIn_look1 (w : World) (hg : o.guard = none) (mo xo : Operand) (t : TypeId) (hop : o.op = Op.lookup t mo xo false) {kt et : TypeId} (T : MapTy P t kt et ek ev v0) (b : Nat) (m : List (K × V))
    (hm : a.eval mo = .map (some b)) (hat : MapAt P kt ek ev w b m) (k : K) (hx : a.eval xo = ek k) (hk : KOk P kt ek k)
    (hK : wpListIn F nF P ops Q rest (a.put o.dst (ev ((kget m k).getD v0))) w) : wpListIn F nF P ops Q (o :: rest) a w := by
  obtain ⟨kl, hkey⟩ := hk
  refine wpListIn_plain hg fun K' hK' => ?_
  have hrun := hat.run_look false T.keyed T.inj T.und (T.zero w) hkey
  unfold Oper.wpIn
  refine ⟨by simp [Oper.about, hop], ?_⟩
  rw [Oper.semAt_plain F _ _ (by rw [hop]; intro c hc'; cases hc')]
  simp [execOp, hop, hm, hx, hrun, Result.andThen]
  exact hK' _ _ hK

theorem wpListIn_upd (w : World) (hg : o.guard = none) (mo xo vo : Operand) (t : TypeId) (hop : o.op = Op.mapUpdate t mo xo vo) {kt et : TypeId} (T : MapTy P t kt et ek ev v0) (b : Nat) (m : List (K × V))
    (hm : a.eval mo = .map (some b)) (hat : MapAt P kt ek ev w b m) (k : K) (hx : a.eval xo = ek k) (hk : KOk P kt ek k) (v : V) (hv : a.eval vo = ev v)
    (hK : ∀ w', MapAt P kt ek ev w' b (kput m k v) → Upd (fun i => i = b) w w' → Hid (w'.heap.size = w.heap.size) → wpListIn F nF P ops Q rest (a.put o.dst undef) w') : wpListIn F nF P ops Q (o :: rest) a w := by
  obtain ⟨kl, hkey⟩ := hk
  refine wpListIn_plain hg fun K' hK' => ?_
  obtain ⟨w', hrun, r1, r2, r3⟩ := hat.run_upd T.keyed T.inj T.und hkey v
  unfold Oper.wpIn
  refine ⟨by simp [Oper.about, hop], ?_⟩
  rw [Oper.semAt_plain F _ _ (by rw [hop]; intro c hc'; cases hc')]
  simp [execOp, hop, hm, hx, hv, hrun, Result.andThen]
  exact hK' _ _ (hK w' r1 r2 r3)

theorem wpListIn_del (w : World) (hg : o.guard = none) (mo xo : Operand) (t kt : TypeId) (hop : o.op = Op.call { callee := Callee.builtin Builtin.delete, args := #[mo, xo], argTypes := #[t, kt] }) {et : TypeId} (T : MapTy P t kt et ek ev v0) (b : Nat) (m : List (K × V))
    (hm : a.eval mo = .map (some b)) (hat : MapAt P kt ek ev w b m) (k : K) (hx : a.eval xo = ek k) (hk : KOk P kt ek k)
    (hK : ∀ w', MapAt P kt ek ev w' b (kdel m k) → Upd (fun i => i = b) w w' → Hid (w'.heap.size = w.heap.size) → wpListIn F nF P ops Q rest (a.put o.dst (.tuple #[])) w') : wpListIn F nF P ops Q (o :: rest) a w := by
  obtain ⟨kl, hkey⟩ := hk
  refine wpListIn_plain hg fun K' hK' => ?_
  obtain ⟨w', hrun, r1, r2, r3⟩ := hat.run_del (ty := o.type) T.keyed T.inj T.und hkey
  unfold Oper.wpIn
  refine ⟨by simp [Oper.about, hop, resolve, Target.leads, Sem.run_pure], ?_⟩
  rw [Oper.semAt_plain F _ _ (by rw [hop]; intro c hc'; cases hc')]
  simp [execOp, hop, resolve, invoke, builtin, hm, hx, hrun, Result.andThen]
  exact hK' _ _ (hK w' r1 r2 r3)
end arms
end Go.Rv
