/- slices.AppendSeq, Collect. Printed by wip/gen/genKb.py. -/
import Derived.Test.YtjbpghdgmpinpaaKa
namespace Go.Proofs.Ytjbpghdgmpinpaa
open Go.RowKit Go.Rv

abbrev encI : Int → List Value := fun z => [.int .i64 z]
abbrev encS : ByteArray → List Value := fun s => [.string s]
theorem E32 : ElTy Try.prog 32 3 1 8 (.int .i64 0) encI :=
  ⟨Try.underlying32, by kernel_rfl, rfl, by decide, fun _ => rfl, fun a u h => by simp only [encI, List.mem_singleton] at h; subst h; rfl⟩
theorem E90 : ElTy Try.prog 90 9 1 16 (.string ByteArray.empty) encS :=
  ⟨Try.underlying90, by kernel_rfl, rfl, by decide, fun _ => rfl, fun a u h => by simp only [encS, List.mem_singleton] at h; subst h; rfl⟩
/-- The row of a slice that is being filled; the slice lies in block n. -/
def AI {α : Type} (t e : TypeId) (enc : α → List Value) (n : Nat) (w : World) (pre : List α) (W : World) : Prop :=
  ∃ v, W.heap[n]? = some (.cells #[v] t) ∧ RowAt e 1 enc (n + 1) v pre W ∧ Below n w W
theorem AI_abid {α : Type} (t e : TypeId) (enc : α → List Value) (n : Nat) (w : World) (B0 : Nat) (hB : n < B0) (pre : List α) : Abid (fun _ => False) B0 (AI t e enc n w pre) := by
  rintro A B ⟨v, r1, r2, r3⟩ ht
  refine ⟨v, ht.below r1 (fun h => h) (by omega), ?_, r3.trans (ht.upd.below (by have := hp_lt r1; omega) ?_)⟩
  · refine r2.same fun k hk => ?_
    obtain ⟨cur, hc⟩ := r2.obj hk
    rw [ht.at hc (fun h => h) rfl, hc]
  · rintro k hk (h | h)
    · exact h
    · omega
theorem AI_push {α : Type} {t e : TypeId} {enc : α → List Value} {n B0 : Nat} {O : Nat → Prop} {w W2 w' : World} {v v' : Value} {pre : List α} {x : α} {o : Obj} (r1 : W2.heap[n]? = some (.cells #[v] t)) (r2 : RowAt e 1 enc (n + 1) v pre W2) (r3 : Below n w W2)
    (hB : n < B0) (hO : ∀ b, O b → b < n) (hu : Upd (rowBlock v) (W2.alloc o) w') (hr : RowAt e 1 enc (n + 1) v' (pre ++ [x]) w') :
    Fix O B0 W2 (w'.setCell ⟨n, 0, none⟩ v') ∧ AI t e enc n w (pre ++ [x]) (w'.setCell ⟨n, 0, none⟩ v') := by
  have hlt := hp_lt r1
  have r1' := hu.at (hp_alloc_old o r1) (r2.not_below (by omega))
  have U : Upd (fun k => k = n ∨ rowBlock v k) W2 (w'.setCell ⟨n, 0, none⟩ v') :=
    ((upd_alloc _ W2 o).then hu fun i _ h => .inr h).then (upd_setCell w' n 0 v') fun i _ h => .inl h
  refine ⟨Fix.of_upd U ?_ ?_, v', hp_setCell_same r1' 0 v', hr.keep (upd_setCell w' n 0 v') (fun k hk e => ?_), r3.trans (U.below (by omega) ?_)⟩
  · rintro b (rfl | h) hb
    · have := hO _ hb; omega
    · have := hO _ hb; have := (r2.lt h).1; omega
  · rintro b o (rfl | h) hb ho
    · omega
    · obtain ⟨cur, hc⟩ := r2.obj h
      rw [hc] at ho; cases ho; rfl
  · have := (hr.lt hk).1; omega
  · rintro k hk (h | h)
    · omega
    · have := (r2.lt h).1; omega
theorem AI_end {α : Type} {e : TypeId} {enc : α → List Value} {w W : World} {v : Value} {xs : List α} {D : Nat} (r2 : RowAt e 1 enc (w.heap.size + 1) v xs W) (r3 : Below w.heap.size w W) (hD : w.heap.size ≤ D) (hK : W.heap[D]? = some (.deferred (some []))) (o : Obj) :
    RowAt e 1 enc w.heap.size v xs (W.putObj D o) ∧ Below w.heap.size w (W.putObj D o) := by
  refine ⟨(r2.keep (upd_mark o) fun k hk e => ?_).mono (by omega), below_mark r3 hD r3.size _⟩
  subst e
  obtain ⟨cur, hc⟩ := r2.obj hk
  rw [hc] at hK; cases hK
/-- What is behind a call that gives a new row. -/
def RowPost {α : Type} (e : TypeId) (enc : α → List Value) (S : List α → Prop) (w : World) (e' : Ending) (w' : World) : Prop :=
  ∃ v xs, e' = .returned v ∧ S xs ∧ RowAt e 1 enc w.heap.size v xs w' ∧ Below w.heap.size w w'
theorem RowPost.mono {α : Type} {e : TypeId} {enc : α → List Value} {S S' : List α → Prop} {w w' : World} {e' : Ending} (h : RowPost e enc S w e' w') (hs : ∀ xs, S xs → S' xs) : RowPost e enc S' w e' w' := by
  obtain ⟨v, xs, h1, h2, h3⟩ := h
  exact ⟨v, xs, h1, hs _ h2, h3⟩

theorem take_putCells_off {β : Type} [Inhabited β] (eb : β → Value) (cur : Array Value) (off : Nat) (ts : List β) (h : off + ts.length ≤ cur.size) : ((Sort.putCells eb off ts.toArray cur).toList.drop off).take ts.length = ts.map eb := by
  apply List.ext_getElem?
  intro j
  by_cases hj : j < ts.length
  · rw [List.getElem?_take_of_lt hj, List.getElem?_drop, Array.getElem?_toList]
    simp [Sort.putCells, hj, show off + j < cur.size by omega]
  · rw [List.getElem?_take_eq_none (by omega), List.getElem?_eq_none (by simp; omega)]
theorem flatMap_one {α : Type} (f : α → Value) (l : List α) : l.flatMap (fun a => [f a]) = l.map f := by
  induction l with
  | nil => rfl
  | cons a l ih => simp [ih]
/-- A row of one-celled elements, of which the cells are told another way. -/
theorem rowAt_holds {α β : Type} [Inhabited β] {e : TypeId} {f : α → Value} {eb : β → Value} {B0 g off cap : Nat} {l : List α} {w : World} (h : RowAt e 1 (fun a => [f a]) B0 (.slice (some ⟨g, off, none⟩) l.length cap) l w) (lb : List β) (hb : lb.map eb = l.map f) :
    Sort.Holds eb w g off lb.toArray := by
  have hlen : lb.length = l.length := by have := congrArg List.length hb; simpa using this
  intro j hj
  have hj' : j < lb.length := by simpa using hj
  refine ⟨?_, h.frozen _⟩
  have hjl : j < l.length := by omega
  have h1 := h.cell (enc := fun a => [f a]) (fun _ => rfl) (i := j) (j := 0) (a := l[j]) (u := f l[j]) (List.getElem?_eq_getElem hjl) rfl
  have h2 : eb lb[j] = f l[j] := by
    have := congrArg (fun l => l[j]?) hb
    simpa [hj', hjl] using this
  rw [Nat.mul_one, Nat.add_zero] at h1
  rw [h1, ← h2]
  simp [hj']
theorem rowAt_sorted {α β : Type} [Inhabited β] {e : TypeId} {f : α → Value} {eb : β → Value} {B0 g off cap : Nat} {l l' : List α} {w : World} (h : RowAt e 1 (fun a => [f a]) B0 (.slice (some ⟨g, off, none⟩) l.length cap) l w) (lb : List β) (hb : lb.map eb = l'.map f) (hl : l'.length = l.length) (n : Nat) (os : Array Obj) :
    RowAt e 1 (fun a => [f a]) B0 (.slice (some ⟨g, off, none⟩) l.length cap) l' (Sort.grow (Sort.putRow eb (Sort.ahead w n) g off lb.toArray) os) ∧ Upd (fun k => k = g) w (Sort.grow (Sort.putRow eb (Sort.ahead w n) g off lb.toArray) os) := by
  have hlen : lb.length = l'.length := by have := congrArg List.length hb; simpa using this
  rcases h with ⟨h, _⟩ | ⟨g', off', cap', cur, hv, hB, hg, h1, h2, h3, h4⟩
  · cases h
  simp only [Value.slice.injEq, Option.some.injEq, Addr.mk.injEq, and_true, true_and] at hv
  obtain ⟨⟨rfl, rfl⟩, rfl⟩ := hv
  have hlt := hp_lt hg
  have hheap : (Sort.grow (Sort.putRow eb (Sort.ahead w n) g off lb.toArray) os).heap[g]? = some (.cells (Sort.putCells eb off lb.toArray cur) e (0, 0)) := by
    rw [Sort.heap_grow_old _ _ (by simpa using hlt)]
    simp [Sort.putRow, Sort.mapBlock, Sort.ahead, Array.getElem?_modify, hg, Sort.onCells]
  refine ⟨.inr ⟨g, off, cap, _, by rw [hl], hB, hheap, by omega, h2, by simpa [Sort.putCells] using h3, ?_⟩, ⟨rfl, rfl, rfl, by simp, fun k hk hne => ?_⟩⟩
  · rw [flatMap_one, Nat.mul_one, ← hlen, take_putCells_off _ _ _ _ (by omega), hb]
  · rw [Sort.heap_grow_old _ _ (by simpa using hk)]
    have : g ≠ k := fun e => hne e.symm
    simp [Sort.putRow, Sort.mapBlock, Sort.ahead, Array.getElem?_modify, this]
def risingI (l : List Int) : List Int := l.mergeSort fun x y => decide (x ≤ y)
def risingS (l : List ByteArray) : List ByteArray := ((l.map fun s => s.data.toList).mergeSort fun x y => decide (x ≤ y)).map mkS
theorem risingS_data (l : List ByteArray) : ((l.map fun s => s.data.toList).mergeSort fun x y => decide (x ≤ y)).map Go.Proofs.encStr = (risingS l).map Value.string := by
  unfold risingS
  rw [List.map_map]
  rfl
theorem risingS_length (l : List ByteArray) : (risingS l).length = l.length := by simp [risingS]
theorem risingI_length (l : List Int) : (risingI l).length = l.length := by simp [risingI]


theorem appendSeq126 (gf : Nat) (cap : Array Value) (O : Nat → Prop) (S : List Int → Prop) (w : World) (hent : ∀ args w, (callFunc gf args).run Try.prog w = .ok (.enter gf args) w)
    (hseq : IterC Try.prog gf cap (fun z : Int => #[(Value.int .i64 z)]) S O (fun _ => False) w) (hO : ∀ b, O b → b < w.heap.size) (hlen : ∀ xs, S xs → xs.length ≤ 1000000) :
    Calls Try.prog 126 #[.slice none 0 0, .func (.func gf) #[] cap] w (RowPost 3 encI S w) := by
  refine free_wide.calls_of (n := 0) ?_
  refine callsIn_of_wp_marks Try.func126 rfl trivial ?_ rfl
  simp only [Try.ntmps126, List.size_toArray, List.length_cons, List.length_nil, Nat.reduceAdd, Nat.reduceSub, Array.replicate_succ, Array.replicate_zero, List.push_toArray, List.append_toArray, List.nil_append, List.cons_append]
  gi_wp2
  obtain ⟨W0, hW0⟩ : ∃ W0 : World, w.alloc (.cells #[.slice none 0 0] 32) = W0 := ⟨_, rfl⟩
  have hsz : W0.heap.size = w.heap.size + 1 := by rw [← hW0]; simp
  have q0 : W0.heap[w.heap.size]? = some (.cells #[.slice none 0 0] 32) := by rw [← hW0]; exact hp_at _ rfl
  have hb0 : Below w.heap.size w W0 := by rw [← hW0]; exact (Below.refl _ w).alloc (Nat.le_refl _) _
  rw [hW0]
  clear hW0
  refine rangeFunc_top (gf := gf) free_wide rfl rfl hent hseq (by omega) (fun b o hb h => by rw [hb0.block b (hO b hb)]; exact h)
    (fun b h => by have := hO b h; omega) (fun b h => h.elim) (fun _ => rfl)
    (AI 32 3 encI w.heap.size w) (fun _ _ _ => False) ?hI ?hIx ?h0 ?hround ?hdone ?hstop
  case hI => exact AI_abid _ _ _ _ _ _ (by omega)
  case hIx => exact fun _ _ _ _ h _ => h
  case h0 => exact ⟨_, q0, rowAt_nil _ _ _ _ _, hb0⟩
  case hround =>
    intro l pre x W hl hlW hi hS
    gi_wp2
    refine ⟨Fix.refl _ _ _, fun W2 r hu ht hl2 => ?_⟩
    obtain ⟨v, r1, r2, r3⟩ := AI_abid _ _ _ _ _ _ (by omega) _ _ _ hi ht
    have c0 : W2.cell? ⟨w.heap.size, 0, none⟩ = some v := by rw [hp_cell r1]; rfl
    have hlt := hp_lt r1
    have hL : (pre ++ [x]).length ≤ 1000000 := by
      obtain ⟨post, hS⟩ := hS
      have := hlen _ hS
      simp at this ⊢
      omega
    clear hi hu ht hS q0 hb0
    have hr2 := r2.alloc (.cells #[(Value.int .i64 x)] 3)
    have hsrc := src_one W2 E32 x #[(Value.int .i64 x)] 3 rfl
    gi_wp2_with (gi_at_builtin; refine wpListIn_apR E32 (w.heap.size + 1) v pre hr2 [x] (.slice (some ⟨W2.heap.size, 0, none⟩) 1 1) hsrc rfl rfl ?_ ?_ ?_ ?_; simp only [List.length_append, List.length_cons, List.length_nil, maxLen] at hL ⊢; omega; simp only [List.length_append, List.length_cons, List.length_nil] at hL ⊢; omega; simp; omega; intro v' w' hr' hu' hn'; obtain ⟨bb, nn, cc, rfl⟩ := hr'.isSlice; have r1' := hu'.at (hp_alloc_old (.cells #[(Value.int .i64 x)] 3) r1) (r2.not_below (by omega)); have c1 : w'.cell? ⟨w.heap.size, 0, none⟩ = some v := (by rw [hp_cell r1']; rfl); have f1 := hp_frozen r1' 0)
    exact AI_push r1 r2 r3 (by omega) hO hu' hr'
  case hdone =>
    rintro D xs W hD hxs ⟨v, r1, r2, r3⟩ hK
    have c1 : W.cell? ⟨w.heap.size, 0, none⟩ = some v := by rw [hp_cell r1]; rfl
    clear q0
    gi_wp2
    have h9 := AI_end r2 r3 (by omega) hK (.deferred none)
    exact leaves_mark v hK (by simp [results, Try.results126, go_sem]) ⟨v, xs, rfl, hxs, h9⟩
  case hstop =>
    rintro D c pre x W hD hS h hK
    exact h.elim
theorem collect96 (gf : Nat) (cap : Array Value) (O : Nat → Prop) (S : List Int → Prop) (w : World) (hent : ∀ args w, (callFunc gf args).run Try.prog w = .ok (.enter gf args) w)
    (hseq : IterC Try.prog gf cap (fun z : Int => #[(Value.int .i64 z)]) S O (fun _ => False) w) (hO : ∀ b, O b → b < w.heap.size) (hlen : ∀ xs, S xs → xs.length ≤ 1000000) :
    Calls Try.prog 96 #[.func (.func gf) #[] cap] w (RowPost 3 encI S w) := by
  have C := Lib.hid (appendSeq126 gf cap O S w hent hseq hO hlen)
  clear hseq hent hO hlen
  go_enter Try.func96, Try.ntmps96
  go_wp2_with fail
  refine C.out.mono ?_
  rintro e w' ⟨v, xs, rfl, h1, h2, h3⟩
  obtain ⟨bb, nn, cc, rfl⟩ := h2.isSlice
  go_wp2_with fail
  go_ret
  exact ⟨_, xs, rfl, h1, h2, h3⟩
theorem sorted94 (gf : Nat) (cap : Array Value) (O : Nat → Prop) (S : List Int → Prop) (w : World) (hent : ∀ args w, (callFunc gf args).run Try.prog w = .ok (.enter gf args) w)
    (hseq : IterC Try.prog gf cap (fun z : Int => #[(Value.int .i64 z)]) S O (fun _ => False) w) (hO : ∀ b, O b → b < w.heap.size) (hlen : ∀ xs, S xs → xs.length ≤ 1000000) :
    Calls Try.prog 94 #[.func (.func gf) #[] cap] w (RowPost 3 encI (fun ys => ∃ xs, S xs ∧ ys = risingI xs) w) := by
  have C := Lib.hid (collect96 gf cap O S w hent hseq hO hlen)
  have HL := Lib.hid hlen
  clear hseq hent hO hlen
  go_enter Try.func94, Try.ntmps94
  go_wp2_with fail
  refine C.out.mono ?_
  rintro e w' ⟨v, xs, rfl, h1, h2, h3⟩
  rcases h2.shape with ⟨rfl, rfl⟩ | ⟨g, off, cc, rfl, q1, q2, q3, q4⟩
  · go_wp2_with (go_at_call 124; refine (Try.slices_Sort_int_none _ _ _).mono ?_; rintro e w2 ⟨rfl, rfl⟩)
    go_ret
    exact ⟨_, [], rfl, ⟨[], h1, by simp [risingI]⟩, h2, h3⟩
  · have hH := rowAt_holds (eb := Value.int .i64) h2 xs rfl
    have hn := HL.out _ h1
    have hs := Try.slices_Sort_int g off cc xs w' hH q2 (by  omega)
    have hs' := fun n os => rowAt_sorted h2 (xs.mergeSort fun x y => decide (x ≤ y)) rfl (risingI_length xs) n os
    have HS := Lib.hid hs
    have HS' := Lib.hid hs'
    clear hs hs' hH
    skip
    go_wp2_with fail
    skip
    refine HS.out.mono ?_
    rintro e w2 ⟨rfl, n, os, hw⟩
    obtain ⟨k1, k2⟩ := HS'.out n os
    rw [← hw] at k1 k2
    clear hw HS HS'
    go_wp2_with fail
    go_ret
    exact ⟨_, risingI xs, rfl, ⟨xs, h1, rfl⟩, k1, h3.trans (k2.below (by omega) (by rintro k hk rfl; omega))⟩

theorem appendSeq141 (gf : Nat) (cap : Array Value) (O : Nat → Prop) (S : List ByteArray → Prop) (w : World) (hent : ∀ args w, (callFunc gf args).run Try.prog w = .ok (.enter gf args) w)
    (hseq : IterC Try.prog gf cap (fun z : ByteArray => #[(Value.string z)]) S O (fun _ => False) w) (hO : ∀ b, O b → b < w.heap.size) (hlen : ∀ xs, S xs → xs.length ≤ 1000000) :
    Calls Try.prog 141 #[.slice none 0 0, .func (.func gf) #[] cap] w (RowPost 9 encS S w) := by
  refine free_wide.calls_of (n := 0) ?_
  refine callsIn_of_wp_marks Try.func141 rfl trivial ?_ rfl
  simp only [Try.ntmps141, List.size_toArray, List.length_cons, List.length_nil, Nat.reduceAdd, Nat.reduceSub, Array.replicate_succ, Array.replicate_zero, List.push_toArray, List.append_toArray, List.nil_append, List.cons_append]
  gi_wp2
  obtain ⟨W0, hW0⟩ : ∃ W0 : World, w.alloc (.cells #[.slice none 0 0] 90) = W0 := ⟨_, rfl⟩
  have hsz : W0.heap.size = w.heap.size + 1 := by rw [← hW0]; simp
  have q0 : W0.heap[w.heap.size]? = some (.cells #[.slice none 0 0] 90) := by rw [← hW0]; exact hp_at _ rfl
  have hb0 : Below w.heap.size w W0 := by rw [← hW0]; exact (Below.refl _ w).alloc (Nat.le_refl _) _
  rw [hW0]
  clear hW0
  refine rangeFunc_top (gf := gf) free_wide rfl rfl hent hseq (by omega) (fun b o hb h => by rw [hb0.block b (hO b hb)]; exact h)
    (fun b h => by have := hO b h; omega) (fun b h => h.elim) (fun _ => rfl)
    (AI 90 9 encS w.heap.size w) (fun _ _ _ => False) ?hI ?hIx ?h0 ?hround ?hdone ?hstop
  case hI => exact AI_abid _ _ _ _ _ _ (by omega)
  case hIx => exact fun _ _ _ _ h _ => h
  case h0 => exact ⟨_, q0, rowAt_nil _ _ _ _ _, hb0⟩
  case hround =>
    intro l pre x W hl hlW hi hS
    gi_wp2
    refine ⟨Fix.refl _ _ _, fun W2 r hu ht hl2 => ?_⟩
    obtain ⟨v, r1, r2, r3⟩ := AI_abid _ _ _ _ _ _ (by omega) _ _ _ hi ht
    have c0 : W2.cell? ⟨w.heap.size, 0, none⟩ = some v := by rw [hp_cell r1]; rfl
    have hlt := hp_lt r1
    have hL : (pre ++ [x]).length ≤ 1000000 := by
      obtain ⟨post, hS⟩ := hS
      have := hlen _ hS
      simp at this ⊢
      omega
    clear hi hu ht hS q0 hb0
    have hr2 := r2.alloc (.cells #[(Value.string x)] 9)
    have hsrc := src_one W2 E90 x #[(Value.string x)] 9 rfl
    gi_wp2_with (gi_at_builtin; refine wpListIn_apR E90 (w.heap.size + 1) v pre hr2 [x] (.slice (some ⟨W2.heap.size, 0, none⟩) 1 1) hsrc rfl rfl ?_ ?_ ?_ ?_; simp only [List.length_append, List.length_cons, List.length_nil, maxLen] at hL ⊢; omega; simp only [List.length_append, List.length_cons, List.length_nil] at hL ⊢; omega; simp; omega; intro v' w' hr' hu' hn'; obtain ⟨bb, nn, cc, rfl⟩ := hr'.isSlice; have r1' := hu'.at (hp_alloc_old (.cells #[(Value.string x)] 9) r1) (r2.not_below (by omega)); have c1 : w'.cell? ⟨w.heap.size, 0, none⟩ = some v := (by rw [hp_cell r1']; rfl); have f1 := hp_frozen r1' 0)
    exact AI_push r1 r2 r3 (by omega) hO hu' hr'
  case hdone =>
    rintro D xs W hD hxs ⟨v, r1, r2, r3⟩ hK
    have c1 : W.cell? ⟨w.heap.size, 0, none⟩ = some v := by rw [hp_cell r1]; rfl
    clear q0
    gi_wp2
    have h9 := AI_end r2 r3 (by omega) hK (.deferred none)
    exact leaves_mark v hK (by simp [results, Try.results141, go_sem]) ⟨v, xs, rfl, hxs, h9⟩
  case hstop =>
    rintro D c pre x W hD hS h hK
    exact h.elim
theorem collect131 (gf : Nat) (cap : Array Value) (O : Nat → Prop) (S : List ByteArray → Prop) (w : World) (hent : ∀ args w, (callFunc gf args).run Try.prog w = .ok (.enter gf args) w)
    (hseq : IterC Try.prog gf cap (fun z : ByteArray => #[(Value.string z)]) S O (fun _ => False) w) (hO : ∀ b, O b → b < w.heap.size) (hlen : ∀ xs, S xs → xs.length ≤ 1000000) :
    Calls Try.prog 131 #[.func (.func gf) #[] cap] w (RowPost 9 encS S w) := by
  have C := Lib.hid (appendSeq141 gf cap O S w hent hseq hO hlen)
  clear hseq hent hO hlen
  go_enter Try.func131, Try.ntmps131
  go_wp2_with fail
  refine C.out.mono ?_
  rintro e w' ⟨v, xs, rfl, h1, h2, h3⟩
  obtain ⟨bb, nn, cc, rfl⟩ := h2.isSlice
  go_wp2_with fail
  go_ret
  exact ⟨_, xs, rfl, h1, h2, h3⟩
theorem sorted105 (gf : Nat) (cap : Array Value) (O : Nat → Prop) (S : List ByteArray → Prop) (w : World) (hent : ∀ args w, (callFunc gf args).run Try.prog w = .ok (.enter gf args) w)
    (hseq : IterC Try.prog gf cap (fun z : ByteArray => #[(Value.string z)]) S O (fun _ => False) w) (hO : ∀ b, O b → b < w.heap.size) (hlen : ∀ xs, S xs → xs.length ≤ 1000000) :
    Calls Try.prog 105 #[.func (.func gf) #[] cap] w (RowPost 9 encS (fun ys => ∃ xs, S xs ∧ ys = risingS xs) w) := by
  have C := Lib.hid (collect131 gf cap O S w hent hseq hO hlen)
  have HL := Lib.hid hlen
  clear hseq hent hO hlen
  go_enter Try.func105, Try.ntmps105
  go_wp2_with fail
  refine C.out.mono ?_
  rintro e w' ⟨v, xs, rfl, h1, h2, h3⟩
  rcases h2.shape with ⟨rfl, rfl⟩ | ⟨g, off, cc, rfl, q1, q2, q3, q4⟩
  · go_wp2_with (go_at_call 132; refine (Try.slices_Sort_string_none _ _ _).mono ?_; rintro e w2 ⟨rfl, rfl⟩)
    go_ret
    exact ⟨_, [], rfl, ⟨[], h1, by simp [risingS]⟩, h2, h3⟩
  · have hH := rowAt_holds (eb := Go.Proofs.encStr) h2 (xs.map fun s => s.data.toList) (by simp [Function.comp_def])
    have hn := HL.out _ h1
    have hs := Try.slices_Sort_string g off cc (xs.map fun s => s.data.toList) w' hH q2 (by rw [List.length_map]; omega)
    have hs' := fun n os => rowAt_sorted h2 ((xs.map fun s => s.data.toList).mergeSort fun x y => decide (x ≤ y)) (risingS_data xs) (risingS_length xs) n os
    have HS := Lib.hid hs
    have HS' := Lib.hid hs'
    clear hs hs' hH
    have hlm : (xs.map fun s => s.data.toList).length = xs.length := List.length_map _
    go_wp2_with fail
    rw [← hlm]
    refine HS.out.mono ?_
    rintro e w2 ⟨rfl, n, os, hw⟩
    obtain ⟨k1, k2⟩ := HS'.out n os
    rw [← hw] at k1 k2
    clear hw HS HS'
    go_wp2_with fail
    go_ret
    exact ⟨_, risingS xs, rfl, ⟨xs, h1, rfl⟩, k1, h3.trans (k2.below (by omega) (by rintro k hk rfl; omega))⟩
end Go.Proofs.Ytjbpghdgmpinpaa
