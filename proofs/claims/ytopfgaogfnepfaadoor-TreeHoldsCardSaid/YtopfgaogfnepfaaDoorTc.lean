/- Contracts of the tree's functions that go through its paths. -/
import Derived.Test.YtopfgaogfnepfaaDoorTb
namespace Go.Proofs.YtopfgaogfnepfaaDoor
open Go.RowKit Go.Rv

theorem new_calls (w : World) :
    Calls Tryd.prog 7 #[] w fun e w' => e = .returned (.pointer (some ⟨w.heap.size + 3, 0, none⟩)) ∧ TreeAt w' (w.heap.size + 3) w.heap.size (w.heap.size + 1) (w.heap.size + 2) [(⟨#[47]⟩, true)] [] [] ∧ Below w.heap.size w w' := by
  have hmm := @run_makeMap Tryd.prog
  have hm0 := mapAt_made w Tryd.prog 9 Value.string Value.bool
  have hk := kok_string (P := Tryd.prog) (s := ⟨#[47]⟩) Tryd.underlying9 (by decide)
  go_enter Tryd.func7, Tryd.ntmps7
  go_wp2_with ((with_reducible refine wpList_ins _ T41 w.heap.size [] ?_ hm0 _ ?_ hk true ?_ ?_); rfl; rfl; rfl; intro w1 hat1 hu1 hs1)
  have e1 : w1.heap.size = w.heap.size + 1 := by have := hs1.out; simpa using this
  rw [e1]
  go_ret
  have ha : MapAt Tryd.prog 9 Value.string Value.bool w1 w.heap.size [(⟨#[47]⟩, true)] := hat1
  have hb1 : Below w.heap.size w w1 := ((Below.refl _ w).alloc (Nat.le_refl _) _).trans (hu1.below (by simp) (by intro k hk; omega))
  refine ⟨rfl, ⟨?_, ((ha.alloc _).alloc _).alloc _, ?_, ?_, by omega, by omega, by omega⟩, ((hb1.alloc (by omega) _).alloc (by simp; omega) _).alloc (by simp; omega) _⟩
  · exact hp_at _ (by simp; omega)
  · have := mapAt_made w1 Tryd.prog 9 Value.string (Value.int .i64)
    rw [e1] at this
    exact (this.alloc _).alloc _
  · have := mapAt_made (w1.alloc (.map #[] 0)) Tryd.prog 9 Value.string Value.string
    rw [World.size_alloc, e1] at this
    exact this.alloc _
def KeyRelA (P : Program) (b1 r : Nat) (th : List (ByteArray × Bool)) (J : List ByteArray → World → Prop) (wr : World) : Prop :=
  ∃ vs rest : List (ByteArray × Bool), MIter P 9 Value.string Value.bool wr b1 r vs rest ∧ J (vs.map Prod.fst) wr ∧ (vs ++ rest).Perm th
set_option maxHeartbeats 400000 in
theorem keys28 (Bx b1 : Nat) (th : List (ByteArray × Bool)) (w0 : World) (hbox : w0.heap[Bx]? = some (.cells #[.map (some b1)] 41)) (hat : MapAt Tryd.prog 9 Value.string Value.bool w0 b1 th) :
    IterC Tryd.prog 28 #[.pointer (some ⟨Bx, 0, none⟩)] (fun s : ByteArray => #[.string s]) (fun ks => ks.Perm (th.map Prod.fst)) (fun b => b = Bx ∨ b = b1) (fun _ => False) w0 := by
  intro fv J Jx W hsz hO hJ hJx hY h0
  have hB := hO Bx _ (.inl rfl) hbox
  have hat1 : MapAt Tryd.prog 9 Value.string Value.bool W b1 th := by
    obtain ⟨es, c, hb, r⟩ := hat
    exact ⟨es, c, hO b1 _ (.inr rfl) hb, r⟩
  have hc : W.cell? ⟨Bx, 0, none⟩ = some (.map (some b1)) := by rw [hp_cell hB]; rfl
  refine free_wide.calls_of (n := 0) ?_
  refine callsIn_of_wp Tryd.func28 rfl trivial ?_ rfl
  simp only [Tryd.ntmps28, List.size_toArray, List.length_cons, List.length_nil, Nat.reduceAdd, Nat.reduceSub, Array.replicate_succ, Array.replicate_zero, List.push_toArray, List.append_toArray, List.nil_append, List.cons_append]
  clear hO hbox
  have HY := Lib.hid hY
  have HJ := Lib.hid hJ
  have HJx := Lib.hid hJx
  clear hY hJ hJx
  gi_wp2_with (gi_at_range; refine wpListIn_range _ rfl _ 41 rfl T41 b1 th rfl hat1 ?_; rintro _ hit ⟨ob, rfl⟩)
  gi_loopw [3] (fun _ wr => KeyRelA Tryd.prog b1 W.heap.size th J wr)
    (fun _ wr => wr.rangeLeft b1 W.heap.size)
  case atStart => exact ⟨[], th, hit, HJ.out _ _ _ h0 (Turns.of_alloc _ _), List.Perm.refl _⟩
  case round =>
    obtain ⟨vs, rest, hit, hj, hp⟩ := hrel
    gi_wp2_with (first
      | (gi_at_next
         refine wpListIn_next _ rfl _ rfl 9 Value.string Value.bool b1 W.heap.size vs rest rfl hit (fun hz => ?_) (fun k v rest' w2 hp2 hit2 hent hgr hsz2 => ?_)
         rotate_left
         have hj2 : J (vs.map Prod.fst) w2 := HJ.out _ _ _ hj ⟨_, hgr, fun r e => by cases e; exact .inr ⟨Nat.le_refl _, hit.iter⟩⟩
         have hpost : ∃ post, (vs.map Prod.fst ++ k :: post).Perm (th.map Prod.fst) := ⟨rest'.map Prod.fst, by have := (((hp2.append_left vs).symm.trans hp).map Prod.fst); simpa using this⟩
         have hent' := hent)
      | (with_reducible refine wpListIn_fn free_wide ?_ ?_ (HY.out (vs.map Prod.fst) k w2 hj2 hpost) (fun e w3 hr => ?_)
         rfl
         rfl
         rcases hr with ⟨rfl, hj3, hf3⟩ | ⟨rfl, hx3⟩
         refine ⟨_, rfl, ?_⟩
         rotate_left
         refine ⟨_, rfl, ?_⟩))
    · refine bodyPost_ret (results_none rfl _ _ _) rfl ?_
      obtain ⟨post, hpost⟩ := hpost
      exact iterPost_stop _ _ _ hpost hx3
    · have hit3 := hit2.fix hf3 (.inr rfl) (Nat.le_refl _)
      refine ⟨⟨vs ++ [(k, v)], rest', hit3, by simpa using hj3, ?_⟩, ?_⟩
      · rw [List.append_assoc]; exact (hp2.append_left vs).symm.trans hp
      · rw [hit3.left, hit.left, hp2.length_eq]; simp
    · go_end0
      subst hz
      exact iterPost_all _ (by have := hp.map Prod.fst; simpa using this) hj

def KeyRelB (P : Program) (b1 r : Nat) (th : List (ByteArray × ByteArray)) (J : List ByteArray → World → Prop) (wr : World) : Prop :=
  ∃ vs rest : List (ByteArray × ByteArray), MIter P 9 Value.string Value.string wr b1 r vs rest ∧ J (vs.map Prod.fst) wr ∧ (vs ++ rest).Perm th
set_option maxHeartbeats 400000 in
theorem keys29 (Bx b1 : Nat) (th : List (ByteArray × ByteArray)) (w0 : World) (hbox : w0.heap[Bx]? = some (.cells #[.map (some b1)] 43)) (hat : MapAt Tryd.prog 9 Value.string Value.string w0 b1 th) :
    IterC Tryd.prog 29 #[.pointer (some ⟨Bx, 0, none⟩)] (fun s : ByteArray => #[.string s]) (fun ks => ks.Perm (th.map Prod.fst)) (fun b => b = Bx ∨ b = b1) (fun _ => False) w0 := by
  intro fv J Jx W hsz hO hJ hJx hY h0
  have hB := hO Bx _ (.inl rfl) hbox
  have hat1 : MapAt Tryd.prog 9 Value.string Value.string W b1 th := by
    obtain ⟨es, c, hb, r⟩ := hat
    exact ⟨es, c, hO b1 _ (.inr rfl) hb, r⟩
  have hc : W.cell? ⟨Bx, 0, none⟩ = some (.map (some b1)) := by rw [hp_cell hB]; rfl
  refine free_wide.calls_of (n := 0) ?_
  refine callsIn_of_wp Tryd.func29 rfl trivial ?_ rfl
  simp only [Tryd.ntmps29, List.size_toArray, List.length_cons, List.length_nil, Nat.reduceAdd, Nat.reduceSub, Array.replicate_succ, Array.replicate_zero, List.push_toArray, List.append_toArray, List.nil_append, List.cons_append]
  clear hO hbox
  have HY := Lib.hid hY
  have HJ := Lib.hid hJ
  have HJx := Lib.hid hJx
  clear hY hJ hJx
  gi_wp2_with (gi_at_range; refine wpListIn_range _ rfl _ 43 rfl T43 b1 th rfl hat1 ?_; rintro _ hit ⟨ob, rfl⟩)
  gi_loopw [3] (fun _ wr => KeyRelB Tryd.prog b1 W.heap.size th J wr)
    (fun _ wr => wr.rangeLeft b1 W.heap.size)
  case atStart => exact ⟨[], th, hit, HJ.out _ _ _ h0 (Turns.of_alloc _ _), List.Perm.refl _⟩
  case round =>
    obtain ⟨vs, rest, hit, hj, hp⟩ := hrel
    gi_wp2_with (first
      | (gi_at_next
         refine wpListIn_next _ rfl _ rfl 9 Value.string Value.string b1 W.heap.size vs rest rfl hit (fun hz => ?_) (fun k v rest' w2 hp2 hit2 hent hgr hsz2 => ?_)
         rotate_left
         have hj2 : J (vs.map Prod.fst) w2 := HJ.out _ _ _ hj ⟨_, hgr, fun r e => by cases e; exact .inr ⟨Nat.le_refl _, hit.iter⟩⟩
         have hpost : ∃ post, (vs.map Prod.fst ++ k :: post).Perm (th.map Prod.fst) := ⟨rest'.map Prod.fst, by have := (((hp2.append_left vs).symm.trans hp).map Prod.fst); simpa using this⟩
         have hent' := hent)
      | (with_reducible refine wpListIn_fn free_wide ?_ ?_ (HY.out (vs.map Prod.fst) k w2 hj2 hpost) (fun e w3 hr => ?_)
         rfl
         rfl
         rcases hr with ⟨rfl, hj3, hf3⟩ | ⟨rfl, hx3⟩
         refine ⟨_, rfl, ?_⟩
         rotate_left
         refine ⟨_, rfl, ?_⟩))
    · refine bodyPost_ret (results_none rfl _ _ _) rfl ?_
      obtain ⟨post, hpost⟩ := hpost
      exact iterPost_stop _ _ _ hpost hx3
    · have hit3 := hit2.fix hf3 (.inr rfl) (Nat.le_refl _)
      refine ⟨⟨vs ++ [(k, v)], rest', hit3, by simpa using hj3, ?_⟩, ?_⟩
      · rw [List.append_assoc]; exact (hp2.append_left vs).symm.trans hp
      · rw [hit3.left, hit.left, hp2.length_eq]; simp
    · go_end0
      subst hz
      exact iterPost_all _ (by have := hp.map Prod.fst; simpa using this) hj

theorem keys21_calls (b1 : Nat) (w : World) : Calls Tryd.prog 21 #[.map (some b1)] w fun e w' => e = .returned (.func (.func 28) #[] #[.pointer (some ⟨w.heap.size, 0, none⟩)]) ∧ w' = w.alloc (.cells #[.map (some b1)] 41) := by
  go_enter Tryd.func21, Tryd.ntmps21
  go_wp2
  go_ret
  exact ⟨rfl, rfl⟩
theorem keys22_calls (b1 : Nat) (w : World) : Calls Tryd.prog 22 #[.map (some b1)] w fun e w' => e = .returned (.func (.func 29) #[] #[.pointer (some ⟨w.heap.size, 0, none⟩)]) ∧ w' = w.alloc (.cells #[.map (some b1)] 43) := by
  go_enter Tryd.func22, Tryd.ntmps22
  go_wp2
  go_ret
  exact ⟨rfl, rfl⟩

/-- Below a path? -/
def isUnder (path p : ByteArray) : Bool := !(p.toList == path.toList) && Lib.hasPrefix p.data.toList (Lib.trimSuffix path.data.toList [47] ++ [47])
def underB (keys : List ByteArray) (path : ByteArray) : Bool := keys.any (isUnder path)
def UnderPost (keys : List ByteArray) (path : ByteArray) (w : World) (e : Ending) (w' : World) : Prop := e = .returned (.bool (underB keys path)) ∧ Below w.heap.size w w'
def UI (path : ByteArray) (n : Nat) (w : World) (pre : List ByteArray) (W : World) : Prop :=
  W.heap[n]? = some (.cells #[.string path] 9) ∧ W.heap[n + 1]? = some (.cells #[.bool false] 4) ∧ pre.any (isUnder path) = false ∧ Below n w W
def UX (path : ByteArray) (n : Nat) (w : World) (c : Code) (pre : List ByteArray) (W : World) : Prop :=
  c = .ret ∧ W.heap[n + 1]? = some (.cells #[.bool true] 4) ∧ pre.any (isUnder path) = true ∧ Below n w W
theorem UI_abid (path : ByteArray) (n : Nat) (w : World) (O2 : Nat → Prop) (B0 : Nat) (h2 : ∀ b, ¬ O2 b) (hB : n + 1 < B0) (pre : List ByteArray) : Abid O2 B0 (UI path n w pre) := by
  rintro A B ⟨r1, r2, r3, r4⟩ ht
  refine ⟨ht.below r1 (h2 _) (by omega), ht.below r2 (h2 _) (by omega), r3, r4.trans (ht.upd.below (by have := hp_lt r1; omega) ?_)⟩
  rintro k hk (h | h)
  · exact h2 _ h
  · omega
theorem UX_abid (path : ByteArray) (n : Nat) (w : World) (O2 : Nat → Prop) (B0 : Nat) (h2 : ∀ b, ¬ O2 b) (hB : n + 1 < B0) (c : Code) (pre : List ByteArray) : Abid O2 B0 (UX path n w c pre) := by
  rintro A B ⟨r0, r1, r3, r4⟩ ht
  refine ⟨r0, ht.below r1 (h2 _) (by omega), r3, r4.trans (ht.upd.below (by have := hp_lt r1; omega) ?_)⟩
  rintro k hk (h | h)
  · exact h2 _ h
  · omega

theorem under_hit {path : ByteArray} {n B0 : Nat} {O : Nat → Prop} {w W2 : World} {pre : List ByteArray} {x : ByteArray} {a : Act} (h : UI path n w pre W2) (hx : isUnder path x = true) (hB : n + 1 < B0) :
    bodyR O B0 (UI path n w) (UX path n w) (pre ++ [x]) W2 .ret a (W2.setCell ⟨n + 1, 0, none⟩ (.bool true)) := by
  obtain ⟨r1, r2, r3, r4⟩ := h
  exact ⟨Fix.of_upd_lt (upd_setCell _ _ _ _) (fun _ _ h => h) (fun b h => by omega), rfl, hp_setCell_same r2 0 _, by simp [hx], r4.setCell (by simp) _⟩
theorem under_miss {path : ByteArray} {n B0 : Nat} {O : Nat → Prop} {w W2 : World} {pre : List ByteArray} {x : ByteArray} {a : Act} (h : UI path n w pre W2) (hx : isUnder path x = false) :
    bodyR O B0 (UI path n w) (UX path n w) (pre ++ [x]) W2 .normal a W2 := by
  obtain ⟨r1, r2, r3, r4⟩ := h
  exact ⟨Fix.refl _ _ _, r1, r2, by simp [r3, hx], r4⟩

theorem under_calls (gf : Nat) (cap : Array Value) (O : Nat → Prop) (path : ByteArray) (hs : path.size < 4611686018427387904) (keys : List ByteArray) (w : World) (hent : ∀ args w, (callFunc gf args).run Tryd.prog w = .ok (.enter gf args) w)
    (hseq : IterC Tryd.prog gf cap (fun s : ByteArray => #[.string s]) (fun ks => ks.Perm keys) O (fun _ => False) w) (hO : ∀ b, O b → b < w.heap.size) :
    Calls Tryd.prog 20 #[.func (.func gf) #[] cap, .string path] w (UnderPost keys path w) := by
  refine free_wide.calls_of (n := 0) ?_
  refine callsIn_of_wp_marks Tryd.func20 rfl trivial ?_ rfl
  simp only [Tryd.ntmps20, List.size_toArray, List.length_cons, List.length_nil, Nat.reduceAdd, Nat.reduceSub, Array.replicate_succ, Array.replicate_zero, List.push_toArray, List.append_toArray, List.nil_append, List.cons_append]
  gi_wp2
  obtain ⟨W0, hW0⟩ : ∃ W0 : World, (w.alloc (.cells #[.string path] 9)).alloc (.cells #[.bool false] 4) = W0 := ⟨_, rfl⟩
  have hsz : W0.heap.size = w.heap.size + 2 := by rw [← hW0]; simp
  have q0 : W0.heap[w.heap.size]? = some (.cells #[.string path] 9) := by rw [← hW0]; exact hp_alloc_old _ (hp_at _ (by simp))
  have q1 : W0.heap[w.heap.size + 1]? = some (.cells #[.bool false] 4) := by rw [← hW0]; exact hp_at _ (by simp)
  have hb0 : Below w.heap.size w W0 := by rw [← hW0]; exact ((Below.refl _ w).alloc (Nat.le_refl _) _).alloc (by simp) _
  have hB2 : w.heap.size + 2 ≤ W0.heap.size := by omega
  rw [hW0]
  clear hW0 hsz
  refine rangeFunc_top (gf := gf) free_wide rfl rfl hent hseq (by omega) (fun b o hb h => by rw [hb0.block b (hO b hb)]; exact h)
    (fun b h => by have := hO b h; omega) (fun b h => h.elim) (fun _ => rfl)
    (UI path w.heap.size w) (UX path w.heap.size w) ?hI ?hIx ?h0 ?hround ?hdone ?hstop
  case hI => exact UI_abid _ _ _ _ _ (fun b h => h) (by omega)
  case hIx => exact UX_abid _ _ _ _ _ (fun b h => h) (by omega)
  case h0 => exact ⟨q0, q1, rfl, hb0⟩
  case hround =>
    intro l pre x W hl hlW hi hS
    gi_wp2
    refine ⟨Fix.refl _ _ _, fun W2 r hu ht hl2 => ?_⟩
    obtain ⟨r1, r2, r3, r4⟩ := UI_abid _ _ _ _ _ (fun b h => h) (by omega) _ _ _ hi ht
    have c0 : W2.cell? ⟨w.heap.size, 0, none⟩ = some (.string path) := by rw [hp_cell r1]; rfl
    have c1 : W2.cell? ⟨w.heap.size + 1, 0, none⟩ = some (.bool false) := by rw [hp_cell r2]; rfl
    have f1 := hp_frozen r2 0
    have hI2 : UI path w.heap.size w pre W2 := ⟨r1, r2, r3, r4⟩
    have hL : (Lib.trimSuffix path.data.toList [47]).length + 1 ≤ 4611686018427387904 := by
      have := Lib.trimSuffix_le path.data.toList [47]
      rw [Lib.size_eq] at hs
      omega
    clear hi hu ht hS
    gi_wp2_with (first
      | (gi_at_call 27; refine CallsIn.inRound _ ((callsIn_wide.2 (Tryd.strings_TrimSuffix _ _ _ (by omega))).mono ?_); rintro e w' ⟨rfl, rfl⟩)
      | (gi_at_call 23; refine CallsIn.inRound _ ((callsIn_wide.2 (Tryd.strings_HasPrefix _ _ _)).mono ?_); rintro e w' ⟨rfl, rfl⟩))
    · rename_i hx
      exact under_miss hI2 (by simp [isUnder, hx])
    · rename_i hx
      exact under_hit hI2 (by simpa [isUnder] using hx) (by omega)
    · rename_i hx
      exact under_miss hI2 (by unfold isUnder; rw [Bool.and_eq_false_iff]; exact hx)
  case hdone =>
    rintro D xs W hD hxs ⟨r1, r2, r3, r4⟩ hK
    have c1 : W.cell? ⟨w.heap.size + 1, 0, none⟩ = some (.bool false) := by rw [hp_cell r2]; rfl
    have f1 := hp_frozen r2 0
    clear q0 q1
    gi_wp2
    have g1 := hp_setCell_same r2 0 (.bool false)
    have hne : w.heap.size + 1 ≠ D := by omega
    have hKD := (hp_setCell_other (p := ⟨w.heap.size + 1, 0, none⟩) (.bool false) (Ne.symm hne)).trans hK
    have hc5 : ((W.setCell ⟨w.heap.size + 1, 0, none⟩ (.bool false)).putObj D (.deferred none)).cell? ⟨w.heap.size + 1, 0, none⟩ = some (.bool false) := by
      rw [hp_cell ((World.putObj_heap_other hne).trans g1)]; rfl
    refine leaves_mark (.bool false) hKD (by simp [results, Tryd.f20, go_sem, hc5]) ⟨?_, below_mark (r4.setCell (by simp) _) (by omega) (by simp; exact r4.size) _⟩
    have e1 : underB keys path = false := by
      rw [List.any_eq_false] at r3
      exact List.any_eq_false.2 fun y hy => r3 y (hxs.mem_iff.2 hy)
    rw [e1]
  case hstop =>
    rintro D c pre x W hD hS ⟨rfl, r1, r3, r4⟩ hK
    gi_wp2
    have hne : w.heap.size + 1 ≠ D := by omega
    have hc5 : (W.putObj D (.deferred none)).cell? ⟨w.heap.size + 1, 0, none⟩ = some (.bool true) := by
      rw [hp_cell ((World.putObj_heap_other hne).trans r1)]; rfl
    refine leaves_mark (.bool true) hK (by simp [results, Tryd.f20, go_sem, hc5]) ⟨?_, below_mark r4 (by omega) r4.size _⟩
    have e1 : underB keys path = true := by
      obtain ⟨post, hS⟩ := hS
      obtain ⟨y, hy, hyt⟩ := List.any_eq_true.1 r3
      exact List.any_eq_true.2 ⟨y, hS.mem_iff.1 (by rcases List.mem_append.1 hy with h | h <;> simp at h ⊢ <;> simp [h]), hyt⟩
    rw [e1]

section
variable {w w' : World} {bt b1 b2 b3 : Nat} {th : List (ByteArray × Bool)} {st : List (ByteArray × Int)} {mo : List (ByteArray × ByteArray)}

/-- Remove -/
def removeE (th : List (ByteArray × Bool)) (mo : List (ByteArray × ByteArray)) (s : ByteArray) : Int :=
  if foundE th s = 0 then (if (kget mo s).isSome || s.toList == [47] || underB (th.map Prod.fst) s then 112 else 0) else foundE th s
def RemovePost (w : World) (bt b1 b2 b3 : Nat) (th : List (ByteArray × Bool)) (st : List (ByteArray × Int)) (mo : List (ByteArray × ByteArray)) (s : ByteArray) (e : Ending) (w' : World) : Prop :=
  e = .returned (.int .i64 (removeE th mo s)) ∧ TreeAt w' bt b1 b2 b3 (if removeE th mo s = 0 then kdel th s else th) (if removeE th mo s = 0 then chg st s else st) mo ∧ Upd (TS b1 b2 b3) w w'
theorem remove_no {n : Int} {s : ByteArray} (hE : removeE th mo s = n) (hn : n ≠ 0) (h : TreeAt w' bt b1 b2 b3 th st mo) (hu : Upd (TS b1 b2 b3) w w') : RemovePost w bt b1 b2 b3 th st mo s (.returned (.int .i64 n)) w' := by
  refine ⟨by rw [hE], ?_, hu⟩
  rw [if_neg (by rw [hE]; exact hn), if_neg (by rw [hE]; exact hn)]
  exact h
theorem TreeAt.alloc (h : TreeAt w bt b1 b2 b3 th st mo) (o : Obj) : TreeAt (w.alloc o) bt b1 b2 b3 th st mo := h.keep (upd_alloc (fun _ => False) w o) id id id id
theorem under_there (s : ByteArray) (hs : s.size < 4611686018427387904) (h : TreeAt w bt b1 b2 b3 th st mo) :
    Calls Tryd.prog 20 #[.func (.func 28) #[] #[.pointer (some ⟨w.heap.size, 0, none⟩)], .string s] (w.alloc (.cells #[.map (some b1)] 41)) (UnderPost (th.map Prod.fst) s (w.alloc (.cells #[.map (some b1)] 41))) :=
  under_calls 28 _ _ s hs (th.map Prod.fst) _ (enters_of Tryd.func28 (by kernel_rfl) rfl) (keys28 w.heap.size b1 th _ (hp_alloc_new _ _) (h.there.alloc _))
    (fun b hb => by have := h.there.lt; rcases hb with rfl | rfl <;> simp; omega)
theorem under_mounts (s : ByteArray) (hs : s.size < 4611686018427387904) (h : TreeAt w bt b1 b2 b3 th st mo) :
    Calls Tryd.prog 20 #[.func (.func 29) #[] #[.pointer (some ⟨w.heap.size, 0, none⟩)], .string s] (w.alloc (.cells #[.map (some b3)] 43)) (UnderPost (mo.map Prod.fst) s (w.alloc (.cells #[.map (some b3)] 43))) :=
  under_calls 29 _ _ s hs (mo.map Prod.fst) _ (enters_of Tryd.func29 (by kernel_rfl) rfl) (keys29 w.heap.size b3 mo _ (hp_alloc_new _ _) (h.mounts.alloc _))
    (fun b hb => by have := h.mounts.lt; rcases hb with rfl | rfl <;> simp; omega)

theorem remove_calls (s : ByteArray) (hs : s.size < 4611686018427387904) (h : TreeAt w bt b1 b2 b3 th st mo) :
    Calls Tryd.prog 11 #[.pointer (some ⟨bt, 0, none⟩), .string s] w (RemovePost w bt b1 b2 b3 th st mo s) := by
  have hk := kok_string Tryd.underlying9 (s := s) (by omega)
  by_cases hf : foundE th s = 0
  · rcases hx : (kget mo s).isSome with _ | _
    · rcases hr : (s.toList == [47]) with _ | _
      · rcases hu : underB (th.map Prod.fst) s with _ | _
        · have HE := Lib.hid (show removeE th mo s = 0 by rw [removeE, if_pos hf, hx, hr, hu]; rfl)
          have HF := Lib.hid hf
          have HX := Lib.hid hx
          have HU := Lib.hid hu
          clear hf hx hu
          go_enter Tryd.func11, Tryd.ntmps11
          go_wp2_with (first
            | (go_at_call 19; refine (found_calls s hs h).mono ?_; rintro e w1 ⟨rfl, hb1⟩; rw [HF.out]; have h1 := h.below hb1; have d0 := h1.c0; have d2 := h1.c2)
            | (at_lookup; refine wpList_look2 _ rfl _ _ 43 rfl T43 b3 mo rfl h1.mounts _ rfl hk ?_; rw [HX.out])
            | (go_at_call 21; refine (keys21_calls b1 _).mono ?_; rintro e w2 ⟨rfl, rfl⟩)
            | (go_at_call 20; refine (under_there s hs h1).mono ?_; rintro e w3 ⟨rfl, hb3⟩; rw [HU.out]; have h3 := (h1.alloc _).below hb3; have g0 := h3.c0)
            | (at_delete; refine wpList_del _ rfl _ _ 41 9 rfl T41 b1 th rfl h3.there _ rfl hk ?_; intro w4 hat4 hu4 hs4; have h4 := h3.put1 hat4 hu4)
            | (go_at_call 18; refine (changes_calls s hs h4).mono ?_; rintro e w5 ⟨rfl, h5, hu5⟩))
          go_ret
          refine ⟨by rw [HE.out]; rfl, by rw [if_pos HE.out, if_pos HE.out]; exact h5, ?_⟩
          exact (((((Upd.of_below_all hb1 _).alloc _).trans (Upd.of_below_all hb3 _)).trans (hu4.mono fun k _ e => .inl e))).trans (hu5.mono fun k _ e => .inr (.inl e))
        · have HE := Lib.hid (show removeE th mo s = 112 by rw [removeE, if_pos hf, hx, hr, hu]; rfl)
          have HF := Lib.hid hf
          have HX := Lib.hid hx
          have HU := Lib.hid hu
          clear hf hx hu
          go_enter Tryd.func11, Tryd.ntmps11
          go_wp2_with (first
            | (go_at_call 19; refine (found_calls s hs h).mono ?_; rintro e w1 ⟨rfl, hb1⟩; rw [HF.out]; have h1 := h.below hb1; have d0 := h1.c0; have d2 := h1.c2)
            | (at_lookup; refine wpList_look2 _ rfl _ _ 43 rfl T43 b3 mo rfl h1.mounts _ rfl hk ?_; rw [HX.out])
            | (go_at_call 21; refine (keys21_calls b1 _).mono ?_; rintro e w2 ⟨rfl, rfl⟩)
            | (go_at_call 20; refine (under_there s hs h1).mono ?_; rintro e w3 ⟨rfl, hb3⟩; rw [HU.out]; have h3 := (h1.alloc _).below hb3))
          go_ret
          exact remove_no HE.out (by decide) h3 (((Upd.of_below_all hb1 _).alloc _).trans (Upd.of_below_all hb3 _))
      · have HE := Lib.hid (show removeE th mo s = 112 by rw [removeE, if_pos hf, hx, hr]; rfl)
        have HF := Lib.hid hf
        have HX := Lib.hid hx
        clear hf hx
        go_enter Tryd.func11, Tryd.ntmps11
        go_wp2_with (first
          | (go_at_call 19; refine (found_calls s hs h).mono ?_; rintro e w1 ⟨rfl, hb1⟩; rw [HF.out]; have h1 := h.below hb1; have d0 := h1.c0; have d2 := h1.c2)
          | (at_lookup; refine wpList_look2 _ rfl _ _ 43 rfl T43 b3 mo rfl h1.mounts _ rfl hk ?_; rw [HX.out]))
        go_ret
        exact remove_no HE.out (by decide) h1 (Upd.of_below_all hb1 _)
    · have HE := Lib.hid (show removeE th mo s = 112 by rw [removeE, if_pos hf, hx]; rfl)
      have HF := Lib.hid hf
      have HX := Lib.hid hx
      clear hf hx
      go_enter Tryd.func11, Tryd.ntmps11
      go_wp2_with (first
        | (go_at_call 19; refine (found_calls s hs h).mono ?_; rintro e w1 ⟨rfl, hb1⟩; rw [HF.out]; have h1 := h.below hb1; have d0 := h1.c0; have d2 := h1.c2)
        | (at_lookup; refine wpList_look2 _ rfl _ _ 43 rfl T43 b3 mo rfl h1.mounts _ rfl hk ?_; rw [HX.out]))
      go_ret
      exact remove_no HE.out (by decide) h1 (Upd.of_below_all hb1 _)
  · have HE := Lib.hid (show removeE th mo s = foundE th s by rw [removeE, if_neg hf])
    have HF := Lib.hid hf
    have hf' : (foundE th s == 0) = false := beq_eq_false_iff_ne.2 hf
    have hf2 : (foundE th s != 0) = true := by simp [hf]
    go_enter Tryd.func11, Tryd.ntmps11
    go_wp2_with (go_at_call 19; refine (found_calls s hs h).mono ?_; rintro e w1 ⟨rfl, hb1⟩)
    go_ret
    exact remove_no HE.out HF.out (h.below hb1) (Upd.of_below_all hb1 _)

/-- Unmount -/
def unmountE (mo : List (ByteArray × ByteArray)) (s : ByteArray) : Int :=
  if rightB s then (if (kget mo s).isSome then (if underB (mo.map Prod.fst) s then 112 else 0) else 110) else 111
theorem unmount_calls (s : ByteArray) (hs : s.size < 4611686018427387904) (h : TreeAt w bt b1 b2 b3 th st mo) :
    Calls Tryd.prog 14 #[.pointer (some ⟨bt, 0, none⟩), .string s] w (MountPost w bt b1 b2 b3 th st mo (kdel mo s) (unmountE mo s)) := by
  have hk := kok_string Tryd.underlying9 (s := s) (by omega)
  rcases hr : rightB s with _ | _
  · rw [show unmountE mo s = 111 by rw [unmountE, hr]; rfl]
    have HR := Lib.hid hr
    clear hr
    go_enter Tryd.func14, Tryd.ntmps14
    go_wp2_with (go_at_call 16; refine (right_calls s hs _).mono ?_; rintro e w1 ⟨rfl, hb1⟩; rw [HR.out])
    go_ret
    exact mount_no (by decide) (h.below hb1) (Upd.of_below_all hb1 _)
  · rcases hx : (kget mo s).isSome with _ | _
    · rw [show unmountE mo s = 110 by rw [unmountE, hr, hx]; rfl]
      have HR := Lib.hid hr
      have HX := Lib.hid hx
      clear hr hx
      go_enter Tryd.func14, Tryd.ntmps14
      go_wp2_with (first
        | (go_at_call 16; refine (right_calls s hs _).mono ?_; rintro e w1 ⟨rfl, hb1⟩; rw [HR.out]; have h1 := h.below hb1; have d2 := h1.c2)
        | (at_lookup; refine wpList_look2 _ rfl _ _ 43 rfl T43 b3 mo rfl h1.mounts _ rfl hk ?_; rw [HX.out]))
      go_ret
      exact mount_no (by decide) h1 (Upd.of_below_all hb1 _)
    · rcases hu : underB (mo.map Prod.fst) s with _ | _
      · rw [show unmountE mo s = 0 by rw [unmountE, hr, hx, hu]; rfl]
        have HR := Lib.hid hr
        have HX := Lib.hid hx
        have HU := Lib.hid hu
        clear hr hx hu
        go_enter Tryd.func14, Tryd.ntmps14
        go_wp2_with (first
          | (go_at_call 16; refine (right_calls s hs _).mono ?_; rintro e w1 ⟨rfl, hb1⟩; rw [HR.out]; have h1 := h.below hb1; have d2 := h1.c2)
          | (at_lookup; refine wpList_look2 _ rfl _ _ 43 rfl T43 b3 mo rfl h1.mounts _ rfl hk ?_; rw [HX.out])
          | (go_at_call 22; refine (keys22_calls b3 _).mono ?_; rintro e w2 ⟨rfl, rfl⟩)
          | (go_at_call 20; refine (under_mounts s hs h1).mono ?_; rintro e w3 ⟨rfl, hb3⟩; rw [HU.out]; have h3 := (h1.alloc _).below hb3; have g2 := h3.c2)
          | (at_delete; refine wpList_del _ rfl _ _ 43 9 rfl T43 b3 mo rfl h3.mounts _ rfl hk ?_; intro w4 hat4 hu4 hs4; have h4 := h3.put3 hat4 hu4))
        go_ret
        exact ⟨rfl, h4, (((Upd.of_below_all hb1 _).alloc _).trans (Upd.of_below_all hb3 _)).trans (hu4.mono fun k _ e => .inr (.inr e))⟩
      · rw [show unmountE mo s = 112 by rw [unmountE, hr, hx, hu]; rfl]
        have HR := Lib.hid hr
        have HX := Lib.hid hx
        have HU := Lib.hid hu
        clear hr hx hu
        go_enter Tryd.func14, Tryd.ntmps14
        go_wp2_with (first
          | (go_at_call 16; refine (right_calls s hs _).mono ?_; rintro e w1 ⟨rfl, hb1⟩; rw [HR.out]; have h1 := h.below hb1; have d2 := h1.c2)
          | (at_lookup; refine wpList_look2 _ rfl _ _ 43 rfl T43 b3 mo rfl h1.mounts _ rfl hk ?_; rw [HX.out])
          | (go_at_call 22; refine (keys22_calls b3 _).mono ?_; rintro e w2 ⟨rfl, rfl⟩)
          | (go_at_call 20; refine (under_mounts s hs h1).mono ?_; rintro e w3 ⟨rfl, hb3⟩; rw [HU.out]; have h3 := (h1.alloc _).below hb3))
        go_ret
        exact mount_no (by decide) h3 (((Upd.of_below_all hb1 _).alloc _).trans (Upd.of_below_all hb3 _))
end
end Go.Proofs.YtopfgaogfnepfaaDoor
