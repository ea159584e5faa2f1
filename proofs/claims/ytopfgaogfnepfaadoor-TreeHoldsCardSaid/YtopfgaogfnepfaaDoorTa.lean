/- Contracts of the functions that part a path, and of the one that tells whether a text is a path. -/
import Derived.Test.YtopfgaogfnepfaaDoorM
import Derived.Test.YtopfgaogfnepfaaDoorS
import Derived.Test.YtopfgaogfnepfaaDoorShelf
import Derived.Test.YtopfgaogfnepfaaDoorRows
import Derived.WalkSpells
import Derived.WalkLawsBesides
namespace Go.Proofs.YtopfgaogfnepfaaDoor
open Go.RowKit Go.Rv

def SplitRel (Bsep Bs Bv : Nat) (c : UInt8) (all : List ByteArray) (J : List ByteArray → World → Prop) (B0 : Nat) (wr : World) : Prop :=
  ∃ (pre : List ByteArray) (r : ByteArray), wr.heap[Bsep]? = some (.cells #[.string ⟨#[c]⟩] 9) ∧ wr.heap[Bs]? = some (.cells #[.string r] 9) ∧ wr.heap[Bv]? = some (.cells #[.int .i64 0] 3) ∧
    J pre wr ∧ pre ++ splitS c r = all ∧ r.size < 4611686018427387904 ∧ B0 ≤ wr.heap.size
def splitLeft (Bs : Nat) (w : World) : Nat := match w.cell? ⟨Bs, 0, none⟩ with | some (.string r) => r.size | _ => 0

set_option maxHeartbeats 400000 in
theorem split40 (Bsep Bs Bv : Nat) (c : UInt8) (s : ByteArray) (hs : s.size < 4611686018427387904) (w0 : World) (h1 : w0.heap[Bsep]? = some (.cells #[.string ⟨#[c]⟩] 9)) (h2 : w0.heap[Bs]? = some (.cells #[.string s] 9)) (h3 : w0.heap[Bv]? = some (.cells #[.int .i64 0] 3)) (hne1 : Bsep ≠ Bs) (hne2 : Bv ≠ Bs) :
    IterC Tryd.prog 40 #[.pointer (some ⟨Bsep, 0, none⟩), .pointer (some ⟨Bs, 0, none⟩), .pointer (some ⟨Bv, 0, none⟩)] (fun s : ByteArray => #[.string s]) (fun l => l = splitS c s) (fun b => b = Bsep ∨ b = Bs ∨ b = Bv) (fun b => b = Bs) w0 := by
  intro fv J Jx W hsz hO hJ hJx hY h0
  have g1 := hO Bsep _ (.inl rfl) h1
  have g2 := hO Bs _ (.inr (.inl rfl)) h2
  have g3 := hO Bv _ (.inr (.inr rfl)) h3
  clear hO h1 h2 h3
  have HY := Lib.hid hY
  have HJ := Lib.hid hJ
  have HJx := Lib.hid hJx
  clear hY hJ hJx
  have c1 : W.cell? ⟨Bsep, 0, none⟩ = some (.string ⟨#[c]⟩) := by rw [hp_cell g1]; rfl
  refine free_wide.calls_of (n := 0) ?_
  refine callsIn_of_wp Tryd.func40 rfl trivial ?_ rfl
  simp only [Tryd.ntmps40, List.size_toArray, List.length_cons, List.length_nil, Nat.reduceAdd, Nat.reduceSub, Array.replicate_succ, Array.replicate_zero, List.push_toArray, List.append_toArray, List.nil_append, List.cons_append]
  gi_wp2
  gi_loopw [8] (fun _ wr => SplitRel Bsep Bs Bv c (splitS c s) J W.heap.size wr) (fun _ wr => splitLeft Bs wr)
  case atStart => exact ⟨[], s, g1, g2, g3, h0, rfl, hs, Nat.le_refl _⟩
  case round =>
    obtain ⟨pre, r, k1, k2, k3, hj, hall, hr, hle⟩ := hrel
    have d1 : wr.cell? ⟨Bsep, 0, none⟩ = some (.string ⟨#[c]⟩) := by rw [hp_cell k1]; rfl
    have d2 : wr.cell? ⟨Bs, 0, none⟩ = some (.string r) := by rw [hp_cell k2]; rfl
    have d3 : wr.cell? ⟨Bv, 0, none⟩ = some (.int .i64 0) := by rw [hp_cell k3]; rfl
    have HALL := Lib.hid hall
    clear hall g1 g2 g3 c1
    by_cases hi : Lib.indexByte r.data.toList c < 0
    · have hsp := splitS_none hi
      rw [hsp] at HALL
      gi_wp2_with (first
        | (gi_at_call 42; refine (callsIn_wide.2 (Tryd.strings_Index_one _ _ _)).mono ?_; rintro e w' ⟨rfl, rfl⟩)
        | (with_reducible refine wpListIn_fn free_wide ?_ ?_ (HY.out pre r w' hj ⟨[], HALL.out⟩) (fun e w3 hr => ?_)
           rfl
           rfl
           rcases hr with ⟨rfl, hj3, hf3⟩ | ⟨rfl, hx3⟩
           refine ⟨_, rfl, ?_⟩
           rotate_left
           refine ⟨_, rfl, ?_⟩))
      · go_end0
        exact iterPost_stop pre r [] HALL.out hx3
      · go_end0
        exact iterPost_all (pre ++ [r]) HALL.out hj3
    · obtain ⟨o, ho⟩ := Int.eq_ofNat_of_zero_le (Int.not_lt.1 hi)
      obtain ⟨hlt, hsp⟩ := splitS_some ho
      have HI := Lib.hid ho
      rw [hsp] at HALL
      clear hi ho hsp
      gi_wp2_with (first
        | (gi_at_call 42; refine (callsIn_wide.2 (Tryd.strings_Index_one _ _ _)).mono ?_; rintro e w' ⟨rfl, rfl⟩; rw [HI.out])
        | (with_reducible refine wpListIn_fn free_wide ?_ ?_ (HY.out pre (r.extract 0 o) w' hj ⟨_, HALL.out⟩) (fun e w3 hr => ?_)
           rfl
           rfl
           rcases hr with ⟨rfl, hj3, hf3⟩ | ⟨rfl, hx3⟩
           have m1 := hf3.own _ _ (.inl rfl) k1
           have m2 := hf3.own _ _ (.inr (.inl rfl)) k2
           have m3 := hf3.own _ _ (.inr (.inr rfl)) k3
           have e1 : w3.cell? ⟨Bsep, 0, none⟩ = some (.string ⟨#[c]⟩) := by rw [hp_cell m1]; rfl
           have e2 : w3.cell? ⟨Bs, 0, none⟩ = some (.string r) := by rw [hp_cell m2]; rfl
           have f2 : w3.frozen? ⟨Bs, 0, none⟩ = false := hp_frozen m2 0
           refine ⟨_, rfl, ?_⟩
           rotate_left
           refine ⟨_, rfl, ?_⟩))
      · refine bodyPost_ret (results_none rfl _ _ _) rfl ?_
        exact iterPost_stop pre _ _ HALL.out hx3
      · have hsz3 := hf3.size
        have n1 := (hp_setCell_other (p := ⟨Bs, 0, none⟩) (.string (r.extract (o + 1) r.size)) hne1).trans m1
        have n2 := hp_setCell_same m2 0 (.string (r.extract (o + 1) r.size))
        have n3 := (hp_setCell_other (p := ⟨Bs, 0, none⟩) (.string (r.extract (o + 1) r.size)) hne2).trans m3
        have hsz4 : (r.extract (o + 1) r.size).size = r.size - (o + 1) := by simp
        refine ⟨⟨pre ++ [r.extract 0 o], r.extract (o + 1) r.size, n1, n2, n3, HJ.out _ _ _ hj3 (Turns.of_setCell _ rfl), by rw [← HALL.out]; simp, by omega, by simp; omega⟩, ?_⟩
        unfold splitLeft
        rw [hp_cell n2, d2]
        simp only [Array.getElem?_setIfInBounds, List.size_toArray, List.length_cons, List.length_nil, Nat.zero_add, Nat.lt_one_iff, if_true]
        omega
theorem parts_calls (s : ByteArray) (w : World) :
    Calls Tryd.prog 25 #[.string s] w fun e w' => e = .returned (.func (.func 40) #[] #[.pointer (some ⟨w.heap.size + 1, 0, none⟩), .pointer (some ⟨w.heap.size, 0, none⟩), .pointer (some ⟨w.heap.size + 2, 0, none⟩)]) ∧
      w' = ((w.alloc (.cells #[.string (mkS (Lib.trimPrefix s.data.toList [47]))] 9)).alloc (.cells #[.string ⟨#[47]⟩] 9)).alloc (.cells #[.int .i64 0] 3) := by
  go_enter Tryd.func25, Tryd.ntmps25
  go_wp2_with (first
    | (go_at_call 33; refine (Tryd.strings_TrimPrefix _ _ _).mono ?_; rintro e w' ⟨rfl, rfl⟩)
    | go_in)
  go_ret
  exact ⟨rfl, rfl⟩

def okPart (p : ByteArray) : Bool := !p.toList.isEmpty && !(p.toList == [46]) && !(p.toList == [46, 46]) && decide (p.size ≤ 40)
def partsOf (s : ByteArray) : List ByteArray := splitS 47 (mkS (Lib.trimPrefix s.data.toList [47]))
def rightB (s : ByteArray) : Bool :=
  (s.toList == [47]) || (Lib.hasPrefix s.data.toList [47] && decide (Lib.indexByte s.data.toList 0 < 0) && ((partsOf s).all okPart && decide ((partsOf s).length ≤ 8)))

theorem splitB_length (c : UInt8) (l : List UInt8) : (splitB c l).length ≤ l.length + 1 := by
  induction l with
  | nil => simp [splitB]
  | cons x l ih =>
    unfold splitB
    split
    · simp; omega
    · split
      · simp
      · rename_i h; rw [h] at ih; simp at ih ⊢; omega
theorem splitS_length (c : UInt8) (s : ByteArray) : (splitS c s).length ≤ s.size + 1 := by
  unfold splitS; rw [List.length_map, Lib.size_eq]; exact splitB_length c _

def RightPost (s : ByteArray) (w : World) (e : Ending) (w' : World) : Prop := e = .returned (.bool (rightB s)) ∧ Below w.heap.size w w'
/-- Between two rounds. -/
def RI (n : Nat) (w : World) (pre : List ByteArray) (W : World) : Prop :=
  W.heap[n]? = some (.cells #[.bool false] 4) ∧ W.heap[n + 1]? = some (.cells #[.int .i64 pre.length] 3) ∧ pre.all okPart = true ∧ Below n w W
def RX (n : Nat) (w : World) (c : Code) (pre : List ByteArray) (W : World) : Prop :=
  c = .ret ∧ W.heap[n]? = some (.cells #[.bool false] 4) ∧ pre.all okPart = false ∧ Below n w W
theorem RI_abid (n : Nat) (w : World) (O2 : Nat → Prop) (B0 : Nat) (h2 : ∀ b, O2 b → n + 1 < b) (hB : n + 1 < B0) (pre : List ByteArray) : Abid O2 B0 (RI n w pre) := by
  rintro A B ⟨r1, r2, r3, r4⟩ ht
  refine ⟨ht.below r1 (fun h => by have := h2 _ h; omega) (by omega), ht.below r2 (fun h => by have := h2 _ h; omega) (by omega), r3, r4.trans (ht.upd.below (by have := hp_lt r1; omega) ?_)⟩
  rintro k hk (h | h)
  · have := h2 _ h; omega
  · omega
theorem RX_abid (n : Nat) (w : World) (O2 : Nat → Prop) (B0 : Nat) (h2 : ∀ b, O2 b → n + 1 < b) (hB : n + 1 < B0) (c : Code) (pre : List ByteArray) : Abid O2 B0 (RX n w c pre) := by
  rintro A B ⟨r0, r1, r3, r4⟩ ht
  refine ⟨r0, ht.below r1 (fun h => by have := h2 _ h; omega) (by omega), r3, r4.trans (ht.upd.below (by have := hp_lt r1; omega) ?_)⟩
  rintro k hk (h | h)
  · have := h2 _ h; omega
  · omega

theorem right_bad {n B0 : Nat} {O : Nat → Prop} {w W2 : World} {pre : List ByteArray} {x : ByteArray} {a : Act} (h : RI n w pre W2) (hx : okPart x = false) (hB : n < B0) :
    bodyR O B0 (RI n w) (RX n w) (pre ++ [x]) W2 .ret a (W2.setCell ⟨n, 0, none⟩ (.bool false)) := by
  obtain ⟨r1, r2, r3, r4⟩ := h
  refine ⟨Fix.of_upd_lt (upd_setCell _ _ _ _) (fun _ _ h => h) (fun b h => by omega), rfl, hp_setCell_same r1 0 _, by simp [hx], r4.setCell (Nat.le_refl _) _⟩
theorem right_good {n B0 : Nat} {O : Nat → Prop} {w W2 : World} {pre : List ByteArray} {x : ByteArray} {a : Act} (h : RI n w pre W2) (hx : okPart x = true) (hB : n + 1 < B0) (hO : ¬ O (n + 1)) :
    bodyR O B0 (RI n w) (RX n w) (pre ++ [x]) W2 .normal a (W2.setCell ⟨n + 1, 0, none⟩ (.int .i64 ((pre.length : Int) + 1))) := by
  obtain ⟨r1, r2, r3, r4⟩ := h
  refine ⟨Fix.of_upd_lt (upd_setCell _ _ _ _) (fun b h => by rw [h]; exact hO) (fun b h => by omega), (hp_setCell_other _ (by simp)).trans r1, ?_, by simp [r3, hx], r4.setCell (by simp) _⟩
  rw [hp_setCell_same r2 0 _]
  simp

theorem right_calls (s : ByteArray) (hs : s.size < 4611686018427387904) (w : World) :
    Calls Tryd.prog 16 #[.string s] w (RightPost s w) := by
  refine free_wide.calls_of (n := 0) ?_
  refine callsIn_of_wp_marks Tryd.func16 rfl trivial ?_ rfl
  simp only [Tryd.ntmps16, List.size_toArray, List.length_cons, List.length_nil, Nat.reduceAdd, Nat.reduceSub, Array.replicate_succ, Array.replicate_zero, List.push_toArray, List.append_toArray, List.nil_append, List.cons_append]
  gi_wp2_with (first
    | (gi_at_call 23; refine (callsIn_wide.2 (Tryd.strings_HasPrefix _ _ _)).mono ?_; rintro e w' ⟨rfl, rfl⟩)
    | (gi_at_call 24; refine (callsIn_wide.2 (Tryd.strings_IndexByte _ _ _)).mono ?_; rintro e w' ⟨rfl, rfl⟩)
    | (gi_at_call 25; refine (callsIn_wide.2 (parts_calls _ _)).mono ?_; rintro e w' ⟨rfl, rfl⟩))
  rotate_left 2
  · obtain ⟨W0, hW0⟩ : ∃ W0 : World, ((((w.alloc (.cells #[.bool false] 4)).alloc (.cells #[.int .i64 0] 3)).alloc (.cells #[.string (mkS (Lib.trimPrefix s.data.toList [47]))] 9)).alloc (.cells #[.string ⟨#[47]⟩] 9)).alloc (.cells #[.int .i64 0] 3) = W0 := ⟨_, rfl⟩
    have hsz : W0.heap.size = w.heap.size + 5 := by rw [← hW0]; simp
    have q0 : W0.heap[w.heap.size]? = some (.cells #[.bool false] 4) := by rw [← hW0]; exact hp_alloc_old _ (hp_alloc_old _ (hp_alloc_old _ (hp_alloc_old _ (hp_at _ (by simp)))))
    have q1 : W0.heap[w.heap.size + 1]? = some (.cells #[.int .i64 0] 3) := by rw [← hW0]; exact hp_alloc_old _ (hp_alloc_old _ (hp_alloc_old _ (hp_at _ (by simp))))
    have q2 : W0.heap[w.heap.size + 1 + 1]? = some (.cells #[.string (mkS (Lib.trimPrefix s.data.toList [47]))] 9) := by rw [← hW0]; exact hp_alloc_old _ (hp_alloc_old _ (hp_at _ (by simp)))
    have q3 : W0.heap[w.heap.size + 1 + 1 + 1]? = some (.cells #[.string ⟨#[47]⟩] 9) := by rw [← hW0]; exact hp_alloc_old _ (hp_at _ (by simp))
    have q4 : W0.heap[w.heap.size + 1 + 1 + 2]? = some (.cells #[.int .i64 0] 3) := by rw [← hW0]; exact hp_at _ (by simp)
    have hb0 : Below w.heap.size w W0 := by
      rw [← hW0]; exact (((((Below.refl _ w).alloc (Nat.le_refl _) _).alloc (by simp) _).alloc (by simp; omega) _).alloc (by simp; omega) _).alloc (by simp; omega) _
    rw [hW0]
    clear hW0
    have hB5 : w.heap.size + 5 ≤ W0.heap.size := by omega
    have HS := Lib.hid hsz
    clear hsz
    have hS : (mkS (Lib.trimPrefix s.data.toList [47])).size < 4611686018427387904 := by
      have := Lib.trimPrefix_le s.data.toList [47]
      rw [Lib.size_eq, data_mkS]
      rw [Lib.size_eq] at hs
      omega
    refine rangeFunc_top (gf := 40) free_wide rfl rfl (enters_of Tryd.func40 (by kernel_rfl) rfl)
      (split40 (w.heap.size + 1 + 1 + 1) (w.heap.size + 1 + 1) (w.heap.size + 1 + 1 + 2) 47 (mkS (Lib.trimPrefix s.data.toList [47])) hS W0 q3 q2 q4 (by omega) (by omega)) (Nat.le_refl _) (fun _ _ _ h => h)
      (fun b h => by omega) (fun b h => by omega) (fun _ => rfl)
      (RI w.heap.size w) (RX w.heap.size w) ?hI ?hIx ?h0 ?hround ?hdone ?hstop
    case hI => exact RI_abid _ _ _ _ (fun b h => by omega) (by omega)
    case hIx => exact RX_abid _ _ _ _ (fun b h => by omega) (by omega)
    case h0 => exact ⟨q0, q1, rfl, hb0⟩
    case hround =>
      intro l pre x W hl hlW hi hS
      gi_wp2
      refine ⟨Fix.refl _ _ _, fun W2 r hu ht hl2 => ?_⟩
      obtain ⟨r1, r2, r3, r4⟩ := RI_abid _ _ _ _ (fun b h => by omega) (by omega) _ _ _ hi ht
      have hlen : (pre.length : Int) < 4611686018427387905 := by
        obtain ⟨post, hS⟩ := hS
        have h1 := splitS_length 47 (mkS (Lib.trimPrefix s.data.toList [47]))
        rw [← hS, List.length_append, List.length_cons] at h1
        omega
      have c0 : W2.cell? ⟨w.heap.size, 0, none⟩ = some (.bool false) := by rw [hp_cell r1]; rfl
      have c1 : W2.cell? ⟨w.heap.size + 1, 0, none⟩ = some (.int .i64 pre.length) := by rw [hp_cell r2]; rfl
      have f0 := hp_frozen r1 0
      have f1 := hp_frozen r2 0
      have hI2 : RI w.heap.size w pre W2 := ⟨r1, r2, r3, r4⟩
      clear hi hu ht
      have HSS := Lib.hid hS
      clear hS
      rcases hx1 : x.toList.isEmpty with _ | _
      · have hx1' : ¬ x.toList = [] := by intro e; rw [e] at hx1; cases hx1
        rcases hx2 : (x.toList == [46]) with _ | _
        · rcases hx3 : (x.toList == [46, 46]) with _ | _
          · by_cases hx4 : 40 < (x.size : Int)
            · gi_wp2
              exact right_bad hI2 (by simp [okPart]; omega) (by omega)
            · gi_wp2
              exact right_good hI2 (by simp [okPart, hx1', hx2, hx3]; omega) (by omega) (by omega)
          · gi_wp2
            exact right_bad hI2 (by simp [okPart, hx3]) (by omega)
        · gi_wp2
          exact right_bad hI2 (by simp [okPart, hx2]) (by omega)
      · have hx1' : x.toList = [] := by simpa using hx1
        gi_wp2
        exact right_bad hI2 (by simp [okPart, hx1]) (by omega)
    case hdone =>
      rintro D xs W hD hxs ⟨r1, r2, r3, r4⟩ hK
      have c0 : W.cell? ⟨w.heap.size, 0, none⟩ = some (.bool false) := by rw [hp_cell r1]; rfl
      have c1 : W.cell? ⟨w.heap.size + 1, 0, none⟩ = some (.int .i64 xs.length) := by rw [hp_cell r2]; rfl
      have f0 := hp_frozen r1 0
      have HX := Lib.hid hxs
      clear hxs q0 q1 q2 q3 q4
      gi_wp2
      have g1 := hp_setCell_same r1 0 (.bool (decide ((xs.length : Int) ≤ 8)))
      have hne : w.heap.size ≠ D := by omega
      have hKD := (hp_setCell_other (p := ⟨w.heap.size, 0, none⟩) (.bool (decide ((xs.length : Int) ≤ 8))) (Ne.symm hne)).trans hK
      have hc5 : ((W.setCell ⟨w.heap.size, 0, none⟩ (.bool (decide ((xs.length : Int) ≤ 8)))).putObj D (.deferred none)).cell? ⟨w.heap.size, 0, none⟩ = some (.bool (decide ((xs.length : Int) ≤ 8))) := by
        rw [hp_cell ((World.putObj_heap_other hne).trans g1)]; rfl
      refine leaves_mark (.bool (decide ((xs.length : Int) ≤ 8))) hKD (by simp [results, Tryd.f16, go_sem, hc5]) ⟨?_, below_mark (r4.setCell (Nat.le_refl _) _) (by omega) (by simp; exact r4.size) _⟩
      have e1 : rightB s = decide ((xs.length : Int) ≤ 8) := by
        unfold rightB partsOf
        rw [← HX.out, r3]
        simp [*]
        omega
      rw [e1]
    case hstop =>
      rintro D c pre x W hD hS ⟨rfl, r1, r3, r4⟩ hK
      gi_wp2
      have hne : w.heap.size ≠ D := by omega
      have hc5 : (W.putObj D (.deferred none)).cell? ⟨w.heap.size, 0, none⟩ = some (.bool false) := by
        rw [hp_cell ((World.putObj_heap_other hne).trans r1)]; rfl
      refine leaves_mark (.bool false) hK (by simp [results, Tryd.f16, go_sem, hc5]) ⟨?_, below_mark r4 (by omega) r4.size _⟩
      have e1 : rightB s = false := by
        unfold rightB partsOf
        obtain ⟨post, hS⟩ := hS
        rw [← hS]
        have : (pre ++ x :: post).all okPart = false := by
          rw [show pre ++ x :: post = (pre ++ [x]) ++ post by simp, List.all_append, r3]; rfl
        rw [this]
        simp [*]
      rw [e1]
  · have hc5 : (w.alloc (.cells #[.bool false] 4)).cell? ⟨w.heap.size, 0, none⟩ = some (.bool false) := by rw [hp_cell (hp_alloc_new w _)]; rfl
    refine ⟨.bool false, by simp [results, Tryd.f16, go_sem, hc5], ?_, (Below.refl _ w).alloc (Nat.le_refl _) _⟩
    have e1 : rightB s = false := by simp [rightB, *]
    rw [e1]
  · have hc5 : (w.alloc (.cells #[.bool true] 4)).cell? ⟨w.heap.size, 0, none⟩ = some (.bool true) := by rw [hp_cell (hp_alloc_new w _)]; rfl
    refine ⟨.bool true, by simp [results, Tryd.f16, go_sem, hc5], ?_, (Below.refl _ w).alloc (Nat.le_refl _) _⟩
    have e1 : rightB s = true := by simp [rightB, *]
    rw [e1]
  · have hc5 : (w.alloc (.cells #[.bool false] 4)).cell? ⟨w.heap.size, 0, none⟩ = some (.bool false) := by rw [hp_cell (hp_alloc_new w _)]; rfl
    refine ⟨.bool false, by simp [results, Tryd.f16, go_sem, hc5], ?_, (Below.refl _ w).alloc (Nat.le_refl _) _⟩
    have e1 : rightB s = false := by
      have hn : ¬ Lib.indexByte s.data.toList 0 < 0 := by omega
      simp [rightB, *]
    rw [e1]
end Go.Proofs.YtopfgaogfnepfaaDoor
