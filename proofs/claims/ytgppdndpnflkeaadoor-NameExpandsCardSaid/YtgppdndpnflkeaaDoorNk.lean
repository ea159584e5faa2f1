/- Contracts of package name: OfPath. -/
import Derived.Test.YtgppdndpnflkeaaDoorNj
namespace Go.Proofs.YtgppdndpnflkeaaDoor
open Go.RowKit Go.Rv

def okSeg (p : ByteArray) : Bool := !p.toList.isEmpty && !(p.toList == [46]) && !(p.toList == [46, 46])
/-- A path as a part of a name. -/
def ofPathL (l : List UInt8) : List UInt8 × Int :=
  if Lib.hasPrefix l [47] = false then ([], 41)
  else if (Lib.trimPrefix l [47]).isEmpty then ([45], 0)
  else if (splitS 47 (mkS (Lib.trimSuffix (Lib.trimPrefix l [47]) [47]))).all okSeg then (escL (Lib.trimSuffix (Lib.trimPrefix l [47]) [47]), 0) else ([], 41)
def OfPost (s : ByteArray) (w : World) (e : Ending) (w' : World) : Prop :=
  e = .returned (.tuple #[.string (mkS (ofPathL s.data.toList).1), .int .i64 (ofPathL s.data.toList).2]) ∧ Below w.heap.size w w'
/-- Between two rounds. -/
def QI (n : Nat) (w : World) (pre : List ByteArray) (W : World) : Prop :=
  W.heap[n]? = some (.cells #[.string ⟨#[]⟩] 9) ∧ W.heap[n + 1]? = some (.cells #[.int .i64 0] 23) ∧ pre.all okSeg = true ∧ Below n w W
def QX (n : Nat) (w : World) (c : Code) (pre : List ByteArray) (W : World) : Prop :=
  c = .ret ∧ W.heap[n]? = some (.cells #[.string ⟨#[]⟩] 9) ∧ W.heap[n + 1]? = some (.cells #[.int .i64 41] 23) ∧ pre.all okSeg = false ∧ Below n w W
theorem QI_abid (n : Nat) (w : World) (O2 : Nat → Prop) (B0 : Nat) (h2 : ∀ b, O2 b → n + 1 < b) (hB : n + 1 < B0) (pre : List ByteArray) : Abid O2 B0 (QI n w pre) := by
  rintro A B ⟨r1, r2, r3, r4⟩ ht
  refine ⟨ht.below r1 (fun h => by have := h2 _ h; omega) (by omega), ht.below r2 (fun h => by have := h2 _ h; omega) (by omega), r3, r4.trans (ht.upd.below (by have := hp_lt r1; omega) ?_)⟩
  rintro k hk (h | h)
  · have := h2 _ h; omega
  · omega
theorem QX_abid (n : Nat) (w : World) (O2 : Nat → Prop) (B0 : Nat) (h2 : ∀ b, O2 b → n + 1 < b) (hB : n + 1 < B0) (c : Code) (pre : List ByteArray) : Abid O2 B0 (QX n w c pre) := by
  rintro A B ⟨r0, r1, r2, r3, r4⟩ ht
  refine ⟨r0, ht.below r1 (fun h => by have := h2 _ h; omega) (by omega), ht.below r2 (fun h => by have := h2 _ h; omega) (by omega), r3, r4.trans (ht.upd.below (by have := hp_lt r1; omega) ?_)⟩
  rintro k hk (h | h)
  · have := h2 _ h; omega
  · omega
theorem of_bad {n B0 : Nat} {O : Nat → Prop} {w W2 : World} {pre : List ByteArray} {x : ByteArray} {a : Act} (h : QI n w pre W2) (hx : okSeg x = false) (hB : n + 1 < B0) :
    bodyR O B0 (QI n w) (QX n w) (pre ++ [x]) W2 .ret a ((W2.setCell ⟨n, 0, none⟩ (.string ⟨#[]⟩)).setCell ⟨n + 1, 0, none⟩ (.int .i64 41)) := by
  obtain ⟨r1, r2, r3, r4⟩ := h
  have e1 := hp_setCell_same r1 0 (.string ⟨#[]⟩)
  have e2 := (hp_setCell_other (p := ⟨n, 0, none⟩) (b := n + 1) (.string ⟨#[]⟩) (by simp)).trans r2
  have hu : Upd (fun b => b = n ∨ b = n + 1) W2 ((W2.setCell ⟨n, 0, none⟩ (.string ⟨#[]⟩)).setCell ⟨n + 1, 0, none⟩ (.int .i64 41)) :=
    ((Upd.refl _ _).setCell (p := ⟨n, 0, none⟩) (fun _ => .inl rfl) _).setCell (p := ⟨n + 1, 0, none⟩) (fun _ => .inr rfl) _
  exact ⟨Fix.of_upd_lt hu (fun _ _ h => h) (fun b h => by omega), rfl, (hp_setCell_other _ (by simp)).trans e1, hp_setCell_same e2 0 _, by simp [hx], (r4.setCell (Nat.le_refl _) _).setCell (by simp) _⟩
theorem of_next {n B0 : Nat} {O : Nat → Prop} {w W2 : World} {pre : List ByteArray} {x : ByteArray} {a : Act} (h : QI n w pre W2) (hx : okSeg x = true) :
    bodyR O B0 (QI n w) (QX n w) (pre ++ [x]) W2 .normal a W2 := by
  obtain ⟨r1, r2, r3, r4⟩ := h
  exact ⟨Fix.refl _ _ _, r1, r2, by simp [r3, hx], r4⟩

theorem of_end {s : ByteArray} {w W : World} {tm : Array Value} {b : Nat} {x : ByteArray} {n : Int} (h1 : W.heap[b]? = some (.cells #[.string x] 9)) (h0 : W.heap[b + 1]? = some (.cells #[.int .i64 n] 23))
    (h2 : tm.getD 2 undef = .pointer (some ⟨b, 0, none⟩)) (h3 : tm.getD 3 undef = .pointer (some ⟨b + 1, 0, none⟩)) (hv : Hid (ofPathL s.data.toList = (x.data.toList, n))) (hb : Below w.heap.size w W) :
    bodyPost Tryd.prog Tryd.f13 (OfPost s w) .ret { tmps := tm, defers := [] } W := by
  have q0 : W.cell? ⟨b, 0, none⟩ = some (.string x) := by rw [hp_cell h1]; rfl
  have q1 : W.cell? ⟨b + 1, 0, none⟩ = some (.int .i64 n) := by rw [hp_cell h0]; rfl
  refine bodyPost_ret (v := .tuple #[.string x, .int .i64 n]) ?_ rfl ⟨by rw [hv.out, mkS_data], hb⟩
  have h2' : tm[2]?.getD undef = .pointer (some ⟨b, 0, none⟩) := by rw [← h2]; simp
  have h3' : tm[3]?.getD undef = .pointer (some ⟨b + 1, 0, none⟩) := by rw [← h3]; simp
  simp [results, Tryd.results13, go_sem, h2', h3', q0, q1]
theorem of_leave {s : ByteArray} {w W : World} {tm : Array Value} {b D : Nat} {x : ByteArray} {n : Int} (h1 : W.heap[b]? = some (.cells #[.string x] 9)) (h0 : W.heap[b + 1]? = some (.cells #[.int .i64 n] 23))
    (h2 : tm.getD 2 undef = .pointer (some ⟨b, 0, none⟩)) (h3 : tm.getD 3 undef = .pointer (some ⟨b + 1, 0, none⟩)) (hv : ofPathL s.data.toList = (x.data.toList, n)) (hb : Below w.heap.size w W)
    (hK : W.heap[D]? = some (.deferred (some []))) (hD : w.heap.size ≤ D) :
    bodyPostM Fence.wide 0 Tryd.prog Tryd.f13 (OfPost s w) .ret { tmps := tm, defers := [{ target := .collected D, args := #[] }] } W := by
  have hbD : b ≠ D := fun e => by subst e; rw [h1] at hK; cases hK
  have hbD1 : b + 1 ≠ D := fun e => by subst e; rw [h0] at hK; cases hK
  have q0 : (W.putObj D (.deferred none)).cell? ⟨b, 0, none⟩ = some (.string x) := by rw [hp_cell ((World.putObj_heap_other hbD).trans h1)]; rfl
  have q1 : (W.putObj D (.deferred none)).cell? ⟨b + 1, 0, none⟩ = some (.int .i64 n) := by rw [hp_cell ((World.putObj_heap_other hbD1).trans h0)]; rfl
  have h2' : tm[2]?.getD undef = .pointer (some ⟨b, 0, none⟩) := by rw [← h2]; simp
  have h3' : tm[3]?.getD undef = .pointer (some ⟨b + 1, 0, none⟩) := by rw [← h3]; simp
  exact leaves_mark (.tuple #[.string x, .int .i64 n]) hK (by simp [results, Tryd.results13, go_sem, h2', h3', q0, q1]) ⟨by rw [hv, mkS_data], below_mark hb hD hb.size _⟩
theorem trimSuffix_le (l p : List UInt8) : (Lib.trimSuffix l p).length ≤ l.length := by
  unfold Lib.trimSuffix
  split
  · simp
  · omega
theorem ofPath_calls (s : ByteArray) (hs : s.size ≤ 1000000) (w : World) : Calls Tryd.prog 13 #[.string s] w (OfPost s w) := by
  rcases hp : Lib.hasPrefix s.data.toList [47] with _ | _
  · have E : Hid (ofPathL s.data.toList = ((⟨#[]⟩ : ByteArray).data.toList, 41)) := Lib.hid (by rw [ofPathL, if_pos hp])
    have HC : Hid (∀ W, Calls Tryd.prog 36 #[.string s, .string ⟨#[47]⟩] W fun e w' => e = .returned (.tuple #[.string (mkS (Lib.trimPrefix s.data.toList [47])), .bool false]) ∧ w' = W) := Lib.hid fun W => by
      have := Tryd.strings_CutPrefix s ⟨#[47]⟩ W
      rw [show (⟨#[47]⟩ : ByteArray).data.toList = [47] from rfl, hp] at this; exact this
    clear hp
    go_enter Tryd.func13, Tryd.ntmps13
    go_wp2_with (go_at_call 36; refine (HC.out _).mono ?_; rintro e w1 ⟨rfl, rfl⟩)
    exact of_end (b := w.heap.size) (hp_alloc_old _ (hp_alloc_new w _)) (hp_at _ (by simp)) rfl rfl E (((Below.refl _ w).alloc (Nat.le_refl _) _).alloc (by simp) _)
  · have HC : Hid (∀ W, Calls Tryd.prog 36 #[.string s, .string ⟨#[47]⟩] W fun e w' => e = .returned (.tuple #[.string (mkS (Lib.trimPrefix s.data.toList [47])), .bool true]) ∧ w' = W) := Lib.hid fun W => by
      have := Tryd.strings_CutPrefix s ⟨#[47]⟩ W
      rw [show (⟨#[47]⟩ : ByteArray).data.toList = [47] from rfl, hp] at this; exact this
    have hE : ofPathL s.data.toList = if (Lib.trimPrefix s.data.toList [47]).isEmpty then ([45], 0)
      else if (splitS 47 (mkS (Lib.trimSuffix (Lib.trimPrefix s.data.toList [47]) [47]))).all okSeg then (escL (Lib.trimSuffix (Lib.trimPrefix s.data.toList [47]) [47]), 0) else ([], 41) := by
      rw [ofPathL, if_neg (by rw [hp]; simp)]
    have hl := Lib.trimPrefix_le s.data.toList [47]
    obtain ⟨r, hr⟩ : ∃ r, Lib.trimPrefix s.data.toList [47] = r := ⟨_, rfl⟩
    rw [hr] at hE hl HC
    rw [← Lib.size_eq] at hl
    clear hp hr
    cases r with
    | nil =>
      have E : Hid (ofPathL s.data.toList = ((⟨#[45]⟩ : ByteArray).data.toList, 0)) := Lib.hid (by rw [hE]; rfl)
      have hem : (mkS []).toList.isEmpty = true := by rw [Lib.toList_data, data_mkS]; rfl
      have hem2 : (mkS []).toList = [] := by rw [Lib.toList_data, data_mkS]
      clear hE
      go_enter Tryd.func13, Tryd.ntmps13
      go_wp2_with (go_at_call 36; refine (HC.out _).mono ?_; rintro e w1 ⟨rfl, rfl⟩)
      exact of_end (b := w.heap.size) (hp_alloc_old _ (hp_alloc_new w _)) (hp_at _ (by simp)) rfl rfl E (((Below.refl _ w).alloc (Nat.le_refl _) _).alloc (by simp) _)
    | cons c r =>
      have hem : (mkS (c :: r)).toList.isEmpty = false := by rw [Lib.toList_data, data_mkS]; rfl
      have hem2 : ¬ (mkS (c :: r)).toList = [] := by rw [Lib.toList_data, data_mkS]; simp
      rw [if_neg (by simp)] at hE
      have hrl := trimSuffix_le (c :: r) [47]
      have HT : Hid (∀ W, Calls Tryd.prog 37 #[.string (mkS (c :: r)), .string ⟨#[47]⟩] W fun e w' => e = .returned (.string (mkS (Lib.trimSuffix (c :: r) [47]))) ∧ w' = W) := Lib.hid fun W => by
        have := Tryd.strings_TrimSuffix (mkS (c :: r)) ⟨#[47]⟩ W (by rw [size_mkS]; omega)
        rw [show (⟨#[47]⟩ : ByteArray).data.toList = [47] from rfl, data_mkS] at this; exact this
      obtain ⟨q, hq⟩ : ∃ q, Lib.trimSuffix (c :: r) [47] = q := ⟨_, rfl⟩
      rw [hq] at hE HT hrl
      have HE := Lib.hid hE
      clear hq hE
      refine free_wide.calls_of (n := 0) ?_
      refine callsIn_of_wp_marks Tryd.func13 rfl trivial ?_ rfl
      simp only [Tryd.ntmps13, List.size_toArray, List.length_cons, List.length_nil, Nat.reduceAdd, Nat.reduceSub, Array.replicate_succ, Array.replicate_zero, List.push_toArray, List.append_toArray, List.nil_append, List.cons_append]
      gi_wp2_with (first
        | (gi_at_call 36; refine (callsIn_wide.2 (HC.out _)).mono ?_; rintro e w' ⟨rfl, rfl⟩)
        | (gi_at_call 37; refine (callsIn_wide.2 (HT.out _)).mono ?_; rintro e w' ⟨rfl, rfl⟩)
        | (gi_at_call 38; refine (callsIn_wide.2 (splitSeq_calls _ _)).mono ?_; rintro e w' ⟨rfl, rfl⟩))
      obtain ⟨W0, hW0⟩ : ∃ W0 : World, ((((w.alloc (.cells #[.string ⟨#[]⟩] 9)).alloc (.cells #[.int .i64 0] 23)).alloc (.cells #[.string (mkS q)] 9)).alloc (.cells #[.string ⟨#[47]⟩] 9)).alloc (.cells #[.int .i64 0] 3) = W0 := ⟨_, rfl⟩
      have hsz : W0.heap.size = w.heap.size + 5 := by rw [← hW0]; simp
      have q0 : W0.heap[w.heap.size]? = some (.cells #[.string ⟨#[]⟩] 9) := by rw [← hW0]; exact hp_alloc_old _ (hp_alloc_old _ (hp_alloc_old _ (hp_alloc_old _ (hp_at _ (by simp)))))
      have q1 : W0.heap[w.heap.size + 1]? = some (.cells #[.int .i64 0] 23) := by rw [← hW0]; exact hp_alloc_old _ (hp_alloc_old _ (hp_alloc_old _ (hp_at _ (by simp))))
      have q2 : W0.heap[w.heap.size + 1 + 1]? = some (.cells #[.string (mkS q)] 9) := by rw [← hW0]; exact hp_alloc_old _ (hp_alloc_old _ (hp_at _ (by simp)))
      have q3 : W0.heap[w.heap.size + 1 + 1 + 1]? = some (.cells #[.string ⟨#[47]⟩] 9) := by rw [← hW0]; exact hp_alloc_old _ (hp_at _ (by simp))
      have q4 : W0.heap[w.heap.size + 1 + 1 + 2]? = some (.cells #[.int .i64 0] 3) := by rw [← hW0]; exact hp_at _ (by simp)
      have hb0 : Below w.heap.size w W0 := by
        rw [← hW0]; exact (((((Below.refl _ w).alloc (Nat.le_refl _) _).alloc (by simp) _).alloc (by simp; omega) _).alloc (by simp; omega) _).alloc (by simp; omega) _
      rw [hW0]
      clear hW0
      have hB5 : w.heap.size + 5 ≤ W0.heap.size := by omega
      have HS := Lib.hid hsz
      clear hsz
      have hS : (mkS q).size < 4611686018427387904 := by rw [size_mkS]; omega
      have HQ : Hid (q.length ≤ 1000000) := Lib.hid (by omega)
      refine rangeFunc_top (gf := 63) free_wide rfl rfl (enters_of Tryd.func63 (by kernel_rfl) rfl)
        (split63 (w.heap.size + 1 + 1 + 1) (w.heap.size + 1 + 1) (w.heap.size + 1 + 1 + 2) 47 (mkS q) hS W0 q3 q2 q4 (by omega) (by omega)) (Nat.le_refl _) (fun _ _ _ h => h)
        (fun b h => by omega) (fun b h => by omega) (fun _ => rfl)
        (QI w.heap.size w) (QX w.heap.size w) ?hI ?hIx ?h0 ?hround ?hdone ?hstop
      case hI => exact QI_abid _ _ _ _ (fun b h => by omega) (by omega)
      case hIx => exact QX_abid _ _ _ _ (fun b h => by omega) (by omega)
      case h0 => exact ⟨q0, q1, rfl, hb0⟩
      case hround =>
        intro l pre x W hl hlW hi hS
        gi_wp2
        refine ⟨Fix.refl _ _ _, fun W2 r hu ht hl2 => ?_⟩
        obtain ⟨r1, r2, r3, r4⟩ := QI_abid _ _ _ _ (fun b h => by omega) (by omega) _ _ _ hi ht
        have c0 : W2.cell? ⟨w.heap.size, 0, none⟩ = some (.string ⟨#[]⟩) := by rw [hp_cell r1]; rfl
        have c1 : W2.cell? ⟨w.heap.size + 1, 0, none⟩ = some (.int .i64 0) := by rw [hp_cell r2]; rfl
        have f0 := hp_frozen r1 0
        have f1 := hp_frozen r2 0
        have hI2 : QI w.heap.size w pre W2 := ⟨r1, r2, r3, r4⟩
        clear hi hu ht
        have HSS := Lib.hid hS
        clear hS
        rcases hx1 : x.toList.isEmpty with _ | _
        · have hx1' : ¬ x.toList = [] := by intro e; rw [e] at hx1; cases hx1
          rcases hx2 : (x.toList == [46]) with _ | _
          · rcases hx3 : (x.toList == [46, 46]) with _ | _
            · gi_wp2
              exact of_next hI2 (by simp [okSeg, hx1', hx2, hx3])
            · gi_wp2
              exact of_bad hI2 (by simp [okSeg, hx3]) (by omega)
          · gi_wp2
            exact of_bad hI2 (by simp [okSeg, hx2]) (by omega)
        · have hx1' : x.toList = [] := by simpa using hx1
          gi_wp2
          exact of_bad hI2 (by simp [okSeg, hx1]) (by omega)
      case hdone =>
        rintro D xs W hD hxs ⟨r1, r2, r3, r4⟩ hK
        have c0 : W.cell? ⟨w.heap.size, 0, none⟩ = some (.string ⟨#[]⟩) := by rw [hp_cell r1]; rfl
        have c1 : W.cell? ⟨w.heap.size + 1, 0, none⟩ = some (.int .i64 0) := by rw [hp_cell r2]; rfl
        have f0 := hp_frozen r1 0
        have f1 := hp_frozen r2 0
        have HX := Lib.hid hxs
        have hlt0 := hp_lt r1
        have hlt1 := hp_lt r2
        clear hxs q0 q1 q2 q3 q4
        gi_wp2_with (gi_at_call 11; refine (callsIn_wide.2 (escape_calls (mkS q) (by rw [size_mkS]; exact HQ.out) _)).mono ?_; rintro e w5 ⟨rfl, hb5⟩; obtain ⟨c5, f5⟩ := bcell hb5)
        have g0 := (hb5.block _ hlt0).trans r1
        have g1 := (hb5.block _ hlt1).trans r2
        have g2 := (hb5.block _ (hp_lt hK)).trans hK
        have n0 : w.heap.size ≠ D := by omega
        have n1 : w.heap.size + 1 ≠ D := by omega
        refine of_leave (b := w.heap.size) (D := D) ((hp_setCell_other _ (by simp)).trans (hp_setCell_same g0 0 _)) (hp_setCell_same ((hp_setCell_other (b := w.heap.size + 1) _ (by simp)).trans g1) 0 _) rfl rfl ?_
          (((r4.trans (hb5.mono r4.size)).setCell (Nat.le_refl _) _).setCell (by simp) _) ((hp_setCell_other _ (Ne.symm n1)).trans ((hp_setCell_other _ (Ne.symm n0)).trans g2)) (by omega)
        rw [HE.out, if_pos (by rw [← HX.out]; exact r3), data_mkS, data_mkS]
      case hstop =>
        rintro D c pre x W hD hS ⟨rfl, r1, r2, r3, r4⟩ hK
        gi_wp2
        refine of_leave (b := w.heap.size) (D := D) r1 r2 rfl rfl ?_ r4 hK (by omega)
        obtain ⟨post, hS⟩ := hS
        rw [HE.out, if_neg]
        rw [← hS, show pre ++ x :: post = (pre ++ [x]) ++ post by simp, List.all_append, r3]
        simp
end Go.Proofs.YtgppdndpnflkeaaDoor
