/- GroupOne: the walk. -/
import Derived.Test.YtjbpghdgmpinpaaGe
import Derived.Test.YtjbpghdgmpinpaaGf
import Derived.Test.YtjbpghdgmpinpaaI
import Derived.Deep.LoopGhost
import Derived.Deep.CutRange
import Derived.Deep.CutBlock
namespace Go.Proofs.Ytjbpghdgmpinpaa
open Go.RowKit Go.Rv

theorem GAt.tight {S : Nat → Prop} {w : World} {p b1 b2 : Nat} {v : Value} {gl : List (ByteArray × Nat × List Int)} {of : List (Int × ByteArray)} {notes : List ByteArray} (h : GAt S w p b1 b2 v gl of notes) : GAt (fun k => S k ∧ k < w.heap.size) w p b1 b2 v gl of notes :=
  ⟨h.obj, h.groups, h.of_, h.row, h.sets, h.ne12, h.neS, h.nd, ⟨h.sp, hp_lt h.obj⟩, ⟨h.s1, h.groups.lt⟩, ⟨h.s2, h.of_.lt⟩, fun k hk => ⟨h.sv k hk, (h.row.lt hk).2⟩, fun x hx => ⟨h.ss x hx, (h.sets x hx).lt⟩⟩
theorem GroupsAt.tight {S : Nat → Prop} {w : World} {p : Nat} {G : List (ByteArray × List Int)} {of : List (Int × ByteArray)} {notes : List ByteArray} (h : GroupsAt S w p G of notes) : GroupsAt (fun k => S k ∧ k < w.heap.size) w p G of notes := by
  obtain ⟨b1, b2, v, gl, hg, h⟩ := h; exact ⟨b1, b2, v, gl, hg, h.tight⟩

/-- The texts of the names. -/
def namesV : Array Value := #[.string ⟨#[97]⟩, .string ⟨#[98]⟩, .string ⟨#[99]⟩, .string ⟨#[100]⟩]
theorem namesV_at {k : Nat} (hk : k < 4) : namesV[k]? = some (.string (nm k)) :=
  lt4 (P := fun k => namesV[k]? = some (.string (nm k))) hk rfl rfl rfl rfl
/-- The numbers of the groups, by process. -/
def aV (a : Int → Nat) : Array Value := ((List.range 10).map fun (i : Nat) => Value.int .i64 (a i)).toArray
theorem aV_at (a : Int → Nat) {q : Nat} (hq : q < 10) : (aV a)[q]? = some (.int .i64 (a q)) := by simp [aV, hq]
theorem aV_set (a : Int → Nat) {q : Nat} (k : Nat) : (aV a).setIfInBounds q (.int .i64 k) = aV (updA a q k) := by
  apply Array.ext_getElem?
  intro i
  rw [Array.getElem?_setIfInBounds]
  by_cases hi : i < 10
  · rw [aV_at _ hi]
    by_cases h : q = i
    · subst h
      have hs : (aV a).size = 10 := by simp [aV]
      rw [aV_at _ hi]
      simp [updA, hs, hi]
    · have h' : ¬ (i : Int) = (q : Int) := by omega
      rw [if_neg h, aV_at _ hi]
      simp [updA, h']
  · have e1 : (aV a)[i]? = none := by simp [aV]; omega
    have e2 : (aV (updA a q k))[i]? = none := by simp [aV]; omega
    rw [e1, e2]
    have hs : (aV a).size = 10 := by simp [aV]
    split
    · rename_i h; rw [hs, if_neg (by omega)]
    · rfl
/-- What stands between two steps of the row. -/
structure OneAt (w : World) (S : Nat → Prop) (p nb ob : Nat) (a : Int → Nat) (L : Nat → List Int) (of : List (Int × ByteArray)) (notes : List ByteArray) (W : World) : Prop where
  g : GroupsAt S W p (gOf L) of notes
  s : ∀ j, S j → w.heap.size ≤ j ∧ j ≠ nb ∧ j ≠ ob ∧ j < W.heap.size
  o : One a L of notes
  hn : W.heap[nb]? = some (.cells namesV 24)
  ho : W.heap[ob]? = some (.cells (aV a) 29)
  b : Below w.heap.size w W
  ln : w.heap.size ≤ nb
  lo : w.heap.size ≤ ob
section
variable {w W W' : World} {S S' : Nat → Prop} {p nb ob : Nat} {a : Int → Nat} {L L' : Nat → List Int} {of of' : List (Int × ByteArray)} {notes notes' : List ByteArray}
theorem OneAt.name (h : OneAt w S p nb ob a L of notes W) {k : Nat} (hk : k < 4) : W.cell? ⟨nb, k, none⟩ = some (.string (nm k)) := by rw [hp_cell h.hn]; exact namesV_at hk
theorem OneAt.num (h : OneAt w S p nb ob a L of notes W) {q : Nat} (hq : q < 10) : W.cell? ⟨ob, q, none⟩ = some (.int .i64 (a q)) := by rw [hp_cell h.ho]; exact aV_at a hq
theorem OneAt.keep {T : Nat → Prop} (h : OneAt w S p nb ob a L of notes W) (hu : Upd T W W') (hT : ∀ j, S j ∨ j = nb ∨ j = ob → ¬ T j) (hT2 : ∀ j, j < w.heap.size → ¬ T j) : OneAt w S p nb ob a L of notes W' :=
  ⟨h.g.keep hu fun k hk => hT k (.inl hk), fun j hj => ⟨(h.s j hj).1, (h.s j hj).2.1, (h.s j hj).2.2.1, by have := (h.s j hj).2.2.2; have := hu.size; omega⟩, h.o, hu.at h.hn (hT nb (.inr (.inl rfl))), hu.at h.ho (hT ob (.inr (.inr rfl))), h.b.trans (hu.below h.b.size hT2), h.ln, h.lo⟩
theorem OneAt.below (h : OneAt w S p nb ob a L of notes W) (hb : Below W.heap.size W W') : OneAt w S p nb ob a L of notes W' :=
  h.keep (Upd.of_below_all hb fun _ => False) (fun _ _ => id) (fun _ _ => id)
theorem OneAt.drewN (h : OneAt w S p nb ob a L of notes W) (n : Nat) : OneAt w S p nb ob a L of notes (W.drewN n) := h.below (below_drewN _ _ _)
/-- A call of the groups behind which the numbers still stand as they stood. -/
theorem OneAt.heapcall (h : OneAt w S p nb ob a L of notes W) (hg : GroupsAt S' W' p (gOf L') of' notes') (ho : Own S W S' W') :
    ∃ S'', GroupsAt S'' W' p (gOf L') of' notes' ∧ (∀ j, S'' j → w.heap.size ≤ j ∧ j ≠ nb ∧ j ≠ ob ∧ j < W'.heap.size) ∧ W'.heap[nb]? = some (.cells namesV 24) ∧ W'.heap[ob]? = some (.cells (aV a) 29) ∧ Below w.heap.size w W' := by
  have l1 := hp_lt h.hn
  have l2 := hp_lt h.ho
  have hb := h.b.size
  refine ⟨_, hg.tight, fun j hj => ?_, ho.upd.at h.hn fun hs => (h.s _ hs).2.1 rfl, ho.upd.at h.ho fun hs => (h.s _ hs).2.2.1 rfl, h.b.trans (ho.upd.below hb fun k hk hs => by have := (h.s k hs).1; omega)⟩
  rcases ho.new j hj.1 with h1 | h1
  · exact ⟨(h.s j h1).1, (h.s j h1).2.1, (h.s j h1).2.2.1, hj.2⟩
  · exact ⟨by omega, by omega, by omega, hj.2⟩
theorem OneAt.put (h : OneAt w S p nb ob a L of notes W) (hg : GroupsAt S' W' p (gOf L') of' notes') (ho : Own S W S' W') {q : Nat} {k : Nat} (h1 : One (updA a q k) L' of' notes') :
    ∃ S'', OneAt w S'' p nb ob (updA a q k) L' of' notes' (W'.setCell ⟨ob, q, none⟩ (.int .i64 k)) := by
  obtain ⟨S'', g1, g2, g3, g4, g5⟩ := h.heapcall hg ho
  have hne : nb ≠ ob := fun e => by rw [e, g4] at g3; cases g3
  have hu := upd_setCell W' ob q (.int .i64 k)
  refine ⟨S'', g1.keep hu fun j hj e => (g2 j hj).2.2.1 e, fun j hj => ?_, h1, hu.at g3 hne, ?_, g5.trans (hu.below g5.size fun j hj e => by have := h.lo; omega), h.ln, h.lo⟩
  · obtain ⟨q1, q2, q3, q4⟩ := g2 j hj
    exact ⟨q1, q2, q3, by simpa using q4⟩
  · rw [← aV_set]; exact hp_setCell_same g4 q _
end
def preG (k : Nat) : List (ByteArray × List Int) := (gOf fun _ => []).take k
theorem make_step {k : Nat} (hk : k < 4) : makeE (preG k) (nm k) = 0 ∧ makeG (preG k) (nm k) = preG (k + 1) :=
  lt4 (P := fun k => makeE (preG k) (nm k) = 0 ∧ makeG (preG k) (nm k) = preG (k + 1)) hk
    (by constructor <;> simp [makeE, makeG, preG, gOf, kget, nm, Lib.toList_data])
    (by constructor <;> simp [makeE, makeG, preG, gOf, kget, nm, Lib.toList_data])
    (by constructor <;> simp [makeE, makeG, preG, gOf, kget, nm, Lib.toList_data])
    (by constructor <;> simp [makeE, makeG, preG, gOf, kget, nm, Lib.toList_data])
theorem nm_size (k : Nat) : (nm k).size = 1 := by unfold nm; split <;> rfl
def MkRel (w : World) (p nb : Nat) (vi : Value) (W : World) : Prop :=
  ∃ (k : Nat) (S : Nat → Prop), vi = .int .i64 k ∧ k ≤ 4 ∧ GroupsAt S W p (preG k) [] [] ∧ (∀ j, S j → w.heap.size ≤ j ∧ j ≠ nb ∧ j < W.heap.size) ∧ W.heap[nb]? = some (.cells namesV 24) ∧ Below w.heap.size w W

def KRel (w : World) (S : Nat → Prop) (p nb ob : Nat) (a : Int → Nat) (L : Nat → List Int) (of : List (Int × ByteArray)) (notes : List ByteArray) (vk : Value) (W : World) : Prop :=
  ∃ k : Nat, vk = .int .i64 k ∧ k ≤ 4 ∧ OneAt w S p nb ob a L of notes W
def WRel (w : World) (S : Nat → Prop) (p nb ob : Nat) (a : Int → Nat) (L : Nat → List Int) (of : List (Int × ByteArray)) (notes : List ByteArray) (B k : Nat) (vw vq : Value) (W : World) : Prop :=
  ∃ q : Nat, vq = .int .i64 q ∧ 2 ≤ q ∧ q ≤ 10 ∧ RowAt 3 1 encI B vw (wantTo a k (q - 2)) W ∧ OneAt w S p nb ob a L of notes W ∧ B ≤ W.heap.size
theorem one_push {w W W' : World} {S : Nat → Prop} {p nb ob B : Nat} {a : Int → Nat} {L : Nat → List Int} {of : List (Int × ByteArray)} {notes : List ByteArray} {v : Value} {l : List Int} {ob' : Obj} (h : OneAt w S p nb ob a L of notes W) (hS : ∀ j, S j ∨ j = nb ∨ j = ob → j < B) (hwB : w.heap.size ≤ B) (hr : RowAt 3 1 encI B v l (W.alloc ob')) (hu : Upd (rowBlock v) (W.alloc ob') W') :
    OneAt w S p nb ob a L of notes W' :=
  h.keep ((upd_alloc (rowBlock v) W ob').trans hu) (fun j hj => hr.not_below (hS j hj)) (fun j hj => hr.not_below (by omega))
theorem wantTo_len (a : Int → Nat) (k m : Nat) : (wantTo a k m).length ≤ m := by
  unfold wantTo
  exact Nat.le_trans (List.length_filter_le _ _) (by simp)
theorem One.len {a : Int → Nat} {L : Nat → List Int} {of : List (Int × ByteArray)} {notes : List ByteArray} (h : One a L of notes) {k : Nat} (hk : k < 4) : (L k).length ≤ 8 := by
  have := congrArg List.length (h.members hk (List.Perm.refl _))
  rw [risingI_length] at this
  rw [this]; exact wantTo_len _ _ _
theorem emptied_none (G : List (ByteArray × List Int)) (l : List ByteArray) (h : (emptiedL G l).1 = none) : (emptiedL G l).2 = [] := by
  induction l with
  | nil => rfl
  | cons x l ih =>
    unfold emptiedL at h ⊢
    split
    · rename_i hx; rw [if_pos hx] at h; cases h
    · rename_i hx; rw [if_neg hx] at h; exact ih h
theorem OneAt.emptied {w W W' : World} {S S' : Nat → Prop} {p nb ob : Nat} {a : Int → Nat} {L : Nat → List Int} {of : List (Int × ByteArray)} {notes : List ByteArray} (h : OneAt w S p nb ob a L of notes W)
    (hg : GroupsAt S' W' p (gOf L) of (emptiedL (gOf L) notes).2) (ho : Own S W S' W') : ∃ S'', OneAt w S'' p nb ob a L of (emptiedL (gOf L) notes).2 W' := by
  obtain ⟨S'', g1, g2, g3, g4, g5⟩ := h.heapcall hg ho
  exact ⟨S'', g1, g2, h.o.emptied, g3, g4, g5, h.ln, h.lo⟩
def ERel (w : World) (p nb ob : Nat) (a : Int → Nat) (L : Nat → List Int) (of : List (Int × ByteArray)) (vi : Value) (W : World) : Prop :=
  ∃ (j : Nat) (S : Nat → Prop) (notes : List ByteArray), vi = .int .i64 j ∧ j ≤ 5 ∧ OneAt w S p nb ob a L of notes W ∧ (j ≤ 4 → j + notes.length ≤ 4)
def LRel (w : World) (p nb ob len : Nat) (vi : Value) (W : World) : Prop :=
  ∃ (k : Nat) (S : Nat → Prop) (a : Int → Nat) (L : Nat → List Int) (of : List (Int × ByteArray)) (notes : List ByteArray), vi = .int .i64 k ∧ k ≤ len ∧ OneAt w S p nb ob a L of notes W
def CRel (w : World) (p nb ob : Nat) (W : World) : Prop :=
  ∃ (S : Nat → Prop) (a : Int → Nat) (L : Nat → List Int) (of : List (Int × ByteArray)) (notes : List ByteArray), OneAt w S p nb ob a L of notes W
theorem one_first {w W : World} {S : Nat → Prop} {p nb : Nat} (hg : GroupsAt S W p (gOf fun _ => []) [] []) (hS : ∀ j, S j → w.heap.size ≤ j ∧ j ≠ nb ∧ j < W.heap.size) (hn : W.heap[nb]? = some (.cells namesV 24)) (hb : Below w.heap.size w W) (ln : w.heap.size ≤ nb) (len : Nat) {o : Obj} (ho : o = .cells (aV fun _ => 0) 29) :
    LRel w p nb W.heap.size len (.int .i64 0) (W.alloc o) := by
  subst ho
  have hsz := hb.size
  refine ⟨0, S, fun _ => 0, fun _ => [], [], [], rfl, Nat.zero_le _, hg.keep (upd_alloc (fun _ => False) W _) (fun _ _ => id), fun j hj => ?_, one_start, hp_alloc_old _ hn, hp_alloc_new _ _, hb.alloc hsz _, ln, hsz⟩
  obtain ⟨h1, h2, h3⟩ := hS j hj
  exact ⟨h1, h2, by omega, by simp; omega⟩
set_option maxHeartbeats 4000000 in
set_option maxRecDepth 4000 in
theorem one_walk (o : Option Addr) (len cap : Nat) (zs : List Int) (w : World) (hz : BytesIn w o len zs) (hl : len ≤ maxLen) :
    Calls Try.prog 3 #[.slice o len cap] w fun e w' => e = .returned (.bool true) ∧ Below w.heap.size w w' := by
  have hl' : len ≤ 9223372036854775807 := by simpa [maxLen] using hl
  go_enter Try.func3, Try.ntmps3
  go_wp2_with (go_at_call 9; refine (known9_calls w).mono ?_; rintro e w1 ⟨rfl, hb1⟩)
  · go_ret
    exact ⟨rfl, hb1⟩
  · refine (gnew_calls _).mono ?_
    rintro e w2 ⟨rfl, k1, hb2⟩
    have hn2 : w2.heap[w1.heap.size]? = some (.cells namesV 24) := (hb2.block _ (by simp)).trans (hp_alloc_new _ _)
    have hbw : Below w.heap.size w w2 := (hb1.alloc hb1.size _).trans (hb2.mono (by have := hb1.size; simp; omega))
    have k2 := k1.tight
    have hs2 : ∀ j, ((w1.alloc (.cells #[.string ⟨#[97]⟩, .string ⟨#[98]⟩, .string ⟨#[99]⟩, .string ⟨#[100]⟩] 24)).heap.size ≤ j ∧ j < w2.heap.size) → w.heap.size ≤ j ∧ j ≠ w1.heap.size ∧ j < w2.heap.size := by
      rintro j ⟨h1, h2⟩
      have := hb1.size
      simp at h1
      omega
    obtain ⟨p, hp⟩ : ∃ p, (w1.alloc (.cells #[.string ⟨#[97]⟩, .string ⟨#[98]⟩, .string ⟨#[99]⟩, .string ⟨#[100]⟩] 24)).heap.size + 2 = p := ⟨_, rfl⟩
    obtain ⟨nb, hnb⟩ : ∃ nb, w1.heap.size = nb := ⟨_, rfl⟩
    have lnb : w.heap.size ≤ nb := by rw [← hnb]; exact hb1.size
    rw [hp] at k2 ⊢
    rw [hnb] at hn2 hs2 ⊢
    have h0 : MkRel w p nb (.int .i64 0) w2 := ⟨0, _, rfl, by omega, k2, hs2, hn2, hbw⟩
    clear k1 k2 hs2 hn2 hbw hp hnb hb1 hb2
    go_wp2
    go_loopw [5] (fun vi W => MkRel w p nb vi W) (fun vi _ => 4 - (intOf vi).toNat)
    case atStart => exact h0
    case round =>
      obtain ⟨k, S, rfl, hk4, hg, hS, hn, hb⟩ := hrel
      clear h0
      by_cases hk : k < 4
      · have hki : (k : Int) < 4 := by omega
        have c1 : wr.cell? ⟨nb, k, none⟩ = some (.string (nm k)) := by rw [hp_cell hn]; exact namesV_at hk
        have C := Lib.hid (make_calls (nm k) (by rw [nm_size]; omega) hg)
        have E := Lib.hid (make_step hk)
        go_wp2_with (go_at_call 11; refine C.out.mono ?_; rintro e w3 ⟨rfl, S3, k3, o3⟩; rw [E.out.1]; rw [E.out.2] at k3)
        go_roundw
        case rel =>
          have hw := hb.size
          have hnl := hp_lt hn
          refine ⟨k + 1, _, by go_num, by omega, k3.tight, fun j hj => ?_, o3.upd.at hn fun hs => (hS _ hs).2.1 rfl, hb.trans (o3.upd.below hw fun j hj hs => by have := (hS j hs).1; omega)⟩
          rcases o3.new j hj.1 with h1 | h1
          · exact ⟨(hS j h1).1, (hS j h1).2.1, hj.2⟩
          · exact ⟨by omega, by omega, hj.2⟩
        case measure => simp only [intOf]; omega
      · have hg0 : GroupsAt S wr p (gOf fun _ => []) [] [] := by
          obtain rfl : k = 4 := by omega
          exact hg
        have hki : ¬ (k : Int) < 4 := by omega
        clear hg hk4
        go_wp2
        have h0 := one_first hg0 hS hn hb lnb len (o := .cells #[Value.int IntKind.i64 0, Value.int IntKind.i64 0, Value.int IntKind.i64 0, Value.int IntKind.i64 0, Value.int IntKind.i64 0, Value.int IntKind.i64 0, Value.int IntKind.i64 0, Value.int IntKind.i64 0, Value.int IntKind.i64 0, Value.int IntKind.i64 0] 29) rfl
        obtain ⟨ob, hob⟩ : ∃ ob, wr.heap.size = ob := ⟨_, rfl⟩
        rw [hob] at h0 ⊢
        clear hg0 hS hn hb hob
        go_loopw [7] (fun vi W => LRel w p nb ob len vi W) (fun vi _ => len - (intOf vi).toNat)
        case atStart => exact h0
        case round =>
          obtain ⟨k, S, a, L, of, notes, rfl, hkl, hA⟩ := hrel
          clear h0
          by_cases hk : k < len
          · have hki : (k : Int) < (len : Int) := by omega
            obtain ⟨a0, rfl, hab, hcell, hz0, hz1⟩ := hz k hk
            obtain ⟨z, hzz⟩ : ∃ z : Nat, zs.getD k 0 = z := ⟨(zs.getD k 0).toNat, by omega⟩
            rw [hzz] at hcell hz1
            have hz255 : z ≤ 255 := by omega
            have hc1 : wr.cell? (a0.add k) = some (.int .u8 z) := by
              rw [World.cell?_of_block (w := w) (hA.b.block _ (by rw [add_block]; exact hab))]; exact hcell
            clear hcell hz0 hz1 hzz
            go_wp2_with fail
            go_quiet (fail)
            obtain ⟨P, hP, hP2, hP10⟩ : ∃ P : Nat, (z : Int) % 8 + 2 = P ∧ 2 ≤ P ∧ P < 10 := ⟨z % 8 + 2, by omega, by omega, by omega⟩
            obtain ⟨N, hN, hN4⟩ : ∃ N : Nat, (z : Int) / 8 % 4 = N ∧ N < 4 := ⟨z / 8 % 4, by omega, by omega⟩
            rw [hP, hN]
            clear hP hN
            have hA := hA.drewN nq
            have hc1 : (wr.drewN nq).cell? (a0.add k) = some (.int .u8 z) := hc1
            obtain ⟨W3, hW3⟩ : ∃ W3, wr.drewN nq = W3 := ⟨_, rfl⟩
            rw [hW3] at hA hc1 ⊢
            clear hW3
            go_upto_if 59 with fail
            go_cut [] from 33 to 106 (fun wx => CRel w p nb ob wx)
            case first =>
              have hPi : (P : Int) < 10 := by omega
              have hP0 : (0 : Int) ≤ (P : Int) := by omega
              have hNi : (N : Int) < 4 := by omega
              have hN0 : (0 : Int) ≤ (N : Int) := by omega
              have HQ : Hid (-9223372036854775808 ≤ (P : Int) ∧ (P : Int) ≤ 9223372036854775807) := Lib.hid (by omega)
              have HNL : Hid (notes.length ≤ 1000000) := Lib.hid (by have := hA.o.notes_len; omega)
              have cof := hA.num (q := P) (by omega)
              have cnm := hA.name (k := N) (by omega)
              have HA := Lib.hid hA
              by_cases hz32 : (z : Int) / 32 % 4 = 0
              · have hz33 : ((z : Int) / 32 % 4 == 0) = true := by simp [hz32]
                go_upto_region 18 with fail
                obtain ⟨L', hG, hO', hE⟩ := hA.o.gone P
                have C : Hid (∀ W, OneAt w S p nb ob a L of notes W → Calls Try.prog 12 #[.pointer (some ⟨p, 0, none⟩), .int .i64 P] W (GPost S W p (.bool (decide (0 < a P))) (gOf L') (kdel of P) (goneN (gOf L) of notes P))) := Lib.hid fun W hW => by
                  have := gone_calls P HQ.out HNL.out hA.o.hin hW.g
                  rwa [hG, hE] at this
                have HO := Lib.hid hO'
                clear hG hE hO' hA
                by_cases ha0 : 0 < a P
                · have e1 : decide (0 < a P) = true := by simpa using ha0
                  have hi : (0 : Int) < (a P : Int) := by omega
                  have hi2 : decide ((0 : Int) < (a P : Int)) = true := by simpa using hi
                  rw [e1] at C
                  go_region_law (go_simp; go_at_call 12; refine (C.out _ ?_).mono ?_; exact HA.out.below ⟨rfl, rfl, rfl, Nat.le_refl _, fun _ _ => rfl⟩; rintro e w4 ⟨rfl, S4, g4, o4⟩; have c4 : w4.cell? ⟨ob, P, none⟩ = some (.int .i64 (a P)) := (by obtain ⟨_, _, _, _, ho4, _⟩ := (HA.out.below (W' := W3.drew) ⟨rfl, rfl, rfl, Nat.le_refl _, fun _ _ => rfl⟩).heapcall g4 o4; rw [hp_cell ho4]; exact aV_at a (by omega)))
                  all_goals
                    obtain ⟨S5, hx⟩ := (HA.out.below (W' := W3.drew) ⟨rfl, rfl, rfl, Nat.le_refl _, fun _ _ => rfl⟩).put (q := P) (k := 0) g4 o4 HO.out
                    obtain ⟨_, _, _, hn4, ho4, _⟩ := (HA.out.below (W' := W3.drew) ⟨rfl, rfl, rfl, Nat.le_refl _, fun _ _ => rfl⟩).heapcall g4 o4
                    have f4 := hp_frozen ho4 P
                    have HX := Lib.hid hx
                    clear hx hn4 ho4 g4 o4 HO C
                    go_wp2
                    go_meet
                    exact ⟨S5, _, _, _, _, HX.out⟩
                · have e1 : decide (0 < a P) = false := by simpa using ha0
                  have hi : ¬ (0 : Int) < (a P : Int) := by omega
                  have hi2 : decide ((0 : Int) < (a P : Int)) = false := by simpa using hi
                  rw [e1] at C
                  clear ha0 e1
                  go_region_law (go_simp; go_at_call 12; refine (C.out _ ?_).mono ?_; exact HA.out.below ⟨rfl, rfl, rfl, Nat.le_refl _, fun _ _ => rfl⟩; rintro e w4 ⟨rfl, S4, g4, o4⟩; have c4 : w4.cell? ⟨ob, P, none⟩ = some (.int .i64 (a P)) := (by obtain ⟨_, _, _, _, ho4, _⟩ := (HA.out.below (W' := W3.drew) ⟨rfl, rfl, rfl, Nat.le_refl _, fun _ _ => rfl⟩).heapcall g4 o4; rw [hp_cell ho4]; exact aV_at a (by omega)))
                  all_goals
                    obtain ⟨S5, hx⟩ := (HA.out.below (W' := W3.drew) ⟨rfl, rfl, rfl, Nat.le_refl _, fun _ _ => rfl⟩).put (q := P) (k := 0) g4 o4 HO.out
                    obtain ⟨_, _, _, hn4, ho4, _⟩ := (HA.out.below (W' := W3.drew) ⟨rfl, rfl, rfl, Nat.le_refl _, fun _ _ => rfl⟩).heapcall g4 o4
                    have f4 := hp_frozen ho4 P
                    have HX := Lib.hid hx
                    clear hx hn4 ho4 g4 o4 HO C
                    go_wp2
                    go_meet
                    exact ⟨S5, _, _, _, _, HX.out⟩
              · have hz33 : ((z : Int) / 32 % 4 == 0) = false := by simp [hz32]
                obtain ⟨hE, L', hG, hO'⟩ := hA.o.put (p := (P : Int)) (by omega) (by omega) hN4
                have C : Hid (Calls Try.prog 13 #[.pointer (some ⟨p, 0, none⟩), .int .i64 P, .string (nm N)] W3 (GPost S W3 p (.int .i64 0) (gOf L') (putO (gOf L) of P (nm N)) (putN (gOf L) of notes P (nm N)))) := Lib.hid (by
                  have := put_calls P HQ.out (nm N) (by rw [nm_size]; omega) HNL.out hA.o.hin hA.g
                  rwa [hG, hE] at this)
                have HO := Lib.hid hO'
                clear hG hE hO' hA
                go_upto_region 21 with fail
                clear hz32 hz33 hc1 hz255 cof hPi hP0
                have CC := C.out
                clear C
                iterate 40 (first | go_step | skip)
                refine CC.mono ?_
                rintro e w4 ⟨rfl, S4, g4, o4⟩
                obtain ⟨S5, hx⟩ := HA.out.put g4 o4 HO.out
                obtain ⟨_, _, _, hn4, ho4, _⟩ := HA.out.heapcall g4 o4
                have f4 := hp_frozen ho4 P
                have c4 : w4.cell? ⟨ob, P, none⟩ = some (.int .i64 (a P)) := (by rw [hp_cell ho4]; exact aV_at a (by omega))
                have HX := Lib.hid hx
                clear hx hn4 ho4 g4 o4 HO
                go_wp2
                go_meet
                exact ⟨S5, _, _, _, _, HX.out⟩
            case rest =>
              obtain ⟨S, a, L, of, notes, hA⟩ := hcut
              go_wp2
              go_loopw [10] (fun vk W => KRel w S p nb ob a L of notes vk W) (fun vk _ => 4 - (intOf vk).toNat)
              case atStart => exact ⟨0, rfl, by omega, hA⟩
              case round =>
                obtain ⟨k', rfl, hk4', hB⟩ := hrel
                by_cases hk' : k' < 4
                · have hki' : (k' : Int) < 4 := by omega
                  have hki0 : (0 : Int) ≤ (k' : Int) := by omega
                  go_wp2
                  obtain ⟨B, hBs⟩ : ∃ B, wr.heap.size = B := ⟨_, rfl⟩
                  have hSB : ∀ j, S j ∨ j = nb ∨ j = ob → j < B := by
                    rw [← hBs]
                    rintro j (h | rfl | rfl)
                    · exact (hB.s j h).2.2.2
                    · exact hp_lt hB.hn
                    · exact hp_lt hB.ho
                  have hwB : w.heap.size ≤ B := by rw [← hBs]; exact hB.b.size
                  have hw0 : WRel w S p nb ob a L of notes B k' (.slice none 0 0) (.int .i64 2) wr := ⟨2, rfl, by omega, by omega, rowAt_nil _ _ _ _ _, hB, Nat.le_of_eq hBs.symm⟩
                  have HSB := Lib.hid hSB
                  clear hSB hBs hB
                  go_loopw [11, 12] (fun vw vq W => WRel w S p nb ob a L of notes B k' vw vq W) (fun _ vq _ => 10 - (intOf vq).toNat)
                  case atStart => exact hw0
                  case round =>
                    obtain ⟨q, rfl, hq2, hq10, hrow, hC, hBle⟩ := hrel
                    clear hw0
                    obtain ⟨bb, nn, cc, rfl⟩ := hrow.isSlice
                    by_cases hq : q < 10
                    · have hqi : (q : Int) < 10 := by omega
                      have hqi0 : (0 : Int) ≤ (q : Int) := by omega
                      have c1 := hC.num hq
                      have hws := wantTo_succ a k' (q - 2)
                      rw [show (((q - 2 : Nat) : Int) + 2) = (q : Int) by omega] at hws
                      have hq3 : q + 1 - 2 = q - 2 + 1 := by omega
                      by_cases he : a q = k' + 1
                      · have he1 : ((a q : Int) == (k' : Int) + 1) = true := by simp; omega
                        have he2 : (a q : Int) = (k' : Int) + 1 := by omega
                        rw [if_pos he] at hws
                        have HWS := Lib.hid hws
                        have HC := Lib.hid hC
                        have hl1 := wantTo_len a k' (q - 2)
                        have hra := hrow.alloc (.cells #[.int .i64 q] 3)
                        have hsrc := src_one wr E32 (q : Int) #[.int .i64 q] 3 rfl
                        have HL1 := Lib.hid hl1
                        clear hws hC hrow hl1
                        go_wp2_with (at_builtin; refine wpList_apR E32 B _ (wantTo a k' (q - 2)) hra [(q : Int)] (.slice (some ⟨wr.heap.size, 0, none⟩) 1 1) hsrc rfl rfl ?_ ?_ ?_ ?_; have := HL1.out; simp only [List.length_cons, List.length_nil, maxLen]; omega; have := HL1.out; simp only [List.length_cons, List.length_nil]; omega; simp; omega; intro v' w4 hr4 hu4 hn4; obtain ⟨b4, n4, c4, rfl⟩ := hr4.isSlice)
                        go_roundw
                        case rel => exact ⟨q + 1, by go_num, by omega, by omega, by rw [hq3, HWS.out]; exact hr4, one_push HC.out HSB.out hwB hra hu4, by have := hu4.size; simp at this; omega⟩
                        case measure => simp only [intOf]; omega
                      · have he1 : ((a q : Int) == (k' : Int) + 1) = false := by simp; omega
                        have he2 : ¬ (a q : Int) = (k' : Int) + 1 := by omega
                        rw [if_neg he] at hws
                        have HWS := Lib.hid hws
                        have HC := Lib.hid hC
                        clear hws hC
                        go_wp2
                        go_roundw
                        case rel => exact ⟨q + 1, by go_num, by omega, by omega, by rw [hq3, HWS.out]; exact hrow, HC.out, hBle⟩
                        case measure => simp only [intOf]; omega
                    · obtain rfl : q = 10 := by omega
                      have c1 := hC.name hk'
                      have C := Lib.hid (members_calls (nm k') (by rw [nm_size]; omega) (by rw [gOf_get L hk', Option.getD_some]; have := hC.o.len hk'; omega) hC.g)
                      rw [gOf_get L hk', Option.getD_some] at C
                      have HC := Lib.hid hC
                      have HR := Lib.hid hrow
                      clear hC hrow
                      go_wp2_with (first
                        | (go_at_call 15; refine C.out.mono ?_; rintro e w3 ⟨v3, ys, rfl, ⟨xs, hp1, hp2⟩, h3, h4⟩; obtain ⟨b3, n3, c3, rfl⟩ := h3.isSlice; have hI := ints_calls w3 h3 (HR.out.below h4); rw [show decide (ys = wantTo a k' (10 - 2)) = true by rw [hp2, HC.out.o.members hk' hp1]; simp] at hI; have HI := Lib.hid hI; clear hI)
                        | (go_at_call 14; refine HI.out.mono ?_; rintro e w4 ⟨rfl, hb4⟩))
                      go_roundw
                      case rel => exact ⟨k' + 1, by go_num, by omega, (HC.out.below h4).below hb4⟩
                      case measure => simp only [intOf]; omega
                · go_wp2
                  go_roundw
                  case rel => exact ⟨k + 1, _, _, _, _, _, by go_num, by omega, hB⟩
                  case measure => simp only [intOf]; omega
          · go_wp2
            have he0 : ERel w p nb ob a L of (.int .i64 0) wr := ⟨0, S, notes, rfl, by omega, hA, fun _ => by have := hA.o.notes_len; omega⟩
            clear hA
            go_loopw [13] (fun vi W => ERel w p nb ob a L of vi W) (fun vi _ => 5 - (intOf vi).toNat)
            case atStart => exact he0
            case round =>
              obtain ⟨j, S, notes, rfl, hj5, hA, hjn⟩ := hrel
              clear he0
              by_cases hj : j < 5
              · have hji : (j : Int) < 5 := by omega
                have hsp := emptied_spec (gOf L) notes
                have C := Lib.hid (emptied_calls (fun n hn => by obtain ⟨i, _, rfl⟩ := hA.o.nin n hn; rw [nm_size]; omega) hA.g)
                have HA := Lib.hid hA
                have HE := Lib.hid (fun (S' : Nat → Prop) (W' : World) (h1 : GroupsAt S' W' p (gOf L) of (emptiedL (gOf L) notes).2) (h2 : Own S wr S' W') => hA.emptied h1 h2)
                have hjn2 := hjn (by omega)
                have hnin := hA.o.nin
                obtain ⟨r1, r2, hr⟩ : ∃ r1 r2, emptiedL (gOf L) notes = (r1, r2) := ⟨_, _, rfl⟩
                rw [hr] at hsp C HE
                clear hA hjn
                cases r1 with
                | none =>
                  have hr2 : j + 1 ≤ 4 → j + 1 + r2.length ≤ 4 := by
                    have := emptied_none (gOf L) notes (by rw [hr])
                    rw [hr] at this
                    simp only at this
                    subst this
                    simp
                  have HR2 := Lib.hid hr2
                  clear hsp hr2 hnin hjn2 hr
                  go_wp2_with (go_at_call 16; refine C.out.mono ?_; rintro e w4 ⟨rfl, S4, g4, o4⟩)
                  all_goals (
                    obtain ⟨S5, h5⟩ := HE.out _ _ g4 o4
                    go_roundw
                    case rel => exact ⟨j + 1, S5, r2, by go_num, by omega, h5, HR2.out⟩
                    case measure => simp only [intOf]; omega)
                | some n =>
                  obtain ⟨hs1, hs2, hs3⟩ := hsp.2 n rfl
                  have hj4 : ¬ (j : Int) = 4 := by omega
                  have hj4' : ((j : Int) == 4) = false := by simp; omega
                  have hr2 : j + 1 + r2.length ≤ 4 := by simp only at hs3; omega
                  have HR2 := Lib.hid hr2
                  obtain ⟨i, _, hni⟩ := hnin n hs2
                  have hn1 : n.size = 1 := by rw [hni]; exact nm_size _
                  have M := Lib.hid (fun (S' : Nat → Prop) (W' : World) (h1 : GroupsAt S' W' p (gOf L) of r2) => members_calls n (by rw [hn1]; omega) (by rw [hs1]; simp) h1)
                  rw [hs1] at M
                  clear hsp hr2 hnin hjn2 hs1 hs2 hs3 hni hn1 hr
                  iterate 40 (first | go_step | skip)
                  refine C.out.mono ?_
                  rintro e w4 ⟨rfl, S4, g4, o4⟩
                  have MM := M.out _ _ g4
                  clear M C
                  go_wp2_with (go_at_call 15; refine MM.mono ?_; rintro e w5 ⟨v5, ys, rfl, ⟨xs, hp1, hp2⟩, h3, h4⟩; have hys : ys = [] := (by rw [hp2, hp1.eq_nil]; simp [risingI]); clear hp1 hp2; subst hys; obtain ⟨⟨ad, cp, rfl⟩, _⟩ := row_lens h3)
                  obtain ⟨S5, h5⟩ := HE.out _ _ g4 o4
                  go_roundw
                  case rel => exact ⟨j + 1, S5, r2, by go_num, by omega, h5.below h4, fun _ => HR2.out⟩
                  case measure => simp only [intOf]; omega
              · go_wp2
                go_ret
                exact ⟨rfl, hA.b⟩
end Go.Proofs.Ytjbpghdgmpinpaa
