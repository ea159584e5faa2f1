/- Contracts of package name: OfPath. -/
import Derived.Test.YtgppdndpnflkeaaDoorNi
import Derived.Test.YtgppdndpnflkeaaDoorM
import Derived.WalkSpells
import Derived.WalkLawsBesides
namespace Go.Proofs.YtgppdndpnflkeaaDoor
open Go.RowKit Go.Rv

def SplitRel (Bsep Bs Bv : Nat) (c : UInt8) (all : List ByteArray) (J : List ByteArray → World → Prop) (B0 : Nat) (wr : World) : Prop :=
  ∃ (pre : List ByteArray) (r : ByteArray), wr.heap[Bsep]? = some (.cells #[.string ⟨#[c]⟩] 9) ∧ wr.heap[Bs]? = some (.cells #[.string r] 9) ∧ wr.heap[Bv]? = some (.cells #[.int .i64 0] 3) ∧
    J pre wr ∧ pre ++ splitS c r = all ∧ r.size < 4611686018427387904 ∧ B0 ≤ wr.heap.size
def splitLeft (Bs : Nat) (w : World) : Nat := match w.cell? ⟨Bs, 0, none⟩ with | some (.string r) => r.size | _ => 0

set_option maxHeartbeats 400000 in
theorem split63 (Bsep Bs Bv : Nat) (c : UInt8) (s : ByteArray) (hs : s.size < 4611686018427387904) (w0 : World) (h1 : w0.heap[Bsep]? = some (.cells #[.string ⟨#[c]⟩] 9)) (h2 : w0.heap[Bs]? = some (.cells #[.string s] 9)) (h3 : w0.heap[Bv]? = some (.cells #[.int .i64 0] 3)) (hne1 : Bsep ≠ Bs) (hne2 : Bv ≠ Bs) :
    IterC Tryd.prog 63 #[.pointer (some ⟨Bsep, 0, none⟩), .pointer (some ⟨Bs, 0, none⟩), .pointer (some ⟨Bv, 0, none⟩)] (fun s : ByteArray => #[.string s]) (fun l => l = splitS c s) (fun b => b = Bsep ∨ b = Bs ∨ b = Bv) (fun b => b = Bs) w0 := by
  intro fv J Jx W hsz hO hJ hJx hY h0
  have g1 := hO Bsep _ (.inl rfl) h1
  have g2 := hO Bs _ (.inr (.inl rfl)) h2
  have g3 := hO Bv _ (.inr (.inr rfl)) h3
  clear hO h1 h2 h3
  have HY := Lib.hid hY
  have HJ := Lib.hid hJ
  have HJx := Lib.hid hJx
  clear hY hJ hJx
  have c1 : W.cell? ⟨Bsep, 0, none⟩ = some (.string ⟨#[c]⟩) := by rw [hp_cell g1]; rfl
  refine free_wide.calls_of (n := 0) ?_
  refine callsIn_of_wp Tryd.func63 rfl trivial ?_ rfl
  simp only [Tryd.ntmps63, List.size_toArray, List.length_cons, List.length_nil, Nat.reduceAdd, Nat.reduceSub, Array.replicate_succ, Array.replicate_zero, List.push_toArray, List.append_toArray, List.nil_append, List.cons_append]
  gi_wp2
  gi_loopw [8] (fun _ wr => SplitRel Bsep Bs Bv c (splitS c s) J W.heap.size wr) (fun _ wr => splitLeft Bs wr)
  case atStart => exact ⟨[], s, g1, g2, g3, h0, rfl, hs, Nat.le_refl _⟩
  case round =>
    obtain ⟨pre, r, k1, k2, k3, hj, hall, hr, hle⟩ := hrel
    have d1 : wr.cell? ⟨Bsep, 0, none⟩ = some (.string ⟨#[c]⟩) := by rw [hp_cell k1]; rfl
    have d2 : wr.cell? ⟨Bs, 0, none⟩ = some (.string r) := by rw [hp_cell k2]; rfl
    have d3 : wr.cell? ⟨Bv, 0, none⟩ = some (.int .i64 0) := by rw [hp_cell k3]; rfl
    have HALL := Lib.hid hall
    clear hall g1 g2 g3 c1
    by_cases hi : Lib.indexByte r.data.toList c < 0
    · have hsp := splitS_none hi
      rw [hsp] at HALL
      gi_wp2_with (first
        | (gi_at_call 65; refine (callsIn_wide.2 (Tryd.strings_Index_one _ _ _)).mono ?_; rintro e w' ⟨rfl, rfl⟩)
        | (with_reducible refine wpListIn_fn free_wide ?_ ?_ (HY.out pre r w' hj ⟨[], HALL.out⟩) (fun e w3 hr => ?_)
           rfl
           rfl
           rcases hr with ⟨rfl, hj3, hf3⟩ | ⟨rfl, hx3⟩
           refine ⟨_, rfl, ?_⟩
           rotate_left
           refine ⟨_, rfl, ?_⟩))
      · go_end0
        exact iterPost_stop pre r [] HALL.out hx3
      · go_end0
        exact iterPost_all (pre ++ [r]) HALL.out hj3
    · obtain ⟨o, ho⟩ := Int.eq_ofNat_of_zero_le (Int.not_lt.1 hi)
      obtain ⟨hlt, hsp⟩ := splitS_some ho
      have HI := Lib.hid ho
      rw [hsp] at HALL
      clear hi ho hsp
      gi_wp2_with (first
        | (gi_at_call 65; refine (callsIn_wide.2 (Tryd.strings_Index_one _ _ _)).mono ?_; rintro e w' ⟨rfl, rfl⟩; rw [HI.out])
        | (with_reducible refine wpListIn_fn free_wide ?_ ?_ (HY.out pre (r.extract 0 o) w' hj ⟨_, HALL.out⟩) (fun e w3 hr => ?_)
           rfl
           rfl
           rcases hr with ⟨rfl, hj3, hf3⟩ | ⟨rfl, hx3⟩
           have m1 := hf3.own _ _ (.inl rfl) k1
           have m2 := hf3.own _ _ (.inr (.inl rfl)) k2
           have m3 := hf3.own _ _ (.inr (.inr rfl)) k3
           have e1 : w3.cell? ⟨Bsep, 0, none⟩ = some (.string ⟨#[c]⟩) := by rw [hp_cell m1]; rfl
           have e2 : w3.cell? ⟨Bs, 0, none⟩ = some (.string r) := by rw [hp_cell m2]; rfl
           have f2 : w3.frozen? ⟨Bs, 0, none⟩ = false := hp_frozen m2 0
           refine ⟨_, rfl, ?_⟩
           rotate_left
           refine ⟨_, rfl, ?_⟩))
      · refine bodyPost_ret (results_none rfl _ _ _) rfl ?_
        exact iterPost_stop pre _ _ HALL.out hx3
      · have hsz3 := hf3.size
        have n1 := (hp_setCell_other (p := ⟨Bs, 0, none⟩) (.string (r.extract (o + 1) r.size)) hne1).trans m1
        have n2 := hp_setCell_same m2 0 (.string (r.extract (o + 1) r.size))
        have n3 := (hp_setCell_other (p := ⟨Bs, 0, none⟩) (.string (r.extract (o + 1) r.size)) hne2).trans m3
        have hsz4 : (r.extract (o + 1) r.size).size = r.size - (o + 1) := by simp
        refine ⟨⟨pre ++ [r.extract 0 o], r.extract (o + 1) r.size, n1, n2, n3, HJ.out _ _ _ hj3 (Turns.of_setCell _ rfl), by rw [← HALL.out]; simp, by omega, by simp; omega⟩, ?_⟩
        unfold splitLeft
        rw [hp_cell n2, d2]
        simp only [Array.getElem?_setIfInBounds, List.size_toArray, List.length_cons, List.length_nil, Nat.zero_add, Nat.lt_one_iff, if_true]
        omega
theorem splitSeq_calls (s : ByteArray) (w : World) :
    Calls Tryd.prog 38 #[.string s, .string ⟨#[47]⟩] w fun e w' => e = .returned (.func (.func 63) #[] #[.pointer (some ⟨w.heap.size + 1, 0, none⟩), .pointer (some ⟨w.heap.size, 0, none⟩), .pointer (some ⟨w.heap.size + 2, 0, none⟩)]) ∧
      w' = ((w.alloc (.cells #[.string s] 9)).alloc (.cells #[.string ⟨#[47]⟩] 9)).alloc (.cells #[.int .i64 0] 3) := by
  go_enter Tryd.func38, Tryd.ntmps38
  go_wp2_with go_in
  go_ret
  exact ⟨rfl, rfl⟩
theorem splitB_length (c : UInt8) (l : List UInt8) : (splitB c l).length ≤ l.length + 1 := by
  induction l with
  | nil => simp [splitB]
  | cons x l ih =>
    unfold splitB
    split
    · simp; omega
    · split
      · simp
      · rename_i h; rw [h] at ih; simp at ih ⊢; omega
theorem splitS_length (c : UInt8) (s : ByteArray) : (splitS c s).length ≤ s.size + 1 := by
  unfold splitS; rw [List.length_map, Lib.size_eq]; exact splitB_length c _

end Go.Proofs.YtgppdndpnflkeaaDoor
