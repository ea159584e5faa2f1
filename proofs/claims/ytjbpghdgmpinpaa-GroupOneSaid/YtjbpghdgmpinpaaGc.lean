/- Contracts of the groups' functions (cgroup): Emptied; reveillehelp.Ints. -/
import Derived.Test.YtjbpghdgmpinpaaGb
namespace Go.Proofs.Ytjbpghdgmpinpaa
open Go.RowKit Go.Rv

def emptiedL (G : List (ByteArray × List Int)) : List ByteArray → Option ByteArray × List ByteArray
  | [] => (none, [])
  | n :: ns => if (kget G n).getD [] = [] then (some n, ns) else emptiedL G ns
section
variable {S : Nat → Prop} {w : World} {p : Nat} {of : List (Int × ByteArray)} {notes : List ByteArray} {G : List (ByteArray × List Int)}
theorem row_cons {v : Value} {a : ByteArray} {l : List ByteArray} {W : World} (h : RowAt 9 1 encS 0 v (a :: l) W) :
    ∃ g off cap bb, v = .slice (some ⟨g, off, none⟩) (l.length + 1) (cap + 1) ∧ l.length ≤ cap ∧ cap + 1 ≤ maxLen ∧ W.cell? ⟨g, off, none⟩ = some (.string a) ∧ RowAt 9 1 encS 0 (.slice bb l.length cap) l W ∧
      (∀ W, (Instr.sliceAt 90 (.slice (some ⟨g, off, none⟩) (l.length + 1) (cap + 1)) (some (.int .i64 1)) none none).run Try.prog W = .ok (.slice bb l.length cap) W) ∧ (∀ k, rowBlock (.slice bb l.length cap) k → k = g) := by
  have hcell := fun g off n cap (hv : v = .slice (some ⟨g, off, none⟩) n cap) => (by rw [hv] at h; exact h.cell (enc := encS) (fun _ => rfl) (i := 0) (j := 0) (a := a) (u := .string a) rfl rfl : W.cell? ⟨g, off + 0 * 1 + 0, none⟩ = some (.string a))
  have hsz : ∀ W, (sizeOf (Try.prog.elem 90)).run Try.prog W = .ok 1 W := fun _ => by kernel_rfl
  rcases h with ⟨_, h⟩ | ⟨g, off, cap, cur, hv, hB, hg, h1, h2, h3, h4⟩
  · cases h
  · have hc := hcell _ _ _ _ hv
    simp only [List.length_cons] at hv h1 h4
    obtain ⟨c, rfl⟩ : ∃ c, cap = c + 1 := ⟨cap - 1, by omega⟩
    have hrun : ∀ W, (Instr.sliceAt 90 (.slice (some ⟨g, off, none⟩) (l.length + 1) (c + 1)) (some (.int .i64 1)) none none).run Try.prog W = .ok (sliced (some ⟨g, off, none⟩) 1 (l.length + 1) (c + 1) 1) W := fun W => by
      have e90 : Try.prog.underlying 90 = some (.slice (Try.prog.elem 90)) := by kernel_rfl
      have e3 := run_slice_l (P := Try.prog) W 90 (some ⟨g, off, none⟩) (l.length + 1) (c + 1) e90 .i64 1 (by omega) (by omega)
      rw [run_sliceAt_slice W 90 _ _ _ _ e90, e3, hsz]
      rfl
    by_cases hc0 : c = 0
    · subst hc0
      have hl0 : l = [] := List.length_eq_zero_iff.1 (by omega)
      subst hl0
      refine ⟨g, off, 0, some ⟨g, off, none⟩, hv, by simp, h2, by simpa using hc, .inr ⟨g, off, 0, cur, rfl, Nat.zero_le _, hg, by simp, by simp [maxLen], by omega, by simp⟩, fun W => ?_, fun k hk => hk⟩
      rw [hrun]
      simp [sliced]
    · refine ⟨g, off, c, some ⟨g, off + 1, none⟩, hv, by omega, h2, by simpa using hc, .inr ⟨g, off + 1, c, cur, rfl, Nat.zero_le _, hg, by omega, by omega, by omega, ?_⟩, fun W => ?_, fun k hk => hk⟩
      · have h5 : (cur.toList.drop off).take (l.length + 1) = (.string a) :: l.flatMap encS := by simpa using h4
        cases hd : cur.toList.drop off with
        | nil => rw [hd] at h5; simp at h5
        | cons y ys =>
          rw [hd] at h5
          simp only [List.take_succ_cons, List.cons.injEq] at h5
          have : cur.toList.drop (off + 1) = ys := by rw [← List.drop_drop, hd]; rfl
          rw [this, Nat.mul_one]
          exact h5.2
      · rw [hrun]
        simp [sliced, hc0, Addr.add]
def EmRel (S : Nat → Prop) (w : World) (p b1 b2 : Nat) (gl : List (ByteArray × Nat × List Int)) (of : List (Int × ByteArray)) (r : Option ByteArray × List ByteArray) (g : Nat) (W : World) : Prop :=
  ∃ S' v' notes', GAt S' W p b1 b2 v' gl of notes' ∧ notes'.length = g ∧ emptiedL (absL gl) notes' = r ∧ Own S w S' W ∧ ∀ n ∈ notes', n.size ≤ 9223372036854775807
theorem emptied_calls (hkn : ∀ n ∈ notes, n.size ≤ 9223372036854775807) (h : GroupsAt S w p G of notes) :
    Calls Try.prog 16 #[.pointer (some ⟨p, 0, none⟩)] w (GPost S w p (.tuple #[.string ((emptiedL G notes).1.getD ⟨#[]⟩), .bool (emptiedL G notes).1.isSome]) G of (emptiedL G notes).2) := by
  obtain ⟨b1, b2, v, gl, rfl, h⟩ := h
  obtain ⟨r, hr⟩ : ∃ r, emptiedL (absL gl) notes = r := ⟨_, rfl⟩
  have h0 : EmRel S w p b1 b2 gl of r notes.length w := ⟨S, v, notes, h, rfl, hr, Own.refl _ _, hkn⟩
  rw [hr]
  clear h hr hkn
  go_enter Try.func16, Try.ntmps16
  go_wp2
  go_loopg [4] notes.length (fun g _ W => EmRel S w p b1 b2 gl of r g W)
  case atStart => exact h0
  case round =>
    obtain ⟨S', v', notes', k, hlen, hr, own, hkn⟩ := hrel
    have c2 := k.c2
    cases notes' with
    | nil =>
      obtain ⟨bb, cc, rfl⟩ : ∃ bb cc, v' = .slice bb 0 cc := by
        rcases k.row.shape with ⟨rfl, _⟩ | ⟨_, _, _, rfl, _⟩
        · exact ⟨_, _, rfl⟩
        · exact ⟨_, _, rfl⟩
      have hr1 : r = (none, []) := hr.symm
      subst hr1
      go_wp2
      go_ret2
      exact ⟨rfl, S', ⟨b1, b2, _, gl, rfl, k⟩, own⟩
    | cons n ns =>
      obtain ⟨g, off, cap, bb, rfl, q1, q2, hc, hrow, hsl, hsb⟩ := row_cons k.row
      obtain ⟨k2, u2⟩ := k.putNotes (Upd.refl (fun _ => False) wr) (fun _ h _ => h.elim) hrow (fun j hj => .inl (hsb j hj))
      have d0 := k2.c0
      have f2 := k.f2 2
      have hk := kok_string Try.underlying9 (hkn n (by simp))
      have hpos : (0 : Int) < (ns.length : Int) + 1 := by omega
      have hcap : ((cap : Int) + 1) ≤ 9223372036854775807 := by simp only [maxLen] at q2; omega
      obtain ⟨ob, ho⟩ : ∃ ob, (kget (grpL gl) n).getD none = ob := ⟨_, rfl⟩
      obtain ⟨l, hl⟩ : ∃ l, (kget (absL gl) n).getD [] = l := ⟨_, rfl⟩
      have hln : ∀ ty, (Builtin.len_ #[146] ty #[.map ob]).run Try.prog (wr.setCell ⟨p, 2, none⟩ (.slice bb ns.length cap)) = .ok (.int .i64 l.length) (wr.setCell ⟨p, 2, none⟩ (.slice bb ns.length cap)) := by
        intro ty
        rcases find_grp gl n with ⟨h1, h2⟩ | ⟨b, l', hm, h1, h2⟩ <;> rw [h1] at hl <;> rw [h2] at ho <;> subst hl <;> subst ho
        · simp [Builtin.len_, run_underlying Try.underlying146, Result.andThen, goInt]
        · have := (k2.sets _ hm).run_len (ty := ty) Try.underlying146
          rwa [setL_length] at this
      rcases hz : decide (l = []) with _ | _
      · have HZ := Lib.hid hz
        have hz' : ¬ (l.length : Int) = 0 := by simp at hz ⊢; exact hz
        have hz2 : ((l.length : Int) == 0) = false := beq_eq_false_iff_ne.2 hz'
        clear hz
        go_wp2_with (at_lookup; refine wpList_look1 _ rfl _ _ 141 rfl T141 b1 (grpL gl) rfl k2.groups _ rfl hk ?_; rw [ho])
        go_roundg ns.length
        case rel =>
          refine ⟨_, _, ns, k2, rfl, ?_, own.trans (Own.of_upd u2 fun _ h => h), fun m hm => hkn m (by simp [hm])⟩
          rw [← hr]
          have := HZ.out
          simp only [decide_eq_false_iff_not] at this
          show _ = if (kget (absL gl) n).getD [] = [] then _ else _
          rw [hl, if_neg this]
        case measure => simp at hlen; omega
      · have HZ := Lib.hid hz
        have hz' : (l.length : Int) = 0 := by simp at hz ⊢; exact hz
        clear hz
        rw [hz'] at hln
        go_wp2_with (at_lookup; refine wpList_look1 _ rfl _ _ 141 rfl T141 b1 (grpL gl) rfl k2.groups _ rfl hk ?_; rw [ho])
        go_ret2
        have hr1 : r = (some n, ns) := by
          rw [← hr]
          show (if (kget (absL gl) n).getD [] = [] then _ else _) = _
          rw [hl, if_pos (by simpa using HZ.out)]
        rw [hr1]
        exact ⟨rfl, _, ⟨b1, b2, _, gl, rfl, k2⟩, own.trans (Own.of_upd u2 fun _ h => h)⟩
end
end Go.Proofs.Ytjbpghdgmpinpaa
