/- slices.Values. Printed by wip/gen/genKc.py. -/
import Derived.Test.YtjbpghdgmpinpaaKb
namespace Go.Proofs.Ytjbpghdgmpinpaa
open Go.RowKit Go.Rv

theorem abid_row {α : Type} {e : TypeId} {sz : Nat} {enc : α → List Value} {B0 B1 : Nat} {v : Value} {l : List α} : Abid (fun _ => False) B0 (RowAt e sz enc B1 v l) := by
  intro A B h ht
  refine h.same fun k hk => ?_
  obtain ⟨cur, hc⟩ := h.obj hk
  rw [ht.at hc (fun h => h) rfl, hc]


def ValRel123 (g off cap B1 : Nat) (xs : List Int) (J : List Int → World → Prop) (vi : Value) (wr : World) : Prop :=
  ∃ i : Nat, vi = .int .i64 i ∧ i ≤ xs.length ∧ J (xs.take i) wr ∧ RowAt 3 1 encI B1 (.slice (some ⟨g, off, none⟩) xs.length cap) xs wr
theorem values123 (Bx B1 : Nat) (v : Value) (xs : List Int) (w0 : World) (hbox : w0.heap[Bx]? = some (.cells #[v] 32)) (hr : RowAt 3 1 encI B1 v xs w0) :
    IterC Try.prog 123 #[.pointer (some ⟨Bx, 0, none⟩)] (fun z : Int => #[(Value.int .i64 z)]) (fun ks => ks = xs) (fun b => b = Bx ∨ rowBlock v b) (fun _ => False) w0 := by
  intro fv J Jx W hsz hO hJ hJx hY h0
  have hB := hO Bx _ (.inl rfl) hbox
  have hrW : RowAt 3 1 encI B1 v xs W := hr.same fun k hk => by
    obtain ⟨cur, hc⟩ := hr.obj hk
    rw [hO k _ (.inr hk) hc, hc]
  have hc : W.cell? ⟨Bx, 0, none⟩ = some v := by rw [hp_cell hB]; rfl
  refine free_wide.calls_of (n := 0) ?_
  refine callsIn_of_wp Try.func123 rfl trivial ?_ rfl
  simp only [Try.ntmps123, List.size_toArray, List.length_cons, List.length_nil, Nat.reduceAdd, Nat.reduceSub, Array.replicate_succ, Array.replicate_zero, List.push_toArray, List.append_toArray, List.nil_append, List.cons_append]
  have HY := Lib.hid hY
  clear hY hO hbox hB
  rcases hrW.shape with ⟨rfl, rfl⟩ | ⟨g, off, cap, rfl, q1, q2, q3, q4⟩
  · clear hr HY hJ hJx
    gi_wp2
    gi_loopw [4, 7] (fun _ vi wr => vi = .int .i64 0 ∧ wr = W) (fun _ _ _ => 0)
    case atStart => exact ⟨rfl, rfl⟩
    case round =>
      obtain ⟨rfl, rfl⟩ := hrel
      gi_wp2
      go_end0
      exact iterPost_all [] rfl h0
  · have hmax : xs.length ≤ 9223372036854775807 := by simp only [maxLen] at q4; omega
    clear hr hJ hJx
    have H0 := Lib.hid h0
    clear h0
    gi_wp2
    gi_loopw [4, 7] (fun _ vi wr => ValRel123 g off cap B1 xs J vi wr) (fun _ vi _ => xs.length - (intOf vi).toNat)
    case atStart => exact ⟨0, rfl, by omega, H0.out, hrW⟩
    case round =>
      obtain ⟨i, rfl, hi, hj, hrr⟩ := hrel
      by_cases hlt : i < xs.length
      · have hcell : wr.cell? ⟨g, off + i, none⟩ = some ((Value.int .i64 xs[i])) := by
          have := hrr.cell (enc := encI) (fun _ => rfl) (i := i) (j := 0) (List.getElem?_eq_getElem hlt) (u := (Value.int .i64 xs[i])) rfl
          rwa [Nat.mul_one, Nat.add_zero] at this
        have hy := HY.out (xs.take i) xs[i] wr hj ⟨xs.drop (i + 1), by rw [List.getElem_cons_drop, List.take_append_drop]⟩
        obtain ⟨x, hx⟩ : ∃ x, x = xs[i] := ⟨_, rfl⟩
        rw [← hx] at hcell hy
        have HX := Lib.hid hx
        have hlt' : (i : Int) < xs.length := by omega
        clear hx
        gi_wp2_with (with_reducible refine wpListIn_fn free_wide ?_ ?_ hy (fun e w3 hr => ?_)
                     rfl
                     rfl
                     rcases hr with ⟨rfl, hj3, hf3⟩ | ⟨rfl, hx3⟩
                     refine ⟨_, rfl, ?_⟩
                     rotate_left
                     refine ⟨_, rfl, ?_⟩)
        · refine bodyPost_ret (results_none rfl _ _ _) rfl ?_
          exact iterPost_stop (xs.take i) x (xs.drop (i + 1)) (by rw [HX.out, List.getElem_cons_drop, List.take_append_drop]) hx3
        · refine ⟨⟨i + 1, by go_num, by omega, ?_, ?_⟩, ?_⟩
          · rw [List.take_succ_eq_append_getElem hlt, ← HX.out]; exact hj3
          · refine hrr.same fun k hk => ?_
            obtain ⟨cur, hcu⟩ := hrr.obj hk
            rw [hf3.own k _ (.inr hk) hcu, hcu]
          · simp only [intOf]; omega
      · have hlt' : ¬ ((i : Int) < xs.length) := by omega
        gi_wp2
        go_end0
        have : xs.take i = xs := List.take_of_length_le (by omega)
        rw [this] at hj
        exact iterPost_all xs rfl hj
theorem values93_calls (v : Value) (hv : ∃ b n c, v = .slice b n c) (w : World) : Calls Try.prog 93 #[v] w fun e w' => e = .returned (.func (.func 123) #[] #[.pointer (some ⟨w.heap.size, 0, none⟩)]) ∧ w' = w.alloc (.cells #[v] 32) := by
  obtain ⟨b, n, c, rfl⟩ := hv
  go_enter Try.func93, Try.ntmps93
  go_wp2
  go_ret
  exact ⟨rfl, rfl⟩

def ValRel130 (g off cap B1 : Nat) (xs : List ByteArray) (J : List ByteArray → World → Prop) (vi : Value) (wr : World) : Prop :=
  ∃ i : Nat, vi = .int .i64 i ∧ i ≤ xs.length ∧ J (xs.take i) wr ∧ RowAt 9 1 encS B1 (.slice (some ⟨g, off, none⟩) xs.length cap) xs wr
theorem values130 (Bx B1 : Nat) (v : Value) (xs : List ByteArray) (w0 : World) (hbox : w0.heap[Bx]? = some (.cells #[v] 90)) (hr : RowAt 9 1 encS B1 v xs w0) :
    IterC Try.prog 130 #[.pointer (some ⟨Bx, 0, none⟩)] (fun z : ByteArray => #[(Value.string z)]) (fun ks => ks = xs) (fun b => b = Bx ∨ rowBlock v b) (fun _ => False) w0 := by
  intro fv J Jx W hsz hO hJ hJx hY h0
  have hB := hO Bx _ (.inl rfl) hbox
  have hrW : RowAt 9 1 encS B1 v xs W := hr.same fun k hk => by
    obtain ⟨cur, hc⟩ := hr.obj hk
    rw [hO k _ (.inr hk) hc, hc]
  have hc : W.cell? ⟨Bx, 0, none⟩ = some v := by rw [hp_cell hB]; rfl
  refine free_wide.calls_of (n := 0) ?_
  refine callsIn_of_wp Try.func130 rfl trivial ?_ rfl
  simp only [Try.ntmps130, List.size_toArray, List.length_cons, List.length_nil, Nat.reduceAdd, Nat.reduceSub, Array.replicate_succ, Array.replicate_zero, List.push_toArray, List.append_toArray, List.nil_append, List.cons_append]
  have HY := Lib.hid hY
  clear hY hO hbox hB
  rcases hrW.shape with ⟨rfl, rfl⟩ | ⟨g, off, cap, rfl, q1, q2, q3, q4⟩
  · clear hr HY hJ hJx
    gi_wp2
    gi_loopw [4, 7] (fun _ vi wr => vi = .int .i64 0 ∧ wr = W) (fun _ _ _ => 0)
    case atStart => exact ⟨rfl, rfl⟩
    case round =>
      obtain ⟨rfl, rfl⟩ := hrel
      gi_wp2
      go_end0
      exact iterPost_all [] rfl h0
  · have hmax : xs.length ≤ 9223372036854775807 := by simp only [maxLen] at q4; omega
    clear hr hJ hJx
    have H0 := Lib.hid h0
    clear h0
    gi_wp2
    gi_loopw [4, 7] (fun _ vi wr => ValRel130 g off cap B1 xs J vi wr) (fun _ vi _ => xs.length - (intOf vi).toNat)
    case atStart => exact ⟨0, rfl, by omega, H0.out, hrW⟩
    case round =>
      obtain ⟨i, rfl, hi, hj, hrr⟩ := hrel
      by_cases hlt : i < xs.length
      · have hcell : wr.cell? ⟨g, off + i, none⟩ = some ((Value.string xs[i])) := by
          have := hrr.cell (enc := encS) (fun _ => rfl) (i := i) (j := 0) (List.getElem?_eq_getElem hlt) (u := (Value.string xs[i])) rfl
          rwa [Nat.mul_one, Nat.add_zero] at this
        have hy := HY.out (xs.take i) xs[i] wr hj ⟨xs.drop (i + 1), by rw [List.getElem_cons_drop, List.take_append_drop]⟩
        obtain ⟨x, hx⟩ : ∃ x, x = xs[i] := ⟨_, rfl⟩
        rw [← hx] at hcell hy
        have HX := Lib.hid hx
        have hlt' : (i : Int) < xs.length := by omega
        clear hx
        gi_wp2_with (with_reducible refine wpListIn_fn free_wide ?_ ?_ hy (fun e w3 hr => ?_)
                     rfl
                     rfl
                     rcases hr with ⟨rfl, hj3, hf3⟩ | ⟨rfl, hx3⟩
                     refine ⟨_, rfl, ?_⟩
                     rotate_left
                     refine ⟨_, rfl, ?_⟩)
        · refine bodyPost_ret (results_none rfl _ _ _) rfl ?_
          exact iterPost_stop (xs.take i) x (xs.drop (i + 1)) (by rw [HX.out, List.getElem_cons_drop, List.take_append_drop]) hx3
        · refine ⟨⟨i + 1, by go_num, by omega, ?_, ?_⟩, ?_⟩
          · rw [List.take_succ_eq_append_getElem hlt, ← HX.out]; exact hj3
          · refine hrr.same fun k hk => ?_
            obtain ⟨cur, hcu⟩ := hrr.obj hk
            rw [hf3.own k _ (.inr hk) hcu, hcu]
          · simp only [intOf]; omega
      · have hlt' : ¬ ((i : Int) < xs.length) := by omega
        gi_wp2
        go_end0
        have : xs.take i = xs := List.take_of_length_le (by omega)
        rw [this] at hj
        exact iterPost_all xs rfl hj
theorem values104_calls (v : Value) (hv : ∃ b n c, v = .slice b n c) (w : World) : Calls Try.prog 104 #[v] w fun e w' => e = .returned (.func (.func 130) #[] #[.pointer (some ⟨w.heap.size, 0, none⟩)]) ∧ w' = w.alloc (.cells #[v] 90) := by
  obtain ⟨b, n, c, rfl⟩ := hv
  go_enter Try.func104, Try.ntmps104
  go_wp2
  go_ret
  exact ⟨rfl, rfl⟩
end Go.Proofs.Ytjbpghdgmpinpaa
