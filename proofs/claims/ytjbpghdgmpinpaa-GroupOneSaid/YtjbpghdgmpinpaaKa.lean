/- The iterators of maps.Keys. Printed by wip/gen/genKa.py. -/
import Derived.Test.YtjbpghdgmpinpaaL
import Derived.Test.YtjbpghdgmpinpaaM
import Derived.Test.YtjbpghdgmpinpaaShelf
import Derived.StillTailTactics
import Derived.Deep.QuietTactic
import Derived.BigQuiet
namespace Go.Proofs.Ytjbpghdgmpinpaa
open Go.RowKit Go.Rv

def unitV : Unit → Value := fun _ => .agg #[]

theorem T146 : MapTy Try.prog 146 3 158 (Value.int .i64) unitV () :=
  ⟨Maps.int_keyed Try.underlying3, inj_int, Try.underlying146, fun _ => by kernel_rfl⟩
theorem T145 : MapTy Try.prog 145 3 158 (Value.int .i64) unitV () :=
  ⟨Maps.int_keyed Try.underlying3, inj_int, Try.underlying145, fun _ => by kernel_rfl⟩
theorem T164 : MapTy Try.prog 164 3 161 (Value.int .i64) Value.pointer none :=
  ⟨Maps.int_keyed Try.underlying3, inj_int, Try.underlying164, fun _ => by kernel_rfl⟩
theorem T151 : MapTy Try.prog 151 9 145 Value.string Value.map none :=
  ⟨Maps.string_keyed Try.underlying9, inj_string, Try.underlying151, fun _ => by kernel_rfl⟩
theorem T183 : MapTy Try.prog 183 9 188 Value.string Value.pointer none :=
  ⟨Maps.string_keyed Try.underlying9, inj_string, Try.underlying183, fun _ => by kernel_rfl⟩
theorem T141 : MapTy Try.prog 141 9 146 Value.string Value.map none :=
  ⟨Maps.string_keyed Try.underlying9, inj_string, Try.underlying141, fun _ => by kernel_rfl⟩
theorem T142 : MapTy Try.prog 142 3 9 (Value.int .i64) Value.string ByteArray.empty :=
  ⟨Maps.int_keyed Try.underlying3, inj_int, Try.underlying142, fun _ => by kernel_rfl⟩


def KeyRel137 (b1 r : Nat) (th : List (Int × Unit)) (J : List Int → World → Prop) (wr : World) : Prop :=
  ∃ vs rest : List (Int × Unit), MIter Try.prog 3 (Value.int .i64) unitV wr b1 r vs rest ∧ J (vs.map Prod.fst) wr ∧ (vs ++ rest).Perm th
set_option maxHeartbeats 400000 in
theorem iter137 (Bx b1 : Nat) (th : List (Int × Unit)) (w0 : World) (hbox : w0.heap[Bx]? = some (.cells #[.map (some b1)] 146)) (hat : MapAt Try.prog 3 (Value.int .i64) unitV w0 b1 th) :
    IterC Try.prog 137 #[.pointer (some ⟨Bx, 0, none⟩)] (fun s : Int => #[(Value.int .i64) s]) (fun ks => ks.Perm (th.map Prod.fst)) (fun b => b = Bx ∨ b = b1) (fun _ => False) w0 := by
  intro fv J Jx W hsz hO hJ hJx hY h0
  have hB := hO Bx _ (.inl rfl) hbox
  have hat1 : MapAt Try.prog 3 (Value.int .i64) unitV W b1 th := by
    obtain ⟨es, c, hb, r⟩ := hat
    exact ⟨es, c, hO b1 _ (.inr rfl) hb, r⟩
  have hc : W.cell? ⟨Bx, 0, none⟩ = some (.map (some b1)) := by rw [hp_cell hB]; rfl
  refine free_wide.calls_of (n := 0) ?_
  refine callsIn_of_wp Try.func137 rfl trivial ?_ rfl
  simp only [Try.ntmps137, List.size_toArray, List.length_cons, List.length_nil, Nat.reduceAdd, Nat.reduceSub, Array.replicate_succ, Array.replicate_zero, List.push_toArray, List.append_toArray, List.nil_append, List.cons_append]
  clear hO hbox
  have HY := Lib.hid hY
  have HJ := Lib.hid hJ
  have HJx := Lib.hid hJx
  clear hY hJ hJx
  gi_wp2_with (gi_at_range; refine wpListIn_range _ rfl _ 146 rfl T146 b1 th rfl hat1 ?_; rintro _ hit ⟨ob, rfl⟩)
  gi_loopw [3] (fun _ wr => KeyRel137 b1 W.heap.size th J wr)
    (fun _ wr => wr.rangeLeft b1 W.heap.size)
  case atStart => exact ⟨[], th, hit, HJ.out _ _ _ h0 (Turns.of_alloc _ _), List.Perm.refl _⟩
  case round =>
    obtain ⟨vs, rest, hit, hj, hp⟩ := hrel
    gi_wp2_with (first
      | (gi_at_next
         refine wpListIn_next _ rfl _ rfl 3 (Value.int .i64) unitV b1 W.heap.size vs rest rfl hit (fun hz => ?_) (fun k v rest' w2 hp2 hit2 hent hgr hsz2 => ?_)
         rotate_left
         have hj2 : J (vs.map Prod.fst) w2 := HJ.out _ _ _ hj ⟨_, hgr, fun r e => by cases e; exact .inr ⟨Nat.le_refl _, hit.iter⟩⟩
         have hpost : ∃ post, (vs.map Prod.fst ++ k :: post).Perm (th.map Prod.fst) := ⟨rest'.map Prod.fst, by have := (((hp2.append_left vs).symm.trans hp).map Prod.fst); simpa using this⟩
         have hent' := hent)
      | (with_reducible refine wpListIn_fn free_wide ?_ ?_ (HY.out (vs.map Prod.fst) k w2 hj2 hpost) (fun e w3 hr => ?_)
         rfl
         rfl
         rcases hr with ⟨rfl, hj3, hf3⟩ | ⟨rfl, hx3⟩
         refine ⟨_, rfl, ?_⟩
         rotate_left
         refine ⟨_, rfl, ?_⟩))
    · refine bodyPost_ret (results_none rfl _ _ _) rfl ?_
      obtain ⟨post, hpost⟩ := hpost
      exact iterPost_stop _ _ _ hpost hx3
    · have hit3 := hit2.fix hf3 (.inr rfl) (Nat.le_refl _)
      refine ⟨⟨vs ++ [(k, v)], rest', hit3, by simpa using hj3, ?_⟩, ?_⟩
      · rw [List.append_assoc]; exact (hp2.append_left vs).symm.trans hp
      · rw [hit3.left, hit.left, hp2.length_eq]; simp
    · go_end0
      subst hz
      exact iterPost_all _ (by have := hp.map Prod.fst; simpa using this) hj
theorem iterNil137 (Bx : Nat) (w0 : World) (hbox : w0.heap[Bx]? = some (.cells #[.map none] 146)) :
    IterC Try.prog 137 #[.pointer (some ⟨Bx, 0, none⟩)] (fun s : Int => #[(Value.int .i64) s]) (fun ks => ks.Perm []) (fun b => b = Bx) (fun _ => False) w0 := by
  intro fv J Jx W hsz hO hJ hJx hY h0
  have hB := hO Bx _ rfl hbox
  have hc : W.cell? ⟨Bx, 0, none⟩ = some (.map none) := by rw [hp_cell hB]; rfl
  have hj : J [] (W.alloc (.mapIter none 0 #[] 0)) := hJ _ _ _ h0 (Turns.of_alloc _ _)
  have hrg := run_range_nilMap (P := Try.prog) W 146 3 158 Try.underlying146
  have hnx : ∀ ty, (Instr.next (.pointer (some ⟨W.heap.size, 0, none⟩)) false ty).run Try.prog (W.alloc (.mapIter none 0 #[] 0)) = _ := fun ty => run_next_nilMap W ty 0 0 #[]
  refine free_wide.calls_of (n := 0) ?_
  refine callsIn_of_wp Try.func137 rfl trivial ?_ rfl
  simp only [Try.ntmps137, List.size_toArray, List.length_cons, List.length_nil, Nat.reduceAdd, Nat.reduceSub, Array.replicate_succ, Array.replicate_zero, List.push_toArray, List.append_toArray, List.nil_append, List.cons_append]
  clear hO hbox hJ hJx hY h0
  gi_wp2
  gi_loopw [3] (fun _ wr => wr = W.alloc (.mapIter none 0 #[] 0)) (fun _ _ => 0)
  case atStart => rfl
  case round =>
    subst hrel
    gi_wp2
    go_end0
    exact iterPost_all [] (List.Perm.refl _) hj
theorem keys137_calls (b1 : Option Nat) (w : World) : Calls Try.prog 122 #[.map b1] w fun e w' => e = .returned (.func (.func 137) #[] #[.pointer (some ⟨w.heap.size, 0, none⟩)]) ∧ w' = w.alloc (.cells #[.map b1] 146) := by
  go_enter Try.func122, Try.ntmps122
  go_wp2
  go_ret
  exact ⟨rfl, rfl⟩

def KeyRel125 (b1 r : Nat) (th : List (Int × Unit)) (J : List Int → World → Prop) (wr : World) : Prop :=
  ∃ vs rest : List (Int × Unit), MIter Try.prog 3 (Value.int .i64) unitV wr b1 r vs rest ∧ J (vs.map Prod.fst) wr ∧ (vs ++ rest).Perm th
set_option maxHeartbeats 400000 in
theorem iter125 (Bx b1 : Nat) (th : List (Int × Unit)) (w0 : World) (hbox : w0.heap[Bx]? = some (.cells #[.map (some b1)] 145)) (hat : MapAt Try.prog 3 (Value.int .i64) unitV w0 b1 th) :
    IterC Try.prog 125 #[.pointer (some ⟨Bx, 0, none⟩)] (fun s : Int => #[(Value.int .i64) s]) (fun ks => ks.Perm (th.map Prod.fst)) (fun b => b = Bx ∨ b = b1) (fun _ => False) w0 := by
  intro fv J Jx W hsz hO hJ hJx hY h0
  have hB := hO Bx _ (.inl rfl) hbox
  have hat1 : MapAt Try.prog 3 (Value.int .i64) unitV W b1 th := by
    obtain ⟨es, c, hb, r⟩ := hat
    exact ⟨es, c, hO b1 _ (.inr rfl) hb, r⟩
  have hc : W.cell? ⟨Bx, 0, none⟩ = some (.map (some b1)) := by rw [hp_cell hB]; rfl
  refine free_wide.calls_of (n := 0) ?_
  refine callsIn_of_wp Try.func125 rfl trivial ?_ rfl
  simp only [Try.ntmps125, List.size_toArray, List.length_cons, List.length_nil, Nat.reduceAdd, Nat.reduceSub, Array.replicate_succ, Array.replicate_zero, List.push_toArray, List.append_toArray, List.nil_append, List.cons_append]
  clear hO hbox
  have HY := Lib.hid hY
  have HJ := Lib.hid hJ
  have HJx := Lib.hid hJx
  clear hY hJ hJx
  gi_wp2_with (gi_at_range; refine wpListIn_range _ rfl _ 145 rfl T145 b1 th rfl hat1 ?_; rintro _ hit ⟨ob, rfl⟩)
  gi_loopw [3] (fun _ wr => KeyRel125 b1 W.heap.size th J wr)
    (fun _ wr => wr.rangeLeft b1 W.heap.size)
  case atStart => exact ⟨[], th, hit, HJ.out _ _ _ h0 (Turns.of_alloc _ _), List.Perm.refl _⟩
  case round =>
    obtain ⟨vs, rest, hit, hj, hp⟩ := hrel
    gi_wp2_with (first
      | (gi_at_next
         refine wpListIn_next _ rfl _ rfl 3 (Value.int .i64) unitV b1 W.heap.size vs rest rfl hit (fun hz => ?_) (fun k v rest' w2 hp2 hit2 hent hgr hsz2 => ?_)
         rotate_left
         have hj2 : J (vs.map Prod.fst) w2 := HJ.out _ _ _ hj ⟨_, hgr, fun r e => by cases e; exact .inr ⟨Nat.le_refl _, hit.iter⟩⟩
         have hpost : ∃ post, (vs.map Prod.fst ++ k :: post).Perm (th.map Prod.fst) := ⟨rest'.map Prod.fst, by have := (((hp2.append_left vs).symm.trans hp).map Prod.fst); simpa using this⟩
         have hent' := hent)
      | (with_reducible refine wpListIn_fn free_wide ?_ ?_ (HY.out (vs.map Prod.fst) k w2 hj2 hpost) (fun e w3 hr => ?_)
         rfl
         rfl
         rcases hr with ⟨rfl, hj3, hf3⟩ | ⟨rfl, hx3⟩
         refine ⟨_, rfl, ?_⟩
         rotate_left
         refine ⟨_, rfl, ?_⟩))
    · refine bodyPost_ret (results_none rfl _ _ _) rfl ?_
      obtain ⟨post, hpost⟩ := hpost
      exact iterPost_stop _ _ _ hpost hx3
    · have hit3 := hit2.fix hf3 (.inr rfl) (Nat.le_refl _)
      refine ⟨⟨vs ++ [(k, v)], rest', hit3, by simpa using hj3, ?_⟩, ?_⟩
      · rw [List.append_assoc]; exact (hp2.append_left vs).symm.trans hp
      · rw [hit3.left, hit.left, hp2.length_eq]; simp
    · go_end0
      subst hz
      exact iterPost_all _ (by have := hp.map Prod.fst; simpa using this) hj
theorem iterNil125 (Bx : Nat) (w0 : World) (hbox : w0.heap[Bx]? = some (.cells #[.map none] 145)) :
    IterC Try.prog 125 #[.pointer (some ⟨Bx, 0, none⟩)] (fun s : Int => #[(Value.int .i64) s]) (fun ks => ks.Perm []) (fun b => b = Bx) (fun _ => False) w0 := by
  intro fv J Jx W hsz hO hJ hJx hY h0
  have hB := hO Bx _ rfl hbox
  have hc : W.cell? ⟨Bx, 0, none⟩ = some (.map none) := by rw [hp_cell hB]; rfl
  have hj : J [] (W.alloc (.mapIter none 0 #[] 0)) := hJ _ _ _ h0 (Turns.of_alloc _ _)
  have hrg := run_range_nilMap (P := Try.prog) W 145 3 158 Try.underlying145
  have hnx : ∀ ty, (Instr.next (.pointer (some ⟨W.heap.size, 0, none⟩)) false ty).run Try.prog (W.alloc (.mapIter none 0 #[] 0)) = _ := fun ty => run_next_nilMap W ty 0 0 #[]
  refine free_wide.calls_of (n := 0) ?_
  refine callsIn_of_wp Try.func125 rfl trivial ?_ rfl
  simp only [Try.ntmps125, List.size_toArray, List.length_cons, List.length_nil, Nat.reduceAdd, Nat.reduceSub, Array.replicate_succ, Array.replicate_zero, List.push_toArray, List.append_toArray, List.nil_append, List.cons_append]
  clear hO hbox hJ hJx hY h0
  gi_wp2
  gi_loopw [3] (fun _ wr => wr = W.alloc (.mapIter none 0 #[] 0)) (fun _ _ => 0)
  case atStart => rfl
  case round =>
    subst hrel
    gi_wp2
    go_end0
    exact iterPost_all [] (List.Perm.refl _) hj
theorem keys125_calls (b1 : Option Nat) (w : World) : Calls Try.prog 95 #[.map b1] w fun e w' => e = .returned (.func (.func 125) #[] #[.pointer (some ⟨w.heap.size, 0, none⟩)]) ∧ w' = w.alloc (.cells #[.map b1] 145) := by
  go_enter Try.func95, Try.ntmps95
  go_wp2
  go_ret
  exact ⟨rfl, rfl⟩

def KeyRel140 (b1 r : Nat) (th : List (Int × (Option Addr))) (J : List Int → World → Prop) (wr : World) : Prop :=
  ∃ vs rest : List (Int × (Option Addr)), MIter Try.prog 3 (Value.int .i64) Value.pointer wr b1 r vs rest ∧ J (vs.map Prod.fst) wr ∧ (vs ++ rest).Perm th
set_option maxHeartbeats 400000 in
theorem iter140 (Bx b1 : Nat) (th : List (Int × (Option Addr))) (w0 : World) (hbox : w0.heap[Bx]? = some (.cells #[.map (some b1)] 164)) (hat : MapAt Try.prog 3 (Value.int .i64) Value.pointer w0 b1 th) :
    IterC Try.prog 140 #[.pointer (some ⟨Bx, 0, none⟩)] (fun s : Int => #[(Value.int .i64) s]) (fun ks => ks.Perm (th.map Prod.fst)) (fun b => b = Bx ∨ b = b1) (fun _ => False) w0 := by
  intro fv J Jx W hsz hO hJ hJx hY h0
  have hB := hO Bx _ (.inl rfl) hbox
  have hat1 : MapAt Try.prog 3 (Value.int .i64) Value.pointer W b1 th := by
    obtain ⟨es, c, hb, r⟩ := hat
    exact ⟨es, c, hO b1 _ (.inr rfl) hb, r⟩
  have hc : W.cell? ⟨Bx, 0, none⟩ = some (.map (some b1)) := by rw [hp_cell hB]; rfl
  refine free_wide.calls_of (n := 0) ?_
  refine callsIn_of_wp Try.func140 rfl trivial ?_ rfl
  simp only [Try.ntmps140, List.size_toArray, List.length_cons, List.length_nil, Nat.reduceAdd, Nat.reduceSub, Array.replicate_succ, Array.replicate_zero, List.push_toArray, List.append_toArray, List.nil_append, List.cons_append]
  clear hO hbox
  have HY := Lib.hid hY
  have HJ := Lib.hid hJ
  have HJx := Lib.hid hJx
  clear hY hJ hJx
  gi_wp2_with (gi_at_range; refine wpListIn_range _ rfl _ 164 rfl T164 b1 th rfl hat1 ?_; rintro _ hit ⟨ob, rfl⟩)
  gi_loopw [3] (fun _ wr => KeyRel140 b1 W.heap.size th J wr)
    (fun _ wr => wr.rangeLeft b1 W.heap.size)
  case atStart => exact ⟨[], th, hit, HJ.out _ _ _ h0 (Turns.of_alloc _ _), List.Perm.refl _⟩
  case round =>
    obtain ⟨vs, rest, hit, hj, hp⟩ := hrel
    gi_wp2_with (first
      | (gi_at_next
         refine wpListIn_next _ rfl _ rfl 3 (Value.int .i64) Value.pointer b1 W.heap.size vs rest rfl hit (fun hz => ?_) (fun k v rest' w2 hp2 hit2 hent hgr hsz2 => ?_)
         rotate_left
         have hj2 : J (vs.map Prod.fst) w2 := HJ.out _ _ _ hj ⟨_, hgr, fun r e => by cases e; exact .inr ⟨Nat.le_refl _, hit.iter⟩⟩
         have hpost : ∃ post, (vs.map Prod.fst ++ k :: post).Perm (th.map Prod.fst) := ⟨rest'.map Prod.fst, by have := (((hp2.append_left vs).symm.trans hp).map Prod.fst); simpa using this⟩
         have hent' := hent)
      | (with_reducible refine wpListIn_fn free_wide ?_ ?_ (HY.out (vs.map Prod.fst) k w2 hj2 hpost) (fun e w3 hr => ?_)
         rfl
         rfl
         rcases hr with ⟨rfl, hj3, hf3⟩ | ⟨rfl, hx3⟩
         refine ⟨_, rfl, ?_⟩
         rotate_left
         refine ⟨_, rfl, ?_⟩))
    · refine bodyPost_ret (results_none rfl _ _ _) rfl ?_
      obtain ⟨post, hpost⟩ := hpost
      exact iterPost_stop _ _ _ hpost hx3
    · have hit3 := hit2.fix hf3 (.inr rfl) (Nat.le_refl _)
      refine ⟨⟨vs ++ [(k, v)], rest', hit3, by simpa using hj3, ?_⟩, ?_⟩
      · rw [List.append_assoc]; exact (hp2.append_left vs).symm.trans hp
      · rw [hit3.left, hit.left, hp2.length_eq]; simp
    · go_end0
      subst hz
      exact iterPost_all _ (by have := hp.map Prod.fst; simpa using this) hj
theorem iterNil140 (Bx : Nat) (w0 : World) (hbox : w0.heap[Bx]? = some (.cells #[.map none] 164)) :
    IterC Try.prog 140 #[.pointer (some ⟨Bx, 0, none⟩)] (fun s : Int => #[(Value.int .i64) s]) (fun ks => ks.Perm []) (fun b => b = Bx) (fun _ => False) w0 := by
  intro fv J Jx W hsz hO hJ hJx hY h0
  have hB := hO Bx _ rfl hbox
  have hc : W.cell? ⟨Bx, 0, none⟩ = some (.map none) := by rw [hp_cell hB]; rfl
  have hj : J [] (W.alloc (.mapIter none 0 #[] 0)) := hJ _ _ _ h0 (Turns.of_alloc _ _)
  have hrg := run_range_nilMap (P := Try.prog) W 164 3 161 Try.underlying164
  have hnx : ∀ ty, (Instr.next (.pointer (some ⟨W.heap.size, 0, none⟩)) false ty).run Try.prog (W.alloc (.mapIter none 0 #[] 0)) = _ := fun ty => run_next_nilMap W ty 0 0 #[]
  refine free_wide.calls_of (n := 0) ?_
  refine callsIn_of_wp Try.func140 rfl trivial ?_ rfl
  simp only [Try.ntmps140, List.size_toArray, List.length_cons, List.length_nil, Nat.reduceAdd, Nat.reduceSub, Array.replicate_succ, Array.replicate_zero, List.push_toArray, List.append_toArray, List.nil_append, List.cons_append]
  clear hO hbox hJ hJx hY h0
  gi_wp2
  gi_loopw [3] (fun _ wr => wr = W.alloc (.mapIter none 0 #[] 0)) (fun _ _ => 0)
  case atStart => rfl
  case round =>
    subst hrel
    gi_wp2
    go_end0
    exact iterPost_all [] (List.Perm.refl _) hj
theorem keys140_calls (b1 : Option Nat) (w : World) : Calls Try.prog 129 #[.map b1] w fun e w' => e = .returned (.func (.func 140) #[] #[.pointer (some ⟨w.heap.size, 0, none⟩)]) ∧ w' = w.alloc (.cells #[.map b1] 164) := by
  go_enter Try.func129, Try.ntmps129
  go_wp2
  go_ret
  exact ⟨rfl, rfl⟩

def KeyRel133 (b1 r : Nat) (th : List (ByteArray × (Option Nat))) (J : List ByteArray → World → Prop) (wr : World) : Prop :=
  ∃ vs rest : List (ByteArray × (Option Nat)), MIter Try.prog 9 Value.string Value.map wr b1 r vs rest ∧ J (vs.map Prod.fst) wr ∧ (vs ++ rest).Perm th
set_option maxHeartbeats 400000 in
theorem iter133 (Bx b1 : Nat) (th : List (ByteArray × (Option Nat))) (w0 : World) (hbox : w0.heap[Bx]? = some (.cells #[.map (some b1)] 151)) (hat : MapAt Try.prog 9 Value.string Value.map w0 b1 th) :
    IterC Try.prog 133 #[.pointer (some ⟨Bx, 0, none⟩)] (fun s : ByteArray => #[Value.string s]) (fun ks => ks.Perm (th.map Prod.fst)) (fun b => b = Bx ∨ b = b1) (fun _ => False) w0 := by
  intro fv J Jx W hsz hO hJ hJx hY h0
  have hB := hO Bx _ (.inl rfl) hbox
  have hat1 : MapAt Try.prog 9 Value.string Value.map W b1 th := by
    obtain ⟨es, c, hb, r⟩ := hat
    exact ⟨es, c, hO b1 _ (.inr rfl) hb, r⟩
  have hc : W.cell? ⟨Bx, 0, none⟩ = some (.map (some b1)) := by rw [hp_cell hB]; rfl
  refine free_wide.calls_of (n := 0) ?_
  refine callsIn_of_wp Try.func133 rfl trivial ?_ rfl
  simp only [Try.ntmps133, List.size_toArray, List.length_cons, List.length_nil, Nat.reduceAdd, Nat.reduceSub, Array.replicate_succ, Array.replicate_zero, List.push_toArray, List.append_toArray, List.nil_append, List.cons_append]
  clear hO hbox
  have HY := Lib.hid hY
  have HJ := Lib.hid hJ
  have HJx := Lib.hid hJx
  clear hY hJ hJx
  gi_wp2_with (gi_at_range; refine wpListIn_range _ rfl _ 151 rfl T151 b1 th rfl hat1 ?_; rintro _ hit ⟨ob, rfl⟩)
  gi_loopw [3] (fun _ wr => KeyRel133 b1 W.heap.size th J wr)
    (fun _ wr => wr.rangeLeft b1 W.heap.size)
  case atStart => exact ⟨[], th, hit, HJ.out _ _ _ h0 (Turns.of_alloc _ _), List.Perm.refl _⟩
  case round =>
    obtain ⟨vs, rest, hit, hj, hp⟩ := hrel
    gi_wp2_with (first
      | (gi_at_next
         refine wpListIn_next _ rfl _ rfl 9 Value.string Value.map b1 W.heap.size vs rest rfl hit (fun hz => ?_) (fun k v rest' w2 hp2 hit2 hent hgr hsz2 => ?_)
         rotate_left
         have hj2 : J (vs.map Prod.fst) w2 := HJ.out _ _ _ hj ⟨_, hgr, fun r e => by cases e; exact .inr ⟨Nat.le_refl _, hit.iter⟩⟩
         have hpost : ∃ post, (vs.map Prod.fst ++ k :: post).Perm (th.map Prod.fst) := ⟨rest'.map Prod.fst, by have := (((hp2.append_left vs).symm.trans hp).map Prod.fst); simpa using this⟩
         have hent' := hent)
      | (with_reducible refine wpListIn_fn free_wide ?_ ?_ (HY.out (vs.map Prod.fst) k w2 hj2 hpost) (fun e w3 hr => ?_)
         rfl
         rfl
         rcases hr with ⟨rfl, hj3, hf3⟩ | ⟨rfl, hx3⟩
         refine ⟨_, rfl, ?_⟩
         rotate_left
         refine ⟨_, rfl, ?_⟩))
    · refine bodyPost_ret (results_none rfl _ _ _) rfl ?_
      obtain ⟨post, hpost⟩ := hpost
      exact iterPost_stop _ _ _ hpost hx3
    · have hit3 := hit2.fix hf3 (.inr rfl) (Nat.le_refl _)
      refine ⟨⟨vs ++ [(k, v)], rest', hit3, by simpa using hj3, ?_⟩, ?_⟩
      · rw [List.append_assoc]; exact (hp2.append_left vs).symm.trans hp
      · rw [hit3.left, hit.left, hp2.length_eq]; simp
    · go_end0
      subst hz
      exact iterPost_all _ (by have := hp.map Prod.fst; simpa using this) hj
theorem iterNil133 (Bx : Nat) (w0 : World) (hbox : w0.heap[Bx]? = some (.cells #[.map none] 151)) :
    IterC Try.prog 133 #[.pointer (some ⟨Bx, 0, none⟩)] (fun s : ByteArray => #[Value.string s]) (fun ks => ks.Perm []) (fun b => b = Bx) (fun _ => False) w0 := by
  intro fv J Jx W hsz hO hJ hJx hY h0
  have hB := hO Bx _ rfl hbox
  have hc : W.cell? ⟨Bx, 0, none⟩ = some (.map none) := by rw [hp_cell hB]; rfl
  have hj : J [] (W.alloc (.mapIter none 0 #[] 0)) := hJ _ _ _ h0 (Turns.of_alloc _ _)
  have hrg := run_range_nilMap (P := Try.prog) W 151 9 145 Try.underlying151
  have hnx : ∀ ty, (Instr.next (.pointer (some ⟨W.heap.size, 0, none⟩)) false ty).run Try.prog (W.alloc (.mapIter none 0 #[] 0)) = _ := fun ty => run_next_nilMap W ty 0 0 #[]
  refine free_wide.calls_of (n := 0) ?_
  refine callsIn_of_wp Try.func133 rfl trivial ?_ rfl
  simp only [Try.ntmps133, List.size_toArray, List.length_cons, List.length_nil, Nat.reduceAdd, Nat.reduceSub, Array.replicate_succ, Array.replicate_zero, List.push_toArray, List.append_toArray, List.nil_append, List.cons_append]
  clear hO hbox hJ hJx hY h0
  gi_wp2
  gi_loopw [3] (fun _ wr => wr = W.alloc (.mapIter none 0 #[] 0)) (fun _ _ => 0)
  case atStart => rfl
  case round =>
    subst hrel
    gi_wp2
    go_end0
    exact iterPost_all [] (List.Perm.refl _) hj
theorem keys133_calls (b1 : Option Nat) (w : World) : Calls Try.prog 106 #[.map b1] w fun e w' => e = .returned (.func (.func 133) #[] #[.pointer (some ⟨w.heap.size, 0, none⟩)]) ∧ w' = w.alloc (.cells #[.map b1] 151) := by
  go_enter Try.func106, Try.ntmps106
  go_wp2
  go_ret
  exact ⟨rfl, rfl⟩

def KeyRel143 (b1 r : Nat) (th : List (ByteArray × (Option Addr))) (J : List ByteArray → World → Prop) (wr : World) : Prop :=
  ∃ vs rest : List (ByteArray × (Option Addr)), MIter Try.prog 9 Value.string Value.pointer wr b1 r vs rest ∧ J (vs.map Prod.fst) wr ∧ (vs ++ rest).Perm th
set_option maxHeartbeats 400000 in
theorem iter143 (Bx b1 : Nat) (th : List (ByteArray × (Option Addr))) (w0 : World) (hbox : w0.heap[Bx]? = some (.cells #[.map (some b1)] 183)) (hat : MapAt Try.prog 9 Value.string Value.pointer w0 b1 th) :
    IterC Try.prog 143 #[.pointer (some ⟨Bx, 0, none⟩)] (fun s : ByteArray => #[Value.string s]) (fun ks => ks.Perm (th.map Prod.fst)) (fun b => b = Bx ∨ b = b1) (fun _ => False) w0 := by
  intro fv J Jx W hsz hO hJ hJx hY h0
  have hB := hO Bx _ (.inl rfl) hbox
  have hat1 : MapAt Try.prog 9 Value.string Value.pointer W b1 th := by
    obtain ⟨es, c, hb, r⟩ := hat
    exact ⟨es, c, hO b1 _ (.inr rfl) hb, r⟩
  have hc : W.cell? ⟨Bx, 0, none⟩ = some (.map (some b1)) := by rw [hp_cell hB]; rfl
  refine free_wide.calls_of (n := 0) ?_
  refine callsIn_of_wp Try.func143 rfl trivial ?_ rfl
  simp only [Try.ntmps143, List.size_toArray, List.length_cons, List.length_nil, Nat.reduceAdd, Nat.reduceSub, Array.replicate_succ, Array.replicate_zero, List.push_toArray, List.append_toArray, List.nil_append, List.cons_append]
  clear hO hbox
  have HY := Lib.hid hY
  have HJ := Lib.hid hJ
  have HJx := Lib.hid hJx
  clear hY hJ hJx
  gi_wp2_with (gi_at_range; refine wpListIn_range _ rfl _ 183 rfl T183 b1 th rfl hat1 ?_; rintro _ hit ⟨ob, rfl⟩)
  gi_loopw [3] (fun _ wr => KeyRel143 b1 W.heap.size th J wr)
    (fun _ wr => wr.rangeLeft b1 W.heap.size)
  case atStart => exact ⟨[], th, hit, HJ.out _ _ _ h0 (Turns.of_alloc _ _), List.Perm.refl _⟩
  case round =>
    obtain ⟨vs, rest, hit, hj, hp⟩ := hrel
    gi_wp2_with (first
      | (gi_at_next
         refine wpListIn_next _ rfl _ rfl 9 Value.string Value.pointer b1 W.heap.size vs rest rfl hit (fun hz => ?_) (fun k v rest' w2 hp2 hit2 hent hgr hsz2 => ?_)
         rotate_left
         have hj2 : J (vs.map Prod.fst) w2 := HJ.out _ _ _ hj ⟨_, hgr, fun r e => by cases e; exact .inr ⟨Nat.le_refl _, hit.iter⟩⟩
         have hpost : ∃ post, (vs.map Prod.fst ++ k :: post).Perm (th.map Prod.fst) := ⟨rest'.map Prod.fst, by have := (((hp2.append_left vs).symm.trans hp).map Prod.fst); simpa using this⟩
         have hent' := hent)
      | (with_reducible refine wpListIn_fn free_wide ?_ ?_ (HY.out (vs.map Prod.fst) k w2 hj2 hpost) (fun e w3 hr => ?_)
         rfl
         rfl
         rcases hr with ⟨rfl, hj3, hf3⟩ | ⟨rfl, hx3⟩
         refine ⟨_, rfl, ?_⟩
         rotate_left
         refine ⟨_, rfl, ?_⟩))
    · refine bodyPost_ret (results_none rfl _ _ _) rfl ?_
      obtain ⟨post, hpost⟩ := hpost
      exact iterPost_stop _ _ _ hpost hx3
    · have hit3 := hit2.fix hf3 (.inr rfl) (Nat.le_refl _)
      refine ⟨⟨vs ++ [(k, v)], rest', hit3, by simpa using hj3, ?_⟩, ?_⟩
      · rw [List.append_assoc]; exact (hp2.append_left vs).symm.trans hp
      · rw [hit3.left, hit.left, hp2.length_eq]; simp
    · go_end0
      subst hz
      exact iterPost_all _ (by have := hp.map Prod.fst; simpa using this) hj
theorem iterNil143 (Bx : Nat) (w0 : World) (hbox : w0.heap[Bx]? = some (.cells #[.map none] 183)) :
    IterC Try.prog 143 #[.pointer (some ⟨Bx, 0, none⟩)] (fun s : ByteArray => #[Value.string s]) (fun ks => ks.Perm []) (fun b => b = Bx) (fun _ => False) w0 := by
  intro fv J Jx W hsz hO hJ hJx hY h0
  have hB := hO Bx _ rfl hbox
  have hc : W.cell? ⟨Bx, 0, none⟩ = some (.map none) := by rw [hp_cell hB]; rfl
  have hj : J [] (W.alloc (.mapIter none 0 #[] 0)) := hJ _ _ _ h0 (Turns.of_alloc _ _)
  have hrg := run_range_nilMap (P := Try.prog) W 183 9 188 Try.underlying183
  have hnx : ∀ ty, (Instr.next (.pointer (some ⟨W.heap.size, 0, none⟩)) false ty).run Try.prog (W.alloc (.mapIter none 0 #[] 0)) = _ := fun ty => run_next_nilMap W ty 0 0 #[]
  refine free_wide.calls_of (n := 0) ?_
  refine callsIn_of_wp Try.func143 rfl trivial ?_ rfl
  simp only [Try.ntmps143, List.size_toArray, List.length_cons, List.length_nil, Nat.reduceAdd, Nat.reduceSub, Array.replicate_succ, Array.replicate_zero, List.push_toArray, List.append_toArray, List.nil_append, List.cons_append]
  clear hO hbox hJ hJx hY h0
  gi_wp2
  gi_loopw [3] (fun _ wr => wr = W.alloc (.mapIter none 0 #[] 0)) (fun _ _ => 0)
  case atStart => rfl
  case round =>
    subst hrel
    gi_wp2
    go_end0
    exact iterPost_all [] (List.Perm.refl _) hj
theorem keys143_calls (b1 : Option Nat) (w : World) : Calls Try.prog 134 #[.map b1] w fun e w' => e = .returned (.func (.func 143) #[] #[.pointer (some ⟨w.heap.size, 0, none⟩)]) ∧ w' = w.alloc (.cells #[.map b1] 183) := by
  go_enter Try.func134, Try.ntmps134
  go_wp2
  go_ret
  exact ⟨rfl, rfl⟩

def KeyRel144 (b1 r : Nat) (th : List (ByteArray × (Option Nat))) (J : List ByteArray → World → Prop) (wr : World) : Prop :=
  ∃ vs rest : List (ByteArray × (Option Nat)), MIter Try.prog 9 Value.string Value.map wr b1 r vs rest ∧ J (vs.map Prod.fst) wr ∧ (vs ++ rest).Perm th
set_option maxHeartbeats 400000 in
theorem iter144 (Bx b1 : Nat) (th : List (ByteArray × (Option Nat))) (w0 : World) (hbox : w0.heap[Bx]? = some (.cells #[.map (some b1)] 141)) (hat : MapAt Try.prog 9 Value.string Value.map w0 b1 th) :
    IterC Try.prog 144 #[.pointer (some ⟨Bx, 0, none⟩)] (fun s : ByteArray => #[Value.string s]) (fun ks => ks.Perm (th.map Prod.fst)) (fun b => b = Bx ∨ b = b1) (fun _ => False) w0 := by
  intro fv J Jx W hsz hO hJ hJx hY h0
  have hB := hO Bx _ (.inl rfl) hbox
  have hat1 : MapAt Try.prog 9 Value.string Value.map W b1 th := by
    obtain ⟨es, c, hb, r⟩ := hat
    exact ⟨es, c, hO b1 _ (.inr rfl) hb, r⟩
  have hc : W.cell? ⟨Bx, 0, none⟩ = some (.map (some b1)) := by rw [hp_cell hB]; rfl
  refine free_wide.calls_of (n := 0) ?_
  refine callsIn_of_wp Try.func144 rfl trivial ?_ rfl
  simp only [Try.ntmps144, List.size_toArray, List.length_cons, List.length_nil, Nat.reduceAdd, Nat.reduceSub, Array.replicate_succ, Array.replicate_zero, List.push_toArray, List.append_toArray, List.nil_append, List.cons_append]
  clear hO hbox
  have HY := Lib.hid hY
  have HJ := Lib.hid hJ
  have HJx := Lib.hid hJx
  clear hY hJ hJx
  gi_wp2_with (gi_at_range; refine wpListIn_range _ rfl _ 141 rfl T141 b1 th rfl hat1 ?_; rintro _ hit ⟨ob, rfl⟩)
  gi_loopw [3] (fun _ wr => KeyRel144 b1 W.heap.size th J wr)
    (fun _ wr => wr.rangeLeft b1 W.heap.size)
  case atStart => exact ⟨[], th, hit, HJ.out _ _ _ h0 (Turns.of_alloc _ _), List.Perm.refl _⟩
  case round =>
    obtain ⟨vs, rest, hit, hj, hp⟩ := hrel
    gi_wp2_with (first
      | (gi_at_next
         refine wpListIn_next _ rfl _ rfl 9 Value.string Value.map b1 W.heap.size vs rest rfl hit (fun hz => ?_) (fun k v rest' w2 hp2 hit2 hent hgr hsz2 => ?_)
         rotate_left
         have hj2 : J (vs.map Prod.fst) w2 := HJ.out _ _ _ hj ⟨_, hgr, fun r e => by cases e; exact .inr ⟨Nat.le_refl _, hit.iter⟩⟩
         have hpost : ∃ post, (vs.map Prod.fst ++ k :: post).Perm (th.map Prod.fst) := ⟨rest'.map Prod.fst, by have := (((hp2.append_left vs).symm.trans hp).map Prod.fst); simpa using this⟩
         have hent' := hent)
      | (with_reducible refine wpListIn_fn free_wide ?_ ?_ (HY.out (vs.map Prod.fst) k w2 hj2 hpost) (fun e w3 hr => ?_)
         rfl
         rfl
         rcases hr with ⟨rfl, hj3, hf3⟩ | ⟨rfl, hx3⟩
         refine ⟨_, rfl, ?_⟩
         rotate_left
         refine ⟨_, rfl, ?_⟩))
    · refine bodyPost_ret (results_none rfl _ _ _) rfl ?_
      obtain ⟨post, hpost⟩ := hpost
      exact iterPost_stop _ _ _ hpost hx3
    · have hit3 := hit2.fix hf3 (.inr rfl) (Nat.le_refl _)
      refine ⟨⟨vs ++ [(k, v)], rest', hit3, by simpa using hj3, ?_⟩, ?_⟩
      · rw [List.append_assoc]; exact (hp2.append_left vs).symm.trans hp
      · rw [hit3.left, hit.left, hp2.length_eq]; simp
    · go_end0
      subst hz
      exact iterPost_all _ (by have := hp.map Prod.fst; simpa using this) hj
theorem iterNil144 (Bx : Nat) (w0 : World) (hbox : w0.heap[Bx]? = some (.cells #[.map none] 141)) :
    IterC Try.prog 144 #[.pointer (some ⟨Bx, 0, none⟩)] (fun s : ByteArray => #[Value.string s]) (fun ks => ks.Perm []) (fun b => b = Bx) (fun _ => False) w0 := by
  intro fv J Jx W hsz hO hJ hJx hY h0
  have hB := hO Bx _ rfl hbox
  have hc : W.cell? ⟨Bx, 0, none⟩ = some (.map none) := by rw [hp_cell hB]; rfl
  have hj : J [] (W.alloc (.mapIter none 0 #[] 0)) := hJ _ _ _ h0 (Turns.of_alloc _ _)
  have hrg := run_range_nilMap (P := Try.prog) W 141 9 146 Try.underlying141
  have hnx : ∀ ty, (Instr.next (.pointer (some ⟨W.heap.size, 0, none⟩)) false ty).run Try.prog (W.alloc (.mapIter none 0 #[] 0)) = _ := fun ty => run_next_nilMap W ty 0 0 #[]
  refine free_wide.calls_of (n := 0) ?_
  refine callsIn_of_wp Try.func144 rfl trivial ?_ rfl
  simp only [Try.ntmps144, List.size_toArray, List.length_cons, List.length_nil, Nat.reduceAdd, Nat.reduceSub, Array.replicate_succ, Array.replicate_zero, List.push_toArray, List.append_toArray, List.nil_append, List.cons_append]
  clear hO hbox hJ hJx hY h0
  gi_wp2
  gi_loopw [3] (fun _ wr => wr = W.alloc (.mapIter none 0 #[] 0)) (fun _ _ => 0)
  case atStart => rfl
  case round =>
    subst hrel
    gi_wp2
    go_end0
    exact iterPost_all [] (List.Perm.refl _) hj
theorem keys144_calls (b1 : Option Nat) (w : World) : Calls Try.prog 136 #[.map b1] w fun e w' => e = .returned (.func (.func 144) #[] #[.pointer (some ⟨w.heap.size, 0, none⟩)]) ∧ w' = w.alloc (.cells #[.map b1] 141) := by
  go_enter Try.func136, Try.ntmps136
  go_wp2
  go_ret
  exact ⟨rfl, rfl⟩
end Go.Proofs.Ytjbpghdgmpinpaa
