/- GroupOne answers true for every input: its row. -/
import Derived.Test.YtjbpghdgmpinpaaGg
import Derived.Test.YtjbpghdgmpinpaaRows
import Derived.ProofKit
import Derived.OpenShut
import Derived.Deep.DeepHandedRow
import Derived.Lay
import Derived.MakeChecks
namespace Go.Proofs.Ytjbpghdgmpinpaa
open Go.ChangeShapes Go.WideShapes Go.ChangeAt Go.RowKit

theorem gone_hold_laidOut : laidOutB Try.prog = true := by kernel_rfl
theorem gone_hold_own : ownKnob Try.prog.godebug = none := by kernel_rfl
noncomputable def gone_holdsWorld (os : Os) : World := World.laidAll Try.prog os Rows.groupOneRow.laid
theorem gone_holds_met (os : Os) (args : Array Value) : laidMet Try.prog Rows.groupOneRow.laid ((gone_holdsWorld os).forCall (fun _ _ => 0) ⟨#[], args, []⟩).memory :=
  laidMet_laidAll _ (by kernel_rfl) (by kernel_rfl)
def gone_holdsArgs : Array Value := #[.slice none 0 0]
theorem gone_holds_reads (os : Os) {H : Type} (enc : TypeId × Value → H) : ∃ places, DataW.whole enc Try.prog ((gone_holdsWorld os).forCall (fun _ _ => 0) ⟨#[], gone_holdsArgs, []⟩).memory Try.f3.params.toList Rows.groupOneSpec.vars false gone_holdsArgs.toList 8 = some ([.nil], [], places) :=
  ⟨[], by kernel_rfl⟩

set_option maxRecDepth 100000 in
theorem gone_holds_contract (H : Type) (enc : TypeId × Value → H) (W : World) (base : Nat) (args : Array Value) (ds gs : List (DataW H)) (before : List MemPlace)
    (hval : ∀ (j : Nat) t v, Try.f3.params[j]? = some t → args[j]? = some v → Value.okWide Try.prog W .any base t v)
    (hW : DataW.Whole enc Try.prog Try.f3.params.toList Rows.groupOneSpec.vars false W args.toList ds gs before) :
    Calls Try.prog 3 args W fun e W' => ∃ v, e = .returned v ∧ Rows.groupOneSpec.post enc Try.prog Try.f3 false true false false W args v W' := by
  have hW' := hW
  obtain ⟨p, q, hA0, hV, rfl, hfz, hnd⟩ := hW
  have hA : DataW.TrodAll enc Try.prog W 0 (fun _ => true) true Try.f3.params.toList args.toList ds p := hA0
  rw [Try.params3] at hA hval
  obtain ⟨v0, d0, rfl, rfl, h0⟩ := trodAll_one hA
  obtain ⟨rfl, rfl⟩ := trodVars_none hV
  clear hA0
  simp only [List.append_nil] at hW'
  have hlt : ∀ x ∈ p, x.block < W.heap.size := fun x hx => by simpa using hW'.lt x hx
  obtain ⟨o, len, cap, zs, rfl, hin, hmx⟩ := Rv.bytes_open Try.underlying22 Try.underlying5 (by kernel_rfl) (hval 0 22 v0 rfl rfl) h0 hlt
  refine (one_walk o len cap zs W hin hmx).mono fun e W' ⟨he, hb⟩ => ?_
  subst he
  exact ⟨_, rfl, _, _, _, [], p, [], hW', trodAll_mk1 (shut_bool Try.underlying4 _), trodAll_mk1 (Below.trod gone_hold_laidOut (by kernel_rfl) (of_decide_eq_true (by kernel_rfl)) h0 hb hlt), rfl, hb.frame _, fun h => by cases h⟩

set_option maxRecDepth 100000 in
theorem gone_holds_lifted (os : Os) (started : os.Started) (H : Type) (enc : TypeId × Value → H) (F : Stop.Interp) :
    ReturnsInHanded {} Try.checked os 3 .any ((OpenSpec.ofChange Rows.groupOneSpec).preRow enc Try.prog Try.f3 Rows.groupOneRow.domain false Rows.groupOneRow.laid) (((OpenSpec.ofChange Rows.groupOneSpec).at F).post enc Try.prog Try.f3 false true false false) := by
  obtain ⟨places, hx⟩ := gone_holds_reads os enc
  refine returnsInHanded_of_row (C := Try.checked) (s := OpenSpec.ofChange Rows.groupOneSpec) gone_hold_own started (by kernel_rfl) Try.func3
    (witness_row_at (enc := enc) (C := Try.checked) false (gone_holdsWorld os) gone_holdsArgs (World.laidAll_os _ _ _) (by kernel_rfl) (by kernel_rfl) (by kernel_rfl)
      (OpenSpec.preRow_of_cond 8 hx (by kernel_rfl) (fun k hk => by cases hk) (by kernel_rfl) (by rw [MakeChecks.laidMetH_plain _ _ _ (by kernel_rfl)]; exact gone_holds_met os _))) ?_
  intro W base args ds gs before hval hW _ _ _ _ _ _
  exact gone_holds_contract H enc W base args ds gs before hval hW

theorem groupOne_said : Rows.GroupOneSaid :=
  OpenClaim.holds_of_cond 3 Try.f3 rfl rfl rfl rfl rfl rfl rfl ⟨rfl, rfl, rfl, rfl, rfl⟩ rfl rfl rfl rfl rfl (by kernel_rfl) Try.func3 (by kernel_rfl)
    (of_decide_eq_true (by kernel_rfl)) (by unfold Func.isWrapper; first | (rw [if_pos (by decide +kernel)]; kernel_rfl) | (rw [if_neg (by decide +kernel)]; exact ⟨rfl, rfl⟩))
    (fun os started H enc _ F => by rw [OpenClaim.pre_eq_preRow]; exact gone_holds_lifted os started H enc F)

end Go.Proofs.Ytjbpghdgmpinpaa
