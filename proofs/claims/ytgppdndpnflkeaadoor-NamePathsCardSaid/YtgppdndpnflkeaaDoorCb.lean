/- NamePaths answers true for every input: its row and its tied card; package-level tables as the program's text lays them. -/
import Derived.Test.YtgppdndpnflkeaaDoorNo
import Derived.Test.YtgppdndpnflkeaaDoorCards
import Derived.Test.YtgppdndpnflkeaaDoorTie
import Derived.ProofKit
import Derived.OpenShut
import Derived.ShutString
import Derived.ChangeMaps5
import Derived.Deep.DeepHandedRow
import Derived.Lay
namespace Go.Proofs.YtgppdndpnflkeaaDoor
open Go.ChangeShapes Go.WideShapes Go.ChangeAt Go.RowKit Go.ChangeMaps

theorem namePaths_own : ownKnob Tryd.prog.godebug = none := by kernel_rfl
noncomputable def namePathsWorld (os : Os) : World := World.laidAll Tryd.prog os Rows.namePathsRow.laid
theorem namePaths_met (os : Os) (args : Array Value) : laidMet Tryd.prog Rows.namePathsRow.laid ((namePathsWorld os).forCall (fun _ _ => 0) ⟨#[], args, []⟩).memory :=
  laidMet_laidAll _ (by kernel_rfl) (by kernel_rfl)
def namePathsArgs : Array Value := #[.slice none 0 0]
theorem namePaths_reads (os : Os) {H : Type} (enc : TypeId × Value → H) : ∃ places, DataW.whole enc Tryd.prog ((namePathsWorld os).forCall (fun _ _ => 0) ⟨#[], namePathsArgs, []⟩).memory Tryd.f5.params.toList Rows.namePathsSpec.vars false namePathsArgs.toList 8 = some ([.nil], [], places) :=
  ⟨[], by kernel_rfl⟩

theorem namePaths_laidOut : laidOutB Tryd.prog = true := by kernel_rfl
theorem namePaths_contract (H : Type) (enc : TypeId × Value → H) (W : World) (base : Nat) (args : Array Value) (ds gs : List (DataW H)) (before : List MemPlace)
    (hval : ∀ (j : Nat) t v, Tryd.f5.params[j]? = some t → args[j]? = some v → Value.okWide Tryd.prog W .any base t v)
    (hW : DataW.Whole enc Tryd.prog Tryd.f5.params.toList Rows.namePathsSpec.vars false W args.toList ds gs before) :
    Calls Tryd.prog 5 args W fun e W' => ∃ v, e = .returned v ∧ Rows.namePathsSpec.post enc Tryd.prog Tryd.f5 false true false false W args v W' := by
  have hW' := hW
  obtain ⟨p, q, hA0, hV, rfl, hfz, hnd⟩ := hW
  have hA : DataW.TrodAll enc Tryd.prog W 0 (fun _ => true) true Tryd.f5.params.toList args.toList ds p := hA0
  rw [Tryd.params5] at hA hval
  obtain ⟨v0, d0, rfl, rfl, h0⟩ := trodAll_one hA
  obtain ⟨rfl, rfl⟩ := trodVars_none hV
  clear hA0
  simp only [List.append_nil] at hW'
  have hlt : ∀ x ∈ p, x.block < W.heap.size := fun x hx => by simpa using hW'.lt x hx
  obtain ⟨o, len, cap, ss, rfl, hin, hm⟩ := Rv.strings_open Tryd.underlying32 Tryd.underlying9 (by kernel_rfl) (hval 0 32 v0 rfl rfl) h0 hlt
  refine (paths_walk W o len cap ss hin hm).mono fun e W' ⟨he, hb⟩ => ?_
  subst he
  exact ⟨_, rfl, _, _, _, [], p, [], hW', trodAll_mk1 (shut_bool Tryd.underlying4 _), trodAll_mk1 (Below.trod namePaths_laidOut (by kernel_rfl) (of_decide_eq_true (by kernel_rfl)) h0 hb hlt), rfl, hb.frame _, fun h => by cases h⟩

set_option maxRecDepth 100000 in
theorem namePaths_lifted (os : Os) (started : os.Started) (H : Type) (enc : TypeId × Value → H) (F : Stop.Interp) :
    ReturnsInHanded {} Tryd.checked os 5 .any ((OpenSpec.ofChange Rows.namePathsSpec).preRow enc Tryd.prog Tryd.f5 Rows.namePathsRow.domain false Rows.namePathsRow.laid) (((OpenSpec.ofChange Rows.namePathsSpec).at F).post enc Tryd.prog Tryd.f5 false true false false) := by
  obtain ⟨places, hx⟩ := namePaths_reads os enc
  refine returnsInHanded_of_row (C := Tryd.checked) (s := OpenSpec.ofChange Rows.namePathsSpec) namePaths_own started (by kernel_rfl) Tryd.func5
    (witness_row_at (enc := enc) (C := Tryd.checked) false (namePathsWorld os) namePathsArgs (World.laidAll_os _ _ _) (by kernel_rfl) (by kernel_rfl) (by kernel_rfl)
      (OpenSpec.preRow_of_cond 8 hx (by kernel_rfl) (fun k hk => by cases hk) (by kernel_rfl) (by rw [MakeChecks.laidMetH_plain _ _ _ (by kernel_rfl)]; exact namePaths_met os _))) ?_
  intro W base args ds gs before hval hW _ _ _ _ _ _
  exact namePaths_contract H enc W base args ds gs before hval hW

theorem namePaths_said : Rows.NamePathsSaid :=
  OpenClaim.holds_of_cond 5 Tryd.f5 rfl rfl rfl rfl rfl rfl rfl ⟨rfl, rfl, rfl, rfl, rfl⟩ rfl rfl rfl rfl rfl (by kernel_rfl) Tryd.func5 (by kernel_rfl)
    (of_decide_eq_true (by kernel_rfl)) (by unfold Func.isWrapper; first | (rw [if_pos (by decide +kernel)]; kernel_rfl) | (rw [if_neg (by decide +kernel)]; exact ⟨rfl, rfl⟩))
    (fun os started H enc _ F => by rw [OpenClaim.pre_eq_preRow]; exact namePaths_lifted os started H enc F)

theorem namePaths_plain (f : FuncId) (fn : Func) (hf : Tryd.pinned.checked.prog.funcNamed "reveille/reveillelaw4.NamePaths" = some f) (hfn : Tryd.pinned.checked.prog.funcs[f]? = some fn) :
    false = Tryd.pinned.checked.prog.looks [] ∧ ∀ (j : Nat) t, fn.params[j]? = some t → Tryd.pinned.checked.prog.wantsStandIn t = false := by
  obtain rfl : f = 5 := Option.some.inj ((show Tryd.prog.funcNamed "reveille/reveillelaw4.NamePaths" = some 5 by kernel_rfl).symm.trans hf) |>.symm
  obtain rfl : fn = Tryd.f5 := (Option.some.inj (Tryd.func5.symm.trans hfn)).symm
  refine ⟨by kernel_rfl, fun j t ht => ?_⟩
  rw [Tryd.params5] at ht
  obtain rfl : t = 32 := by simpa using Array.mem_of_getElem? ht
  exact (show Tryd.prog.wantsStandIn 32 = false by kernel_rfl)

theorem namePaths_card : Rows.NamePathsCardSaid :=
  Claim7.holds_tied_plain_at .later [] _ _ _ _ namePaths_said (fun _ h => by cases h) (by kernel_rfl) (fun _ h => by cases h) namePaths_row_tie rfl ⟨rfl, rfl⟩ (by kernel_rfl) rfl namePaths_plain (by kernel_rfl)
end Go.Proofs.YtgppdndpnflkeaaDoor
