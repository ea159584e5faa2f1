/- NameExpands answers true for every input: its row and its tied card; package-level tables as the program's text lays them. -/
import Derived.Test.YtgppdndpnflkeaaDoorRi
import Derived.Test.YtgppdndpnflkeaaDoorCards
import Derived.Test.YtgppdndpnflkeaaDoorTie
import Derived.ProofKit
import Derived.OpenShut
import Derived.ShutString
import Derived.ChangeMaps5
import Derived.Deep.DeepHandedRow
import Derived.Lay
namespace Go.Proofs.YtgppdndpnflkeaaDoor
open Go.ChangeShapes Go.WideShapes Go.ChangeAt Go.RowKit Go.ChangeMaps

theorem nameExpands_own : ownKnob Tryd.prog.godebug = none := by kernel_rfl
noncomputable def nameExpandsWorld (os : Os) : World := World.laidAll Tryd.prog os Rows.nameExpandsRow.laid
theorem nameExpands_met (os : Os) (args : Array Value) : laidMet Tryd.prog Rows.nameExpandsRow.laid ((nameExpandsWorld os).forCall (fun _ _ => 0) ⟨#[], args, []⟩).memory :=
  laidMet_laidAll _ (by kernel_rfl) (by kernel_rfl)
def nameExpandsArgs : Array Value := #[.string ⟨#[]⟩, .string ⟨#[]⟩]
theorem nameExpands_reads (os : Os) {H : Type} (enc : TypeId × Value → H) : ∃ places, DataW.whole enc Tryd.prog ((nameExpandsWorld os).forCall (fun _ _ => 0) ⟨#[], nameExpandsArgs, []⟩).memory Tryd.f3.params.toList Rows.nameExpandsSpec.vars false nameExpandsArgs.toList 8 = some ([.lit (.string []), .lit (.string [])], [], places) :=
  ⟨[], by kernel_rfl⟩

theorem nameExpands_contract (H : Type) (enc : TypeId × Value → H) (W : World) (base : Nat) (args : Array Value) (ds gs : List (DataW H)) (before : List MemPlace)
    (hval : ∀ (j : Nat) t v, Tryd.f3.params[j]? = some t → args[j]? = some v → Value.okWide Tryd.prog W .any base t v)
    (hW : DataW.Whole enc Tryd.prog Tryd.f3.params.toList Rows.nameExpandsSpec.vars false W args.toList ds gs before) :
    Calls Tryd.prog 3 args W fun e W' => ∃ v, e = .returned v ∧ Rows.nameExpandsSpec.post enc Tryd.prog Tryd.f3 false true false false W args v W' := by
  have hW' := hW
  obtain ⟨p, q, hA0, hV, rfl, hfz, hnd⟩ := hW
  have hA : DataW.TrodAll enc Tryd.prog W 0 (fun _ => true) true Tryd.f3.params.toList args.toList ds p := hA0
  rw [Tryd.params3] at hA hval
  obtain ⟨v0, v1, d0, d1, p0, p1, rfl, rfl, rfl, h0, h1⟩ := trodAll_two hA
  obtain ⟨rfl, rfl⟩ := trodVars_none hV
  obtain ⟨a, rfl, rfl, rfl, wa⟩ := open_string Tryd.underlying9 (hval 0 9 v0 rfl rfl) h0
  obtain ⟨b, rfl, rfl, rfl, wb⟩ := open_string Tryd.underlying9 (hval 1 9 v1 rfl rfl) h1
  clear hA0
  refine (expands_walk a b W).mono fun e W' ⟨he, hb⟩ => ?_
  subst he
  exact ⟨_, rfl, _, _, _, [], [], [], hW', trodAll_mk1 (shut_bool Tryd.underlying4 _), trodAll_mk2 (shut_string Tryd.underlying9 wa) (shut_string Tryd.underlying9 wb), rfl, hb.frame _, fun h => by cases h⟩

set_option maxRecDepth 100000 in
theorem nameExpands_lifted (os : Os) (started : os.Started) (H : Type) (enc : TypeId × Value → H) (F : Stop.Interp) :
    ReturnsInHanded {} Tryd.checked os 3 .any ((OpenSpec.ofChange Rows.nameExpandsSpec).preRow enc Tryd.prog Tryd.f3 Rows.nameExpandsRow.domain false Rows.nameExpandsRow.laid) (((OpenSpec.ofChange Rows.nameExpandsSpec).at F).post enc Tryd.prog Tryd.f3 false true false false) := by
  obtain ⟨places, hx⟩ := nameExpands_reads os enc
  refine returnsInHanded_of_row (C := Tryd.checked) (s := OpenSpec.ofChange Rows.nameExpandsSpec) nameExpands_own started (by kernel_rfl) Tryd.func3
    (witness_row_at (enc := enc) (C := Tryd.checked) false (nameExpandsWorld os) nameExpandsArgs (World.laidAll_os _ _ _) (by kernel_rfl) (by kernel_rfl) (by kernel_rfl)
      (OpenSpec.preRow_of_cond 8 hx (by kernel_rfl) (fun k hk => by cases hk) (by kernel_rfl) (by rw [MakeChecks.laidMetH_plain _ _ _ (by kernel_rfl)]; exact nameExpands_met os _))) ?_
  intro W base args ds gs before hval hW _ _ _ _ _ _
  exact nameExpands_contract H enc W base args ds gs before hval hW

theorem nameExpands_said : Rows.NameExpandsSaid :=
  OpenClaim.holds_of_cond 3 Tryd.f3 rfl rfl rfl rfl rfl rfl rfl ⟨rfl, rfl, rfl, rfl, rfl⟩ rfl rfl rfl rfl rfl (by kernel_rfl) Tryd.func3 (by kernel_rfl)
    (of_decide_eq_true (by kernel_rfl)) (by unfold Func.isWrapper; first | (rw [if_pos (by decide +kernel)]; kernel_rfl) | (rw [if_neg (by decide +kernel)]; exact ⟨rfl, rfl⟩))
    (fun os started H enc _ F => by rw [OpenClaim.pre_eq_preRow]; exact nameExpands_lifted os started H enc F)

theorem nameExpands_plain (f : FuncId) (fn : Func) (hf : Tryd.pinned.checked.prog.funcNamed "reveille/reveillelaw4.NameExpands" = some f) (hfn : Tryd.pinned.checked.prog.funcs[f]? = some fn) :
    false = Tryd.pinned.checked.prog.looks [] ∧ ∀ (j : Nat) t, fn.params[j]? = some t → Tryd.pinned.checked.prog.wantsStandIn t = false := by
  obtain rfl : f = 3 := Option.some.inj ((show Tryd.prog.funcNamed "reveille/reveillelaw4.NameExpands" = some 3 by kernel_rfl).symm.trans hf) |>.symm
  obtain rfl : fn = Tryd.f3 := (Option.some.inj (Tryd.func3.symm.trans hfn)).symm
  refine ⟨by kernel_rfl, fun j t ht => ?_⟩
  rw [Tryd.params3] at ht
  have hm : t = 9 := by
    have := Array.mem_of_getElem? ht
    simp at this
    omega
  rcases hm with rfl
  exact (show Tryd.prog.wantsStandIn 9 = false by kernel_rfl)

theorem nameExpands_card : Rows.NameExpandsCardSaid :=
  Claim7.holds_tied_plain_at .later [] _ _ _ _ nameExpands_said (fun _ h => by cases h) (by kernel_rfl) (fun _ h => by cases h) nameExpands_row_tie rfl ⟨rfl, rfl⟩ (by kernel_rfl) rfl nameExpands_plain (by kernel_rfl)
end Go.Proofs.YtgppdndpnflkeaaDoor
