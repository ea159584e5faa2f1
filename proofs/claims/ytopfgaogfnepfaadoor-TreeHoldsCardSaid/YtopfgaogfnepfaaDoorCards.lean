/-
  DERIVED. GIVEN WITH THE SEED: THE CARDS: each row of YtopfgaogfnepfaaDoorRows.lean that lists a variable, with what it lists TIED to the program's text (the seventh form; the later family's looks); each row that meets fmt, with fmt's text TOLD by the authors' own Lean function (tested against real Go, not proved from fmt's source: count such statements apart). THE CARD IS WHAT COUNTS. Prove the row's statement (the work); the ties are given (YtopfgaogfnepfaaDoorTie.lean); close each card by the builder's one call (the guide's Derived/Test/ToyasCard.lean, 'card_holds'). Laid BY PROGRAM, IN A SANDBOX (cutbox-door.mjs). By AI agents, Wed Nov 11 2026. No macro, syntax, notation, axiom, sorry.
-/
import Derived.Test.YtopfgaogfnepfaaDoorRows
import GoSem.ClaimSeven
namespace Go.Proofs.YtopfgaogfnepfaaDoor
namespace Rows

/-- THE TIED CARD OF 'reveillelaw11.TreeDeep'. -/
def treeDeepCard : Claim7 := { stood := { row := treeDeepRow, standIns := [], harness := (true, "317510c07524019f886109c0c6a25c08d90708fdb3a90c44ffc8c089b5743df3"), looks := false }, kinds := [], alts := [], laidByText := true, laidKinds := [.data, .pinned], laidTests := true, laidLooks := .later }
def TreeDeepCardSaid : Prop := Claim7.holds Tryd.pinned (.plain (OpenSpec.ofChange treeDeepSpec)) treeDeepCard

/-- THE TIED CARD OF 'reveillelaw11.TreeHolds'. -/
def treeHoldsCard : Claim7 := { stood := { row := treeHoldsRow, standIns := [], harness := (true, "317510c07524019f886109c0c6a25c08d90708fdb3a90c44ffc8c089b5743df3"), looks := false }, kinds := [], alts := [], laidByText := true, laidKinds := [.data, .pinned], laidTests := true, laidLooks := .later }
def TreeHoldsCardSaid : Prop := Claim7.holds Tryd.pinned (.plain (OpenSpec.ofChange treeHoldsSpec)) treeHoldsCard

/-- THE TIED CARD OF 'reveillelaw11.TreeMounts'. -/
def treeMountsCard : Claim7 := { stood := { row := treeMountsRow, standIns := [], harness := (true, "317510c07524019f886109c0c6a25c08d90708fdb3a90c44ffc8c089b5743df3"), looks := false }, kinds := [], alts := [], laidByText := true, laidKinds := [.data, .pinned], laidTests := true, laidLooks := .later }
def TreeMountsCardSaid : Prop := Claim7.holds Tryd.pinned (.plain (OpenSpec.ofChange treeMountsSpec)) treeMountsCard

/-- THE SECOND FORM's CARD OF 'reveillelaw11.TreeDeep'. -/
def treeDeepUptoCard : Claim7 := { stood := { row := treeDeepUptoRow, standIns := [], harness := (true, "317510c07524019f886109c0c6a25c08d90708fdb3a90c44ffc8c089b5743df3"), looks := false }, kinds := [], alts := [], laidByText := true, laidKinds := [.data, .pinned], laidTests := true, laidLooks := .later }
def TreeDeepUptoCardSaid : Prop := Claim7.holds Tryd.pinned (.plain (OpenSpec.upto treeDeepSpec)) treeDeepUptoCard

/-- THE SECOND FORM's CARD OF 'reveillelaw11.TreeHolds'. -/
def treeHoldsUptoCard : Claim7 := { stood := { row := treeHoldsUptoRow, standIns := [], harness := (true, "317510c07524019f886109c0c6a25c08d90708fdb3a90c44ffc8c089b5743df3"), looks := false }, kinds := [], alts := [], laidByText := true, laidKinds := [.data, .pinned], laidTests := true, laidLooks := .later }
def TreeHoldsUptoCardSaid : Prop := Claim7.holds Tryd.pinned (.plain (OpenSpec.upto treeHoldsSpec)) treeHoldsUptoCard

/-- THE SECOND FORM's CARD OF 'reveillelaw11.TreeMounts'. -/
def treeMountsUptoCard : Claim7 := { stood := { row := treeMountsUptoRow, standIns := [], harness := (true, "317510c07524019f886109c0c6a25c08d90708fdb3a90c44ffc8c089b5743df3"), looks := false }, kinds := [], alts := [], laidByText := true, laidKinds := [.data, .pinned], laidTests := true, laidLooks := .later }
def TreeMountsUptoCardSaid : Prop := Claim7.holds Tryd.pinned (.plain (OpenSpec.upto treeMountsSpec)) treeMountsUptoCard
end Rows
end Go.Proofs.YtopfgaogfnepfaaDoor
