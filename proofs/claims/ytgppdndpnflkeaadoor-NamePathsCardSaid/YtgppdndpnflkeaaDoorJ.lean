/- A row of strings that came in: what a walk may read of it. -/
import Derived.Test.YtgppdndpnflkeaaDoorI
import Derived.SliceStrings
namespace Go.Rv
open Go.RowKit Go.ChangeShapes Go.WideShapes Go.ChangeAt

/-- The first len cells of the row o hold the texts ss. -/
def StrsIn (w : World) (o : Option Addr) (len : Nat) (ss : List ByteArray) : Prop :=
  ∀ i, i < len → ∃ a, o = some a ∧ a.block < w.heap.size ∧ w.cell? (a.add i) = some (.string (ss.getD i ByteArray.empty)) ∧ (ss.getD i ByteArray.empty).size ≤ maxLen
theorem strings_open {H : Type} {enc : TypeId × Value → H} {P : Program} {W : World} {base : Nat} {t e : TypeId} {v : Value} {d : DataW H} {p : List MemPlace}
    (ht : P.underlying t = some (.slice e)) (he : P.underlying e = some .string) (hc : P.cellsOf e = 1)
    (hval : Value.okWide P W .any base t v) (h0 : DataW.Trod enc P W 0 (fun _ => true) true t v d p) (hlt : ∀ x ∈ p, x.block < W.heap.size) :
    ∃ o len cap ss, v = .slice o len cap ∧ StrsIn W o len ss ∧ len ≤ maxLen := by
  obtain ⟨o, len, cap, rfl⟩ := okWide_slice ht hval
  obtain ⟨fuel, hf⟩ := h0
  rcases open_strings ht he hc hf with ⟨hcs, hx⟩ | ⟨a, len', cap', ss, hcs, _, hl, hm, hz, hx, hcell, hss⟩
  · simp [Value.cells] at hcs
    obtain ⟨rfl, rfl, rfl⟩ := hcs
    exact ⟨_, _, _, [], rfl, fun i hi => absurd hi (by omega), by simp⟩
  · simp [Value.cells] at hcs
    obtain ⟨rfl, rfl, rfl⟩ := hcs
    simp only [Prod.mk.injEq] at hx
    obtain ⟨rfl, rfl⟩ := hx
    simp only [if_true] at hz
    refine ⟨_, _, _, ss, rfl, fun i hi => ⟨a, rfl, ?_, hcell i (by omega), ?_⟩, by omega⟩
    · obtain ⟨b, off, spot⟩ := a
      exact hlt (.cell b off) (MemPlace.mem_row.2 ⟨0, by omega, by simp⟩)
    · have hi' : i < ss.length := by omega
      rw [List.getD_eq_getElem?_getD, List.getElem?_eq_getElem hi', Option.getD_some]
      exact hss _ (List.getElem_mem hi')
end Go.Rv
