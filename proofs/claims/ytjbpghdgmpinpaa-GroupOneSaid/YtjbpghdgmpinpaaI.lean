/- A row of bytes that came in: what a walk may read of it. -/
import Derived.Test.YtjbpghdgmpinpaaR
import Derived.ProofKit
import Derived.OpenShut
namespace Go.Rv
open Go.RowKit Go.ChangeShapes Go.WideShapes Go.ChangeAt

/-- The first len cells of the row o hold the bytes zs. -/
def BytesIn (w : World) (o : Option Addr) (len : Nat) (zs : List Int) : Prop :=
  ∀ i, i < len → ∃ a, o = some a ∧ a.block < w.heap.size ∧ w.cell? (a.add i) = some (.int .u8 (zs.getD i 0)) ∧ 0 ≤ zs.getD i 0 ∧ zs.getD i 0 ≤ 255
theorem add_block (a : Addr) (i : Nat) : (a.add i).block = a.block := by
  unfold Addr.add
  split <;> rfl
theorem u8_wf {n : Int} (h : (Lit.int .u8 n).wf = true) : 0 ≤ n ∧ n ≤ 255 := by
  simpa [Lit.wf, IntKind.min, IntKind.max, IntKind.signed, IntKind.bits] using h
theorem bytes_open {H : Type} {enc : TypeId × Value → H} {P : Program} {W : World} {base : Nat} {t e : TypeId} {v : Value} {d : DataW H} {p : List MemPlace}
    (ht : P.underlying t = some (.slice e)) (he : P.underlying e = some (.int .u8)) (hc : P.cellsOf e = 1)
    (hval : Value.okWide P W .any base t v) (h0 : DataW.Trod enc P W 0 (fun _ => true) true t v d p) (hlt : ∀ x ∈ p, x.block < W.heap.size) :
    ∃ o len cap zs, v = .slice o len cap ∧ BytesIn W o len zs ∧ len ≤ maxLen := by
  obtain ⟨o, len, cap, rfl⟩ := okWide_slice ht hval
  obtain ⟨fuel, hf⟩ := h0
  rcases open_ints ht he hc hf with ⟨hcs, hx⟩ | ⟨a, len', cap', zs, hcs, _, hl, hm, hz, hx, hcell, hwz⟩
  · simp [Value.cells] at hcs
    obtain ⟨rfl, rfl, rfl⟩ := hcs
    exact ⟨_, _, _, [], rfl, fun i hi => absurd hi (by omega), by simp⟩
  · simp [Value.cells] at hcs
    obtain ⟨rfl, rfl, rfl⟩ := hcs
    simp only [Prod.mk.injEq] at hx
    obtain ⟨rfl, rfl⟩ := hx
    simp only [if_true] at hz
    refine ⟨_, _, _, zs, rfl, fun i hi => ⟨a, rfl, ?_, hcell i (by omega), ?_⟩, by omega⟩
    · obtain ⟨b, off, spot⟩ := a
      exact hlt (.cell b off) (MemPlace.mem_row.2 ⟨0, by omega, by simp⟩)
    · have hi' : i < zs.length := by omega
      rw [List.getD_eq_getElem?_getD, List.getElem?_eq_getElem hi', Option.getD_some]
      exact u8_wf (hwz _ (List.getElem_mem hi'))
end Go.Rv
