/- Bytes that a call gathers in a slice of its own: append, and the text made of them. -/
import Derived.Test.YtgppdndpnflkeaaDoorS
import Derived.Laws.IdiomStrings
import Derived.Laws.OwnMore
import Derived.Deep.RegionLaw
namespace Go.Rv
open Go.RowKit

def u8s (l : List UInt8) : List Value := l.map fun b => Value.int .u8 (b.toNat : Int)
/-- The slice v, of the call's own, holds the bytes l. -/
def BytesAt (B0 : Nat) (e : TypeId) (v : Value) (l : List UInt8) (w : World) : Prop := w.ownsRow B0 e 1 v l.length (u8s l)

/-- What is asked of the types. -/
structure ByteTy (P : Program) (t e s : TypeId) : Prop where
  t_ : P.underlying t = some (.slice e)
  e_ : P.underlying e = some (.int .u8)
  s_ : P.underlying s = some .string
  info : (P.info? e).map (fun i => (i.zero, i.size, i.bytes)) = some (some (.int .u8 0), 1, 1)

section
variable {P : Program} {t e s : TypeId} {B0 : Nat} {v : Value} {l : List UInt8} {w w' : World}
theorem bytesAt_nil (B0 : Nat) (e : TypeId) (w : World) : BytesAt B0 e (.slice none 0 0) [] w := World.ownsRow_nil w B0 e 1
theorem BytesAt.alloc (h : BytesAt B0 e v l w) (o : Obj) : BytesAt B0 e v l (w.alloc o) := World.ownsRow.alloc h o
theorem BytesAt.drewN (h : BytesAt B0 e v l w) (n : Nat) : BytesAt B0 e v l (w.drewN n) := h
theorem BytesAt.heap (h : BytesAt B0 e v l w) (hh : ∀ k, k < w.heap.size → w'.heap[k]? = w.heap[k]?) : BytesAt B0 e v l w' := by
  obtain ⟨h1, h2⟩ := h
  refine ⟨h1, ?_⟩
  rcases h2 with h2 | ⟨g, cap, cur, hv, hg, hb, r⟩
  · exact .inl h2
  · exact .inr ⟨g, cap, cur, hv, hg, by rw [hh g (hp_lt hb)]; exact hb, r⟩
theorem BytesAt.below (h : BytesAt B0 e v l w) (hb : Below w.heap.size w w') : BytesAt B0 e v l w' := h.heap hb.block

/-- The cells of a block that was just made, as append reads them. -/
theorem cells_new (w : World) (cs : Array Value) (t : TypeId) (j : Nat) (u : Value) (h : cs[j]? = some u) : (w.alloc (.cells cs t)).cell? ((⟨w.heap.size, 0, none⟩ : Addr).add j) = some u := by
  have e : ((⟨w.heap.size, 0, none⟩ : Addr).add j) = ⟨w.heap.size, j, none⟩ := by
    unfold Addr.add
    split
    · rename_i h; subst h; rfl
    · simp
  rw [e, hp_cell (hp_alloc_new w _)]
  exact h
theorem run_text_of (T : ByteTy P t e s) (h : BytesAt B0 e v l w) : (convert t s v).run P w = .ok (.string (mkS l)) w := by
  obtain ⟨h1, h2⟩ := h
  rcases h2 with ⟨rfl, h0⟩ | ⟨g, cap, cur, rfl, hg, hb, h3, h4, h5, h6⟩
  · have hl : l = [] := List.eq_nil_of_length_eq_zero h0
    subst hl
    rw [run_convert_bytes_string w t s e none 0 0 T.t_ T.e_ T.s_]
    simp [Conv.bytesToString, mkS]
    rfl
  · refine run_convert_bytes_back w t s e ⟨g, 0, none⟩ cap l T.t_ T.e_ T.s_ fun j hj => ?_
    have hx := World.ownsRow.cells (v := .slice (some ⟨g, 0, none⟩) l.length cap) ⟨h1, .inr ⟨g, cap, cur, rfl, hg, hb, h3, h4, h5, h6⟩⟩ (g := g) rfl j (.int .u8 (l[j].toNat : Int))
      (by simp [u8s, List.getElem?_eq_getElem hj])
    exact hx

theorem wpList_app (T : ByteTy P t e s) {ops : Array Oper} {rest : List Oper} {o : Oper} {a : Act} {Q : Exit → Act → World → Prop} (hgd : o.guard = none) (x y : Operand)
    (ho : o.op = .call { callee := .builtin .append, args := #[x, y], argTypes := #[t, t] }) (B0 : Nat) (v : Value) (l : List UInt8) (hs : a.eval x = v) (hown : BytesAt B0 e v l w)
    (ad : Addr) (m c : Nat) (news : List UInt8) (hx : a.eval y = .slice (some ad) m c) (hm : news.length = m)
    (hnews : ∀ j u, (u8s news)[j]? = some u → w.cell? (ad.add j) = some u) (hlen : l.length + m ≤ 140737488355328) (hbase : B0 ≤ w.heap.size)
    (h : ∀ v' w', BytesAt B0 e v' (l ++ news) w' → Below B0 w w' → wpList P ops Q rest (a.put o.dst v') w') : wpList P ops Q (o :: rest) a w := by
  obtain ⟨i, hi, hz, hsz, hby⟩ : ∃ i, P.info? e = some i ∧ i.zero = some (.int .u8 0) ∧ i.size = 1 ∧ i.bytes = 1 := by
    have h0 := T.info
    cases h1 : P.info? e with
    | none => rw [h1] at h0; cases h0
    | some i =>
      rw [h1] at h0
      simp only [Option.map_some, Option.some.injEq, Prod.mk.injEq] at h0
      exact ⟨i, rfl, h0.1, h0.2.1, h0.2.2⟩
  refine wpList_append_own w hgd x y t ho B0 e i (.int .u8 0) 1 1 T.t_ hi hz hsz hby rfl (by decide) v l.length (u8s l) hs hown ad m c (u8s news) hx (by simp [u8s, hm]) hnews ?_ ?_ (by omega) hbase
    fun v' w' h2 h3 _ => h v' w' ?_ ?_
  · intro u hu
    obtain ⟨b, _, rfl⟩ := List.mem_map.1 hu
    rfl
  · unfold maxLen; omega
  · unfold BytesAt
    rw [List.length_append, hm]
    simpa [u8s] using h2
  · exact (Below.refl B0 w).grown h3 hbase fun k hk => (World.ownsRow.lt hown k hk).1
/-- The same as one step of a region that draws its order. -/
theorem step_app (T : ByteTy P t e s) {ops : Array Oper} {o : Oper} {a : Act} {K : Act → World → Prop} {Q : Exit → Act → World → Prop} {E : Prop} (hgd : o.guard = none) (x y : Operand)
    (ho : o.op = .call { callee := .builtin .append, args := #[x, y], argTypes := #[t, t] }) (B0 : Nat) (v : Value) (l : List UInt8) (hs : a.eval x = v) (hown : BytesAt B0 e v l w)
    (ad : Addr) (m c : Nat) (news : List UInt8) (hx : a.eval y = .slice (some ad) m c) (hm : news.length = m)
    (hnews : ∀ j u, (u8s news)[j]? = some u → w.cell? (ad.add j) = some u) (hlen : l.length + m ≤ 140737488355328) (hbase : B0 ≤ w.heap.size)
    (h : ∀ v' w', BytesAt B0 e v' (l ++ news) w' → Below B0 w w' → K (a.put o.dst v') w') :
    if Region.wanted o (yielded ops a.tmps) = true then Oper.wp P o a w K Q else E := by
  have hw : Region.wanted o (yielded ops a.tmps) = true := by simp [Region.wanted, hgd]
  rw [if_pos hw]
  obtain ⟨i, hi, hz, hsz, hby⟩ : ∃ i, P.info? e = some i ∧ i.zero = some (.int .u8 0) ∧ i.size = 1 ∧ i.bytes = 1 := by
    have h0 := T.info
    cases h1 : P.info? e with
    | none => rw [h1] at h0; cases h0
    | some i =>
      rw [h1] at h0
      simp only [Option.map_some, Option.some.injEq, Prod.mk.injEq] at h0
      exact ⟨i, rfl, h0.1, h0.2.1, h0.2.2⟩
  refine wp_append_own w x y t ho B0 e i (.int .u8 0) 1 1 T.t_ hi hz hsz hby rfl (by decide) v l.length (u8s l) hs hown ad m c (u8s news) hx (by simp [u8s, hm]) hnews ?_ ?_ (by omega) hbase
    fun v' w' h2 h3 _ => h v' w' ?_ ?_
  · intro u hu
    obtain ⟨b, _, rfl⟩ := List.mem_map.1 hu
    rfl
  · unfold maxLen; omega
  · unfold BytesAt
    rw [List.length_append, hm]
    simpa [u8s] using h2
  · exact (Below.refl B0 w).grown h3 hbase fun k hk => (World.ownsRow.lt hown k hk).1
end
end Go.Rv
