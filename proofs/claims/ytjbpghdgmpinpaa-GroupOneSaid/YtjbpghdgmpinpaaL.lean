/- Plain laws, over any program: a slice whose elements are of some cells each, at whatever place of its row: append, its cells. -/
import Derived.Test.YtjbpghdgmpinpaaS
import Derived.Deep.AppendSrc
import Derived.Laws.OwnMore
import Derived.Deep.RegionLaw
namespace Go.Rv
open Go.RowKit

/-- e is the type of the elements of the slices t: sz cells each, of which enc tells what they hold. -/
structure ElTy {α : Type} (P : Program) (t e : TypeId) (sz bt : Nat) (z : Value) (enc : α → List Value) : Prop where
  t_ : P.underlying t = some (.slice e)
  info : (P.info? e).map (fun i => (i.zero, i.size, i.bytes)) = some (some z, sz, bt)
  zc : z.cells.size = sz
  pos : 0 < sz
  len : ∀ a, (enc a).length = sz
  one : ∀ a, ∀ u ∈ enc a, u.oneCell' = true

/-- The slice v, of the call's own, holds l. -/
def RowAt {α : Type} (e : TypeId) (sz : Nat) (enc : α → List Value) (B0 : Nat) (v : Value) (l : List α) (w : World) : Prop :=
  (v = .slice none 0 0 ∧ l = []) ∨
  ∃ g off cap cur, v = .slice (some ⟨g, off, none⟩) l.length cap ∧ B0 ≤ g ∧ w.heap[g]? = some (.cells cur e (0, 0)) ∧ l.length ≤ cap ∧ cap ≤ maxLen ∧ off + cap * sz ≤ cur.size ∧ (cur.toList.drop off).take (l.length * sz) = l.flatMap enc
/-- The block in which a slice lies. -/
def rowBlock : Value → Nat → Prop
  | .slice (some a) _ _, k => k = a.block
  | _, _ => False

section
variable {α : Type} {P : Program} {t e : TypeId} {sz bt B0 : Nat} {z : Value} {enc : α → List Value} {v : Value} {l : List α} {w w' : World}

theorem flat_len (h : ∀ a, (enc a).length = sz) (l : List α) : (l.flatMap enc).length = l.length * sz := by
  induction l with
  | nil => simp
  | cons a l ih => rw [List.flatMap_cons, List.length_append, h, ih, List.length_cons, Nat.add_mul]; omega
theorem flat_at (h : ∀ a, (enc a).length = sz) {l : List α} {i j : Nat} {a : α} {u : Value} (hi : l[i]? = some a) (hj : (enc a)[j]? = some u) : (l.flatMap enc)[i * sz + j]? = some u := by
  induction l generalizing i with
  | nil => cases hi
  | cons b l ih =>
    cases i with
    | zero =>
      simp at hi
      subst hi
      have hlt := (List.getElem?_eq_some_iff.1 hj).1
      rw [List.flatMap_cons, Nat.zero_mul, Nat.zero_add, List.getElem?_append_left hlt]
      exact hj
    | succ i =>
      rw [List.getElem?_cons_succ] at hi
      rw [List.flatMap_cons, List.getElem?_append_right (by rw [h, Nat.add_mul]; omega), h, show (i + 1) * sz + j - sz = i * sz + j by rw [Nat.add_mul]; omega]
      exact ih hi
theorem rowAt_nil (e : TypeId) (sz : Nat) (enc : α → List Value) (B0 : Nat) (w : World) : RowAt e sz enc B0 (.slice none 0 0) [] w := .inl ⟨rfl, rfl⟩
theorem RowAt.same (h : RowAt e sz enc B0 v l w) (hs : ∀ k, rowBlock v k → w'.heap[k]? = w.heap[k]?) : RowAt e sz enc B0 v l w' := by
  rcases h with h | ⟨g, off, cap, cur, rfl, hb, hg, r⟩
  · exact .inl h
  · exact .inr ⟨g, off, cap, cur, rfl, hb, (hs g rfl).trans hg, r⟩
theorem RowAt.lt (h : RowAt e sz enc B0 v l w) {k : Nat} (hk : rowBlock v k) : B0 ≤ k ∧ k < w.heap.size := by
  rcases h with ⟨rfl, _⟩ | ⟨g, off, cap, cur, rfl, hb, hg, _⟩
  · exact hk.elim
  · have : k = g := hk
    subst this
    exact ⟨hb, hp_lt hg⟩
theorem RowAt.obj (h : RowAt e sz enc B0 v l w) {k : Nat} (hk : rowBlock v k) : ∃ cur, w.heap[k]? = some (.cells cur e (0, 0)) := by
  rcases h with ⟨rfl, _⟩ | ⟨g, off, cap, cur, rfl, hb, hg, _⟩
  · exact hk.elim
  · have : k = g := hk
    subst this
    exact ⟨cur, hg⟩
theorem RowAt.keep {S : Nat → Prop} (h : RowAt e sz enc B0 v l w) (hu : Upd S w w') (hn : ∀ k, rowBlock v k → ¬ S k) : RowAt e sz enc B0 v l w' :=
  h.same fun k hk => hu.block k (h.lt hk).2 (hn k hk)
theorem RowAt.below (h : RowAt e sz enc B0 v l w) (hb : Below w.heap.size w w') : RowAt e sz enc B0 v l w' := h.same fun _ hk => hb.block _ (h.lt hk).2
theorem RowAt.alloc (h : RowAt e sz enc B0 v l w) (o : Obj) : RowAt e sz enc B0 v l (w.alloc o) := h.same fun _ hk => Below.heap_alloc _ _ _ (h.lt hk).2
theorem RowAt.drewN (h : RowAt e sz enc B0 v l w) (n : Nat) : RowAt e sz enc B0 v l (w.drewN n) := h
theorem RowAt.mono {B1 : Nat} (h : RowAt e sz enc B0 v l w) (hB : B1 ≤ B0) : RowAt e sz enc B1 v l w := by
  rcases h with h | ⟨g, off, cap, cur, hv, hb, r⟩
  · exact .inl h
  · exact .inr ⟨g, off, cap, cur, hv, Nat.le_trans hB hb, r⟩
/-- What a slice value is. -/
theorem RowAt.shape (h : RowAt e sz enc B0 v l w) : (v = .slice none 0 0 ∧ l = []) ∨ ∃ g off cap, v = .slice (some ⟨g, off, none⟩) l.length cap ∧ B0 ≤ g ∧ g < w.heap.size ∧ l.length ≤ cap ∧ cap ≤ maxLen := by
  rcases h with h | ⟨g, off, cap, cur, hv, hb, hg, h1, h2, _⟩
  · exact .inl h
  · exact .inr ⟨g, off, cap, hv, hb, hp_lt hg, h1, h2⟩
theorem RowAt.isSlice (h : RowAt e sz enc B0 v l w) : ∃ b n c, v = .slice b n c := by
  rcases h with ⟨h, _⟩ | ⟨g, off, cap, cur, hv, _⟩
  · exact ⟨_, _, _, h⟩
  · exact ⟨_, _, _, hv⟩
theorem RowAt.not_below (h : RowAt e sz enc B0 v l w) {k : Nat} (hk : k < B0) : ¬ rowBlock v k := fun hr => by have := (h.lt hr).1; omega
theorem RowAt.cell (hl : ∀ a, (enc a).length = sz) {g off n cap : Nat} (h : RowAt e sz enc B0 (.slice (some ⟨g, off, none⟩) n cap) l w) {i j : Nat} {a : α} {u : Value} (hi : l[i]? = some a) (hj : (enc a)[j]? = some u) :
    w.cell? ⟨g, off + i * sz + j, none⟩ = some u := by
  rcases h with ⟨h, _⟩ | ⟨g', off', cap', cur, hv, hb, hg, h1, h2, h3, h4⟩
  · cases h
  · simp only [Value.slice.injEq, Option.some.injEq, Addr.mk.injEq, and_true] at hv
    obtain ⟨⟨rfl, rfl⟩, rfl, rfl⟩ := hv
    have h5 := flat_at hl hi hj
    rw [← h4, List.getElem?_take] at h5
    split at h5
    · rw [List.getElem?_drop] at h5
      rw [hp_cell hg]
      rw [Nat.add_assoc]
      simpa using h5
    · cases h5
theorem RowAt.frozen {g off n cap : Nat} (h : RowAt e sz enc B0 (.slice (some ⟨g, off, none⟩) n cap) l w) (i : Nat) : w.frozen? ⟨g, i, none⟩ = false := by
  obtain ⟨cur, hc⟩ := h.obj (k := g) rfl
  exact hp_frozen hc i

/-- Append, there being room, at whatever place of the row. -/
theorem run_append_off (w : World) (t tx ty e : TypeId) (i : TypeInfo) (ht : P.underlying t = some (.slice e)) (hi : P.info? e = some i) (g off sLen sCap : Nat) (cur : Array Value) (hg : w.heap[g]? = some (.cells cur e (0, 0)))
    (x : Value) (n : Nat) (news : List Value) (hs : Src P i.size tx x n news w) (hroom : sLen + n ≤ sCap) (hfit : off + sLen * i.size + news.length ≤ cur.size) :
    (Builtin.append_ #[t, tx] ty #[.slice (some ⟨g, off, none⟩) sLen sCap, x]).run P w =
      .ok (.slice (some ⟨g, off, none⟩) (sLen + n) sCap) (w.setRow g (cur.toList.take (off + sLen * i.size) ++ news ++ cur.toList.drop (off + sLen * i.size + news.length)).toArray) := by
  have hst := run_storeCells_at P g (off + sLen * i.size) e news 0 cur w hg (by simpa using hfit) hs.one
  simp only [Nat.add_zero] at hst
  rcases hs.kind with ⟨e', hk⟩ | hk <;> simp [Builtin.append_, run_underlying ht, run_underlying hk, sizeOf, typeInfo, hi, hs.len, hroom, hs.cells, Addr.add_lit, hst]

theorem run_appR (T : ElTy P t e sz bt z enc) (ty tx : TypeId) (h : RowAt e sz enc B0 v l w) (x : Value) (m : List α) (hs : Src P sz tx x m.length (m.flatMap enc) w)
    (h63 : l.length + m.length ≤ maxLen) (hbytes : (l.length + m.length) * bt ≤ 140737488355328) (hbase : B0 ≤ w.heap.size) :
    ∃ v' w', (Builtin.append_ #[t, tx] ty #[v, x]).run P w = .ok v' w' ∧ RowAt e sz enc B0 v' (l ++ m) w' ∧ Upd (rowBlock v) w w' ∧ (∀ k, rowBlock v' k → rowBlock v k ∨ w.heap.size ≤ k) ∧ (v' = .slice none 0 0 → l ++ m = []) := by
  obtain ⟨i, hi, hz, hsz, hby⟩ : ∃ i, P.info? e = some i ∧ i.zero = some z ∧ i.size = sz ∧ i.bytes = bt := by
    have h0 := T.info
    cases h1 : P.info? e with
    | none => rw [h1] at h0; cases h0
    | some i =>
      rw [h1] at h0
      simp only [Option.map_some, Option.some.injEq, Prod.mk.injEq] at h0
      exact ⟨i, rfl, h0.1, h0.2.1, h0.2.2⟩
  subst hsz
  subst hby
  have hsmall : l.length + m.length ≤ 9223372036854775807 := by simp only [maxLen] at h63; omega
  have hfl := flat_len T.len l
  have hfm := flat_len T.len m
  have hlen : ((l ++ m).flatMap enc).length = (l.length + m.length) * i.size := by rw [flat_len T.len, List.length_append]
  -- a new row
  have grown : ∀ (old : Nat), old < l.length + m.length →
      RowAt e i.size enc B0 (.slice (some ⟨w.heap.size, 0, none⟩) (l.length + m.length) (grownCap w (l.length + m.length) old e)) (l ++ m)
        (w.drew.alloc (.cells ((l.flatMap enc ++ m.flatMap enc).toArray ++ Builtin.zeroCells z.cells (grownCap w (l.length + m.length) old e - (l.length + m.length))) e)) ∧
      Upd (rowBlock v) w (w.drew.alloc (.cells ((l.flatMap enc ++ m.flatMap enc).toArray ++ Builtin.zeroCells z.cells (grownCap w (l.length + m.length) old e - (l.length + m.length))) e)) := by
    intro old _
    have hge := grownCap_ge w (l.length + m.length) old e
    have hcm : grownCap w (l.length + m.length) old e ≤ maxLen := grownCap_le_maxLen w (l.length + m.length) old e h63
    refine ⟨.inr ⟨w.heap.size, 0, _, _, by rw [List.length_append], hbase, heap_alloc_new w.drew _, by rw [List.length_append]; exact hge, hcm, ?_, ?_⟩, ((Upd.refl _ w).drew).alloc _⟩
    · simp only [Array.size_append, List.size_toArray, List.length_append, size_zeroCells, T.zc, hfl, hfm, Nat.zero_add]
      rw [← Nat.add_mul, ← Nat.add_mul]
      exact Nat.mul_le_mul_right _ (by omega)
    · simp only [List.drop_zero, Array.toList_append]
      rw [← List.flatMap_append, List.length_append, ← hlen]
      exact List.take_left
  rcases h with ⟨rfl, rfl⟩ | ⟨g, off, cap, cur, rfl, hbg, hg, hnc, hcm, hcs, htake⟩
  · by_cases hm : m = []
    · subst hm
      refine ⟨.slice none 0 0, w, ?_, rowAt_nil _ _ _ _ _, Upd.refl _ _, fun k hk => hk.elim, fun _ => rfl⟩
      have hc : (Builtin.firstCells i.size 0 x).run P w = .ok #[] w := hs.cells
      rcases hs.kind with ⟨e', hk⟩ | hk <;>
        simp [Builtin.append_, run_underlying T.t_, run_underlying hk, sizeOf, typeInfo, hi, hs.len, hc]
    · have hm0 : 0 < m.length := List.length_pos_iff.2 hm
      have hold : (Builtin.firstCells i.size 0 (.slice none 0 0)).run P w.drew = .ok ([] : List Value).toArray w.drew := run_firstCells_none w.drew i.size 0 0 0
      have hr := run_append_grow_src (P := P) w t tx ty e i z T.t_ hi hz none 0 0 [] hold x m.length (m.flatMap enc) hs (by omega) (by simp only [List.length_nil] at hsmall; omega) (growslice_fits (by omega) (by simpa using hbytes))
      have hgr := grown 0 (by simpa using hm0)
      simp only [List.length_nil, Nat.zero_add, List.flatMap_nil, List.nil_append] at hgr hr ⊢
      exact ⟨_, _, hr, hgr.1, hgr.2, fun k hk => .inr (Nat.le_of_eq (Eq.symm hk)), fun e => by cases e⟩
  · by_cases hroom : l.length + m.length ≤ cap
    · have hfit : off + l.length * i.size + (m.flatMap enc).length ≤ cur.size := by
        rw [hfm, Nat.add_assoc, ← Nat.add_mul]
        exact Nat.le_trans (Nat.add_le_add_left (Nat.mul_le_mul_right _ hroom) _) hcs
      have hr := run_append_off (P := P) w t tx ty e i T.t_ hi g off l.length cap cur hg x m.length (m.flatMap enc) hs hroom hfit
      refine ⟨_, _, hr, .inr ⟨g, off, cap, _, by rw [List.length_append], hbg, setRow_heap w g cur _ e _ hg, by rw [List.length_append]; exact hroom, hcm, ?_, ?_⟩, ⟨rfl, rfl, rfl, by simp, fun k _ hk => setRow_other w g k _ (fun e => hk (by rw [e]; rfl))⟩, fun k hk => .inl hk, fun e => by cases e⟩
      · have hcl : cur.toList.length = cur.size := Array.length_toList
        simp only [List.size_toArray, List.length_append, List.length_take, List.length_drop, hcl]
        omega
      · have hcl : cur.toList.length = cur.size := Array.length_toList
        have hmul := Nat.mul_le_mul_right i.size hnc
        have hoff : off + l.length * i.size ≤ cur.toList.length := by omega
        have e1 : cur.toList.take (off + l.length * i.size) = cur.toList.take off ++ l.flatMap enc := by
          rw [List.take_add, htake]
        have e2 : (cur.toList.take off).length = off := by rw [List.length_take]; omega
        rw [e1, List.flatMap_append, List.length_append, Nat.add_mul, ← hfl, ← hfm]
        simp only [List.append_assoc]
        rw [List.drop_append_of_le_length (by omega), List.drop_of_length_le (by omega), List.nil_append, ← List.append_assoc, ← List.length_append]
        exact List.take_left
    · have holds : ∀ j u, (l.flatMap enc)[j]? = some u → w.cell? ((⟨g, off, none⟩ : Addr).add j) = some u := by
        intro j u hu
        have hadd : (⟨g, off, none⟩ : Addr).add j = ⟨g, off + j, none⟩ := by unfold Addr.add; split <;> simp_all
        rw [hadd, hp_cell hg]
        rw [← htake, List.getElem?_take] at hu
        split at hu
        · rw [List.getElem?_drop] at hu; simpa using hu
        · cases hu
      have hold := run_firstCells_some (P := P) w.drew i.size l.length ⟨g, off, none⟩ l.length cap (l.flatMap enc) hfl (by simpa using holds)
      have hr := run_append_grow_src (P := P) w t tx ty e i z T.t_ hi hz (some ⟨g, off, none⟩) l.length cap (l.flatMap enc) hold x m.length (m.flatMap enc) hs (by omega) (by omega) (growslice_fits (by omega) hbytes)
      have hgr := grown cap (by omega)
      exact ⟨_, _, hr, hgr.1, hgr.2, fun k hk => .inr (Nat.le_of_eq (Eq.symm hk)), fun e => by cases e⟩

/-- A new block that holds one element: what a literal slice of one is. -/
theorem src_one (w : World) (T : ElTy P t e sz bt z enc) (x : α) (o : Array Value) (te : TypeId) (ho : o.toList = enc x) :
    Src P sz t (.slice (some ⟨w.heap.size, 0, none⟩) 1 1) [x].length ([x].flatMap enc) (w.alloc (.cells o te)) :=
  Src.ofSlice _ T.t_ ⟨w.heap.size, 0, none⟩ 1 1 _ (by simp [T.len]) (fun j u hu => by
    have hadd : (⟨w.heap.size, 0, none⟩ : Addr).add j = ⟨w.heap.size, j, none⟩ := by unfold Addr.add; split <;> simp_all
    rw [hadd, hp_cell (hp_at _ rfl)]
    simp only [List.flatMap_cons, List.flatMap_nil, List.append_nil, ← ho] at hu
    simpa using hu) fun u hu => by
    obtain ⟨y, _, hy⟩ := List.mem_flatMap.1 hu
    exact T.one y u hy
section arms
variable {F : Fence} {nF : Nat} {ops : Array Oper} {rest : List Oper} {o : Oper} {a : Act} {Q : Exit → Act → World → Prop} {K : Act → World → Prop} {E : Prop}
theorem src_of (w : World) (T : ElTy P t e sz bt z enc) (ad : Addr) (c : Nat) (news : List α) (hnews : ∀ j u, (news.flatMap enc)[j]? = some u → w.cell? (ad.add j) = some u) :
    Src P sz t (.slice (some ad) news.length c) news.length (news.flatMap enc) w :=
  Src.ofSlice w T.t_ ad news.length c _ (flat_len T.len news) hnews fun u hu => by
    obtain ⟨x, _, hx⟩ := List.mem_flatMap.1 hu
    exact T.one x u hx
theorem src_nil (w : World) (T : ElTy P t e sz bt z enc) : Src P sz t (.slice none 0 0) ([] : List α).length (([] : List α).flatMap enc) w := Src.ofNil w T.t_ 0
theorem wpList_appR (T : ElTy P t e sz bt z enc) (hgd : o.guard = none) (s x : Operand) (tx : TypeId) (ho : o.op = .call { callee := .builtin .append, args := #[s, x], argTypes := #[t, tx] }) (B0 : Nat) (v : Value) (l : List α) (hs : a.eval s = v)
    (h : RowAt e sz enc B0 v l w) (m : List α) (xv : Value) (hx : a.eval x = xv) (hsrc : Src P sz tx xv m.length (m.flatMap enc) w) (h63 : l.length + m.length ≤ maxLen) (hbytes : (l.length + m.length) * bt ≤ 140737488355328) (hbase : B0 ≤ w.heap.size)
    (hK : ∀ v' w', RowAt e sz enc B0 v' (l ++ m) w' → Upd (rowBlock v) w w' → Hid (∀ k, rowBlock v' k → rowBlock v k ∨ w.heap.size ≤ k) → wpList P ops Q rest (a.put o.dst v') w') : wpList P ops Q (o :: rest) a w := by
  refine wpList_plain hgd fun K' hK' => ?_
  obtain ⟨v', w', hrun, r1, r2, r3, _⟩ := run_appR T o.type tx h xv m hsrc h63 hbytes hbase
  unfold Oper.wp
  simp [execOp, ho, resolve, invoke, builtin, hs, hx, hrun, Result.andThen]
  exact hK' _ _ (hK v' w' r1 r2 (Lib.hid r3))
theorem wpListIn_appR (T : ElTy P t e sz bt z enc) (hgd : o.guard = none) (s x : Operand) (tx : TypeId) (ho : o.op = .call { callee := .builtin .append, args := #[s, x], argTypes := #[t, tx] }) (B0 : Nat) (v : Value) (l : List α) (hs : a.eval s = v)
    (h : RowAt e sz enc B0 v l w) (m : List α) (xv : Value) (hx : a.eval x = xv) (hsrc : Src P sz tx xv m.length (m.flatMap enc) w) (h63 : l.length + m.length ≤ maxLen) (hbytes : (l.length + m.length) * bt ≤ 140737488355328) (hbase : B0 ≤ w.heap.size)
    (hK : ∀ v' w', RowAt e sz enc B0 v' (l ++ m) w' → Upd (rowBlock v) w w' → Hid (∀ k, rowBlock v' k → rowBlock v k ∨ w.heap.size ≤ k) → wpListIn F nF P ops Q rest (a.put o.dst v') w') : wpListIn F nF P ops Q (o :: rest) a w := by
  refine wpListIn_plain hgd fun K' hK' => ?_
  obtain ⟨v', w', hrun, r1, r2, r3, _⟩ := run_appR T o.type tx h xv m hsrc h63 hbytes hbase
  unfold Oper.wpIn
  refine ⟨?_, ?_⟩
  · simp [Oper.about, ho, resolve, Target.leads, Sem.run_pure]
  · rw [Oper.semAt_plain F _ _ (by rw [ho]; intro c hc'; cases hc')]
    simp [execOp, ho, resolve, invoke, builtin, hs, hx, hrun, Result.andThen]
    exact hK' _ _ (hK v' w' r1 r2 (Lib.hid r3))
theorem step_appR (T : ElTy P t e sz bt z enc) (hgd : o.guard = none) (s x : Operand) (tx : TypeId) (ho : o.op = .call { callee := .builtin .append, args := #[s, x], argTypes := #[t, tx] }) (B0 : Nat) (v : Value) (l : List α) (hs : a.eval s = v)
    (h : RowAt e sz enc B0 v l w) (m : List α) (xv : Value) (hx : a.eval x = xv) (hsrc : Src P sz tx xv m.length (m.flatMap enc) w) (h63 : l.length + m.length ≤ maxLen) (hbytes : (l.length + m.length) * bt ≤ 140737488355328) (hbase : B0 ≤ w.heap.size)
    (hK : ∀ v' w', RowAt e sz enc B0 v' (l ++ m) w' → Upd (rowBlock v) w w' → Hid (∀ k, rowBlock v' k → rowBlock v k ∨ w.heap.size ≤ k) → K (a.put o.dst v') w') :
    if Region.wanted o (yielded ops a.tmps) = true then Oper.wp P o a w K Q else E := by
  have hw : Region.wanted o (yielded ops a.tmps) = true := by simp [Region.wanted, hgd]
  rw [if_pos hw]
  obtain ⟨v', w', hrun, r1, r2, r3, _⟩ := run_appR T o.type tx h xv m hsrc h63 hbytes hbase
  unfold Oper.wp
  simp [execOp, ho, resolve, invoke, builtin, hs, hx, hrun, Result.andThen]
  exact hK v' w' r1 r2 (Lib.hid r3)
/-- .. written out, so that they are met at such a call alone. -/
theorem wpList_apR {d : Option Tmp} {s x : Operand} {tx ty : TypeId} {ps : String} {af : Array Edge} (T : ElTy P t e sz bt z enc) (B0 : Nat) (v : Value) (l : List α)
    (h : RowAt e sz enc B0 v l w) (m : List α) (xv : Value) (hsrc : Src P sz tx xv m.length (m.flatMap enc) w) (hs : a.eval s = v) (hx : a.eval x = xv) (h63 : l.length + m.length ≤ maxLen) (hbytes : (l.length + m.length) * bt ≤ 140737488355328) (hbase : B0 ≤ w.heap.size)
    (hK : ∀ v' w', RowAt e sz enc B0 v' (l ++ m) w' → Upd (rowBlock v) w w' → Hid (∀ k, rowBlock v' k → rowBlock v k ∨ w.heap.size ≤ k) → wpList P ops Q rest (a.put d v') w') :
    wpList P ops Q ({ dst := d, op := Op.call { callee := .builtin .append, args := #[s, x], argTypes := #[t, tx] }, type := ty, pos := ps, after := af, guard := none } :: rest) a w :=
  wpList_appR T rfl s x tx rfl B0 v l hs h m xv hx hsrc h63 hbytes hbase hK
theorem wpListIn_apR {d : Option Tmp} {s x : Operand} {tx ty : TypeId} {ps : String} {af : Array Edge} (T : ElTy P t e sz bt z enc) (B0 : Nat) (v : Value) (l : List α)
    (h : RowAt e sz enc B0 v l w) (m : List α) (xv : Value) (hsrc : Src P sz tx xv m.length (m.flatMap enc) w) (hs : a.eval s = v) (hx : a.eval x = xv) (h63 : l.length + m.length ≤ maxLen) (hbytes : (l.length + m.length) * bt ≤ 140737488355328) (hbase : B0 ≤ w.heap.size)
    (hK : ∀ v' w', RowAt e sz enc B0 v' (l ++ m) w' → Upd (rowBlock v) w w' → Hid (∀ k, rowBlock v' k → rowBlock v k ∨ w.heap.size ≤ k) → wpListIn F nF P ops Q rest (a.put d v') w') :
    wpListIn F nF P ops Q ({ dst := d, op := Op.call { callee := .builtin .append, args := #[s, x], argTypes := #[t, tx] }, type := ty, pos := ps, after := af, guard := none } :: rest) a w :=
  wpListIn_appR T rfl s x tx rfl B0 v l hs h m xv hx hsrc h63 hbytes hbase hK
end arms
end
end Go.Rv
