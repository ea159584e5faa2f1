/- Plain laws, over any program: ranging over a map. -/
import Derived.Test.YtjbpghdgmpinpaaR
import Derived.Maps.RangeWalk
namespace Go.Rv
open Go.RowKit Go.Maps Go.MapKept
open Go.ChangeMaps (setBlock heap_setBlock_same heap_setBlock_other)

section
variable {P : Program} {K V : Type} {kt : TypeId} {ek : K → Value} {ev : V → Value} {w w' : World} {b r : Nat} {vs rest : List (K × V)}

/-- Block r is an iterator over the map in block b: of its entries it has handed out vs, and rest is still to come. -/
def MIter (P : Program) (kt : TypeId) (ek : K → Value) (ev : V → Value) (w : World) (b r : Nat) (vs rest : List (K × V)) : Prop :=
  ∃ es clock since seen c0, w.heap[b]? = some (.map es clock) ∧ w.heap[r]? = some (.mapIter (some b) since seen c0) ∧ Stamped es clock ∧ (∀ x ∈ es.toList, x.born < since) ∧ since ≤ c0 ∧ since ≤ clock ∧
    ∃ E1 E2 : List MapEntry, es.toList.Perm (E1 ++ E2) ∧ E1.map (fun e => (e.key, e.val)) = vs.map (fun p => (ek p.1, ev p.2)) ∧ E2.map (fun e => (e.key, e.val)) = rest.map (fun p => (ek p.1, ev p.2)) ∧
      (∀ e ∈ E1, seen.contains e.born = true) ∧ (∀ e ∈ E2, seen.contains e.born = false) ∧ (∀ p ∈ vs ++ rest, ∃ l, keyOf P kt (ek p.1) = some l)

theorem MIter.iter (h : MIter P kt ek ev w b r vs rest) : ∃ o, w.heap[r]? = some o ∧ isBook o = true := by
  obtain ⟨es, clock, since, seen, c0, hb, hr, _⟩ := h
  exact ⟨_, hr, rfl⟩
theorem MIter.lt_r (h : MIter P kt ek ev w b r vs rest) : r < w.heap.size := by obtain ⟨o, ho, _⟩ := h.iter; exact hp_lt ho
theorem MIter.lt_b (h : MIter P kt ek ev w b r vs rest) : b < w.heap.size := by obtain ⟨es, clock, since, seen, c0, hb, hr, _⟩ := h; exact hp_lt hb
theorem MIter.same (h : MIter P kt ek ev w b r vs rest) (h1 : ∀ o, w.heap[b]? = some o → w'.heap[b]? = some o) (h2 : ∀ o, w.heap[r]? = some o → w'.heap[r]? = some o) : MIter P kt ek ev w' b r vs rest := by
  obtain ⟨es, clock, since, seen, c0, hb, hr, x⟩ := h
  exact ⟨es, clock, since, seen, c0, h1 _ hb, h2 _ hr, x⟩
theorem MIter.fix {O : Nat → Prop} {B0 : Nat} (h : MIter P kt ek ev w b r vs rest) (hf : Fix O B0 w w') (hO : O b) (hr : B0 ≤ r) : MIter P kt ek ev w' b r vs rest := by
  obtain ⟨es, clock, since, seen, c0, hb, hri, x⟩ := h
  exact ⟨es, clock, since, seen, c0, hf.own _ _ hO hb, hf.book _ _ hr hri rfl, x⟩

theorem mem_leftOf {es : Array MapEntry} {seen : Array Nat} {e : MapEntry} : e ∈ (leftOf es seen).toList ↔ e ∈ es.toList ∧ seen.contains e.born = false := by
  unfold leftOf
  rw [Array.toList_filter, List.mem_filter]
  simp

theorem MIter.left (h : MIter P kt ek ev w b r vs rest) : w.rangeLeft b r = rest.length := by
  obtain ⟨es, clock, since, seen, c0, hb, hr, hs, hlt, hle, hle2, E1, E2, hp, h1, h2, hs1, hs2, hk⟩ := h
  have e1 : (leftOf es seen).toList = es.toList.filter (fun e => !seen.contains e.born) := by unfold leftOf; rw [Array.toList_filter]
  have e2 : (es.toList.filter (fun e => !seen.contains e.born)).Perm ((E1 ++ E2).filter (fun e => !seen.contains e.born)) := hp.filter _
  have e3 : (E1 ++ E2).filter (fun e => !seen.contains e.born) = E2 := by
    rw [List.filter_append]
    have f1 : E1.filter (fun e => !seen.contains e.born) = [] := by
      rw [List.filter_eq_nil_iff]; intro e he; simp only [hs1 e he]; simp
    have f2 : E2.filter (fun e => !seen.contains e.born) = E2 := by
      rw [List.filter_eq_self]; intro e he; simp only [hs2 e he]; simp
    rw [f1, f2]; rfl
  have e4 : E2.length = rest.length := by have := congrArg List.length h2; simpa using this
  have : (leftOf es seen).size = rest.length := by
    rw [← Array.length_toList, e1, e2.length_eq, e3, e4]
  unfold World.rangeLeft
  simp only [hb, hr]
  exact this

theorem run_range_map {t et : TypeId} {m : List (K × V)} (h : MapAt P kt ek ev w b m) (ht : P.underlying t = some (.map kt et)) :
    ∃ w', (Instr.range t (.map (some b))).run P w = .ok (.pointer (some ⟨w.heap.size, 0, none⟩)) w' ∧ MIter P kt ek ev w' b w.heap.size [] m ∧ (∃ o, w' = w.alloc o) := by
  obtain ⟨es, clock, hb, hs, hm, hk⟩ := h
  refine ⟨w.alloc (.mapIter (some b) clock #[] clock), ?_, ⟨es, clock, clock, #[], clock, hp_alloc_old _ hb, hp_alloc_new _ _, hs, hs.1, Nat.le_refl _, Nat.le_refl _, [], es.toList, by simp, rfl, hm, by simp, by simp, by simpa using hk⟩, ⟨_, rfl⟩⟩
  simp only [Instr.range, Sem.run_bind, run_underlying ht, Result.andThen, MapKept.run_getObj_map hb, Sem.run_pure, run_newObj_alloc]

/-- ONE STEP: all have come; or one that was still to come is handed out. -/
theorem MIter.next (h : MIter P kt ek ev w b r vs rest) (ty : TypeId) :
    (rest = [] ∧ (Instr.next (.pointer (some ⟨r, 0, none⟩)) false ty).run P w = .ok (.tuple #[.bool false]) w) ∨
    ∃ k v rest' w', rest.Perm ((k, v) :: rest') ∧ (Instr.next (.pointer (some ⟨r, 0, none⟩)) false ty).run P w = .ok (.tuple #[.bool true, ek k, ev v]) w' ∧ MIter P kt ek ev w' b r (vs ++ [(k, v)]) rest' ∧
      (Instr.entry (.pointer (some ⟨r, 0, none⟩))).run P w' = .ok (.tuple #[ek k, ev v]) w' ∧ w.grownBy w' (some r) ∧ w'.heap.size = w.heap.size := by
  obtain ⟨es, clock, since, seen, c0, hb, hr, hs, hlt, hle, hle2, E1, E2, hp, h1, h2, hs1, hs2, hk⟩ := h
  rcases run_next_at (P := P) w ty r b since c0 seen es clock hr hb hlt hle with ⟨hz, hrun⟩ | ⟨e, he, w1, hw1, hrun⟩
  · refine .inl ⟨?_, hrun⟩
    have : ∀ e ∈ E2, False := fun e he => by
      have : e ∈ (leftOf es seen).toList := mem_leftOf.2 ⟨hp.mem_iff.2 (List.mem_append_right _ he), hs2 e he⟩
      have hz' : (leftOf es seen).toList = [] := by rw [← List.length_eq_zero_iff]; simpa using hz
      rw [hz'] at this; cases this
    have hE : E2 = [] := List.eq_nil_iff_forall_not_mem.2 this
    rw [hE] at h2
    simpa using h2.symm
  · obtain ⟨hmem, hns⟩ := mem_leftOf.1 he
    have heE2 : e ∈ E2 := by
      rcases List.mem_append.1 (hp.mem_iff.1 hmem) with h | h
      · rw [hs1 e h] at hns; cases hns
      · exact h
    obtain ⟨A, B, hAB⟩ := List.append_of_mem heE2
    have hE2 : E2.Perm (e :: (A ++ B)) := by rw [hAB]; exact List.perm_middle
    -- the pairs that go with A, e, B
    have hlen : rest.length = E2.length := by have := congrArg List.length h2; simpa using this.symm
    have hrest : rest = rest.take A.length ++ rest.drop A.length := (List.take_append_drop _ _).symm
    have hA : A.map (fun e => (e.key, e.val)) = (rest.take A.length).map (fun p => (ek p.1, ev p.2)) := by
      have := congrArg (List.take A.length) h2
      rw [hAB, List.map_append, List.take_left' (by simp), ← List.map_take] at this
      exact this
    have hB : (e :: B).map (fun e => (e.key, e.val)) = (rest.drop A.length).map (fun p => (ek p.1, ev p.2)) := by
      have := congrArg (List.drop A.length) h2
      rw [hAB, List.map_append, List.drop_left' (by simp), ← List.map_drop] at this
      exact this
    cases hd : rest.drop A.length with
    | nil => rw [hd] at hB; simp at hB
    | cons p rest2 =>
      rw [hd] at hB
      simp only [List.map_cons, List.cons.injEq, Prod.mk.injEq] at hB
      obtain ⟨⟨e1, e2⟩, hB2⟩ := hB
      have hr1 : w1.heap[r]? = some (.mapIter (some b) since seen c0) := by rcases hw1 with rfl | rfl <;> exact hr
      have hb1 : w1.heap[b]? = some (.map es clock) := by rcases hw1 with rfl | rfl <;> exact hb
      have hne : b ≠ r := fun e => by rw [e, hr1] at hb1; cases hb1
      have hrlt := hp_lt hr1
      have hrn : (setBlock w1 r (.mapIter (some b) since (seen.push e.born) clock)).heap[r]? = some (.mapIter (some b) since (seen.push e.born) clock) := by
        simp [setBlock, hrlt]
      have hro : ∀ i, i ≠ r → (setBlock w1 r (.mapIter (some b) since (seen.push e.born) clock)).heap[i]? = w1.heap[i]? := fun i hi => by
        simp [setBlock, Ne.symm hi]
      have hbn : (setBlock w1 r (.mapIter (some b) since (seen.push e.born) clock)).heap[b]? = some (.map es clock) := (hro b hne).trans hb1
      refine .inr ⟨p.1, p.2, rest.take A.length ++ rest2, _, ?_, by rw [hrun, e1, e2], ⟨es, clock, since, seen.push e.born, clock, hbn, hrn, hs, hlt, hle2, hle2, E1 ++ [e], A ++ B, ?_, ?_, ?_, ?_, ?_, ?_⟩, ?_, ?_, ?_⟩
      · exact (List.Perm.of_eq (by rw [← hd]; exact hrest)).trans List.perm_middle
      · refine hp.trans ?_
        rw [List.append_assoc]
        exact (List.Perm.refl E1).append (hE2.trans (List.Perm.of_eq (by simp)))
      · simp [h1, e1, e2]
      · simp [hA, hB2]
      · intro x hx
        rcases List.mem_append.1 hx with hx | hx
        · have := hs1 x hx; simp at this ⊢; exact .inl this
        · simp only [List.mem_singleton] at hx; subst hx; simp
      · intro x hx
        have hxE : x ∈ E2 := by rw [hAB]; rcases List.mem_append.1 hx with h | h <;> simp [h]
        have h3 := hs2 x hxE
        have hnb : x.born ≠ e.born := by
          have hnd : ((E1 ++ E2).map (·.born)).Nodup := (hp.map _).nodup_iff.1 hs.2.1
          rw [List.map_append] at hnd
          have hnd2 := (List.nodup_append.1 hnd).2.1
          have hnd3 : ((e :: (A ++ B)).map (·.born)).Nodup := (hE2.map _).nodup_iff.1 hnd2
          simp only [List.map_cons, List.nodup_cons] at hnd3
          exact fun he' => hnd3.1 (by rw [← he']; exact List.mem_map.2 ⟨x, hx, rfl⟩)
        simp at h3 ⊢
        exact ⟨h3, hnb⟩
      · intro q hq
        refine hk q ?_
        rw [hrest, hd]
        simp only [List.mem_append, List.mem_cons, List.not_mem_nil, or_false] at hq ⊢
        rcases hq with (h | h) | h | h
        · exact .inl h
        · exact .inr (.inr (.inl h))
        · exact .inr (.inl h)
        · exact .inr (.inr (.inr h))
      · rw [run_entry_at (P := P) _ r b since seen es clock e hrn hbn hmem hs.2.1, e1, e2]
      · refine ⟨?_, ?_, ?_, ?_, ?_⟩
        · rcases hw1 with rfl | rfl <;> rfl
        · rcases hw1 with rfl | rfl <;> rfl
        · rcases hw1 with rfl | rfl <;> rfl
        · rcases hw1 with rfl | rfl <;> simp [setBlock]
        · intro i _ hi
          have : i ≠ r := fun e => hi (by rw [e])
          rw [hro i this]
          rcases hw1 with rfl | rfl <;> rfl
      · rcases hw1 with rfl | rfl <;> simp [setBlock]

section arms
variable {F : Fence} {nF : Nat} {ops : Array Oper} {Q : Exit → Act → World → Prop} {a : Act} {ro : List Oper} {o : Oper}

theorem wpListIn_range (w : World) (hg : o.guard = none) (mo : Operand) (t : TypeId) (hop : o.op = Op.range t mo) {kt et : TypeId} {v0 : V} [DecidableEq K] (T : MapTy P t kt et ek ev v0) (b : Nat) (m : List (K × V))
    (hm : a.eval mo = .map (some b)) (hat : MapAt P kt ek ev w b m)
    (hK : ∀ w', MIter P kt ek ev w' b w.heap.size [] m → (∃ ob, w' = w.alloc ob) → wpListIn F nF P ops Q ro (a.put o.dst (.pointer (some ⟨w.heap.size, 0, none⟩))) w') : wpListIn F nF P ops Q (o :: ro) a w := by
  refine wpListIn_plain hg fun K' hK' => ?_
  obtain ⟨w', hrun, r1, r2⟩ := run_range_map (P := P) hat T.und
  unfold Oper.wpIn
  refine ⟨by simp [Oper.about, hop], ?_⟩
  rw [Oper.semAt_plain F _ _ (by rw [hop]; intro c hc'; cases hc')]
  simp [execOp, hop, hm, hrun, Result.andThen]
  exact hK' _ _ (hK w' r1 r2)

theorem wpListIn_next (w : World) (hg : o.guard = none) (it : Operand) (hop : o.op = Op.next it false) (kt : TypeId) (ek : K → Value) (ev : V → Value) (b r : Nat) (vs rest : List (K × V))
    (hit : a.eval it = .pointer (some ⟨r, 0, none⟩)) (h : MIter P kt ek ev w b r vs rest)
    (hDone : rest = [] → wpListIn F nF P ops Q ro (a.put o.dst (.tuple #[.bool false])) w)
    (hGo : ∀ k v rest' w', rest.Perm ((k, v) :: rest') → MIter P kt ek ev w' b r (vs ++ [(k, v)]) rest' → (Instr.entry (.pointer (some ⟨r, 0, none⟩))).run P w' = .ok (.tuple #[ek k, ev v]) w' →
      w.grownBy w' (some r) → Hid (w'.heap.size = w.heap.size) → wpListIn F nF P ops Q ro (a.put o.dst (.tuple #[.bool true, ek k, ev v])) w') : wpListIn F nF P ops Q (o :: ro) a w := by
  refine wpListIn_plain hg fun K' hK' => ?_
  rcases h.next o.type with ⟨hz, hrun⟩ | ⟨k, v, rest', w', hp, hrun, h', he, hgr, hsz⟩
  · unfold Oper.wpIn
    refine ⟨by simp [Oper.about, hop], ?_⟩
    rw [Oper.semAt_plain F _ _ (by rw [hop]; intro c hc'; cases hc')]
    simp [execOp, hop, hit, hrun, Result.andThen]
    exact hK' _ _ (hDone hz)
  · unfold Oper.wpIn
    refine ⟨by simp [Oper.about, hop], ?_⟩
    rw [Oper.semAt_plain F _ _ (by rw [hop]; intro c hc'; cases hc')]
    simp [execOp, hop, hit, hrun, Result.andThen]
    exact hK' _ _ (hGo k v rest' w' hp h' he hgr hsz)
end arms
end
end Go.Rv
