/- Plain laws, over any program: a range over a function whose iterator may keep state of its own in cells; an iterator's contract at a yield or at a closure. -/
import Derived.Test.YtjbpghdgmpinpaaG
import Derived.RangeFuncNested
import Derived.RangeFuncLeaves
import Derived.RangeFuncBound
import Derived.LoopIn
import Derived.LoopNIn
import Derived.TacticsInMore
import Derived.Lib.Hide
import Derived.Sort.MapsRangeIn
namespace Go.Rv
open Go.RowKit

variable {P : Program}

/-! ### a fence that lets all in -/
structure Free (F : Fence) : Prop where
  fn : ∀ f, F.fn f
  depth : F.depth = none
  alive : F.alive = false

theorem wide_fn (f : FuncId) : Fence.wide.fn f = True := rfl
theorem wide_depth : Fence.wide.depth = none := rfl
attribute [go_sem] wide_fn wide_depth Oper.semAt_some
theorem free_wide : Free Fence.wide := ⟨fun _ => trivial, rfl, rfl⟩
theorem free_round {F : Fence} (h : Free F) (l : Nat) : Free (F.inRound l) := ⟨h.fn, h.depth, h.alive⟩
theorem Free.fenced {F : Fence} (h : Free F) (P : Program) (m : Machine) : m.fenced P F := by
  intro g _
  refine ⟨fun e => ?_, Or.inl (h.fn _), fun _ _ => h.fn _, fun _ e => ?_⟩
  · rw [h.alive] at e; cases e
  · rw [h.depth] at e; cases e
theorem Free.room {F : Fence} (h : Free F) (n : Nat) : F.room n := fun _ e => by rw [h.depth] at e; cases e
theorem Free.steps {F : Fence} (h : Free F) {m m' : Machine} (s : Steps P m m') : StepsIn (Machine.fenced P F) P m m' :=
  (StepsIn.of_steps s).mono fun m _ => h.fenced P m
theorem Free.comes {F : Fence} (h : Free F) {m m' : Machine} {e : Ending} (s : Comes P m m' e) : ComesIn (Machine.fenced P F) P m m' e := by
  cases e with
  | returned v => exact h.steps s
  | panicked c => exact h.steps s
  | outgrown => exact s
theorem Free.calls {F : Fence} (h : Free F) {n : Nat} {f : FuncId} {args : Array Value} {w : World} {R : Ending → World → Prop} (c : Calls P f args w R) : CallsIn F n P f args w R :=
  ⟨h.fn f, fun cs _ => let ⟨e, w', fr, r, s, x⟩ := c cs; ⟨e, w', fr, r, h.comes s, x⟩⟩
theorem Free.calls_of {F : Fence} (h : Free F) {n : Nat} {f : FuncId} {args : Array Value} {w : World} {R : Ending → World → Prop} (c : CallsIn F n P f args w R) : Calls P f args w R :=
  fun cs => let ⟨e, w', fr, r, s, x⟩ := c.2 cs (h.room _); ⟨e, w', fr, r, s.comes, x⟩
theorem Free.round {F F' : Fence} (h : Free F) (h' : Free F') {n n' : Nat} {l : Nat} {f : FuncId} {tmps : Array Value} {assign body : Code} {w : World} {R : Ending → World → Prop}
    (c : RoundIn F n P l f tmps assign body w R) : RoundIn F' n' P l f tmps assign body w R :=
  ⟨h'.fn f, fun c0 cs _ => let ⟨e, w', r, s⟩ := c.2 c0 cs (h.room _); ⟨e, w', r, h'.comes s.comes⟩⟩

/-! ### a function value, called -/
/-- A call of the function value fv: a function with what it has captured, or the yield of a range over a function. -/
def FnCall (P : Program) (fv : Value) (args : Array Value) (w : World) (R : Ending → World → Prop) : Prop :=
  (∃ f cap, fv = .func (.func f) #[] cap ∧ (∀ args w, (callFunc f args).run P w = .ok (.enter f args) w) ∧ Calls P f (args ++ cap) w R) ∨
  (∃ l, fv = .func (.yield l) #[] #[] ∧ YieldAt Fence.wide 0 P l args w R)

theorem FnCall.mono {fv : Value} {args : Array Value} {w : World} {R R' : Ending → World → Prop} (h : FnCall P fv args w R) (hr : ∀ e w, R e w → R' e w) : FnCall P fv args w R' := by
  rcases h with ⟨f, cap, e, he, hc⟩ | ⟨l, e, fn, tmps, as, bd, hy, hR⟩
  · exact .inl ⟨f, cap, e, he, hc.mono hr⟩
  · exact .inr ⟨l, e, fn, tmps, as, bd, hy, hR.mono hr⟩

theorem wpListIn_fncall {F : Fence} (hF : Free F) {n : Nat} {fv : Value} {args : Array Value} {w : World} {R : Ending → World → Prop} {ops : Array Oper} {Q : Exit → Act → World → Prop} {a : Act} {rest : List Oper} {o : Oper}
    (hg : o.guard = none) (fo : Operand) (xs : Array Operand) (ts : Array TypeId) (hop : o.op = Op.call { callee := .value fo, args := xs, argTypes := ts }) (hf : a.eval fo = fv) (hx : xs.map a.eval = args)
    (h : FnCall P fv args w R)
    (hK : ∀ e w', R e w' → ∃ v, e = .returned v ∧ wpListIn F n P ops Q rest (a.put o.dst v) w') : wpListIn F n P ops Q (o :: rest) a w := by
  refine wpListIn_plain hg fun K' hK' => ?_
  unfold Oper.wpIn
  refine ⟨fun f _ => hF.fn f, ?_⟩
  rw [Oper.semAt_plain F _ _ (by rw [hop]; intro c hc'; cases hc')]
  have hd : ¬ F.depth.isSome = true := by rw [hF.depth]; simp
  rcases h with ⟨f, cap, rfl, he, hc⟩ | ⟨l, rfl, fn, tmps, as, bd, hy, hR⟩
  · have hrun : (execOp a.eval o).run P w = .ok (.enter f (args ++ cap)) w := by
      simp [execOp, hop, resolve, hf, hx, Deferred.ofValue, invoke, he]
    rw [hrun]
    refine ⟨fun e => absurd e hd, (hF.calls (hc.mono ?_))⟩
    intro e w' hr
    obtain ⟨v, rfl, hl⟩ := hK e w' hr
    exact hK' _ _ hl
  · have hrun : (execOp a.eval o).run P w = .ok (.round l fn tmps as bd) w := by
      simp [execOp, hop, resolve, hf, hx, Deferred.ofValue, invoke, hy]
    rw [hrun]
    refine ⟨fun e => absurd e hd, (free_wide.round hF hR).mono ?_⟩
    intro e w' hr
    obtain ⟨v, rfl, hl⟩ := hK e w' hr
    exact hK' _ _ hl

/-- .. written out, so that it is met at such a call alone. -/
theorem wpListIn_fn {F : Fence} (hF : Free F) {n : Nat} {fv : Value} {args : Array Value} {w : World} {R : Ending → World → Prop} {ops : Array Oper} {Q : Exit → Act → World → Prop} {a : Act} {rest : List Oper}
    {d : Option Tmp} {fo : Operand} {xs : Array Operand} {ts : Array TypeId} {ty : TypeId} {ps : String} {af : Array Edge} (hf : a.eval fo = fv) (hx : xs.toList.map a.eval = args.toList) (h : FnCall P fv args w R)
    (hK : ∀ e w', R e w' → ∃ v, e = .returned v ∧ wpListIn F n P ops Q rest (a.put d v) w') :
    wpListIn F n P ops Q ({ dst := d, op := Op.call { callee := .value fo, args := xs, argTypes := ts }, type := ty, pos := ps, after := af, guard := none } :: rest) a w :=
  wpListIn_fncall hF rfl fo xs ts rfl hf (Array.toList_inj.1 (by rw [Array.toList_map]; exact hx)) h hK

/-! ### an iterator's contract -/
def isBook : Obj → Bool
  | .loop .. | .deferred .. | .mapIter .. | .stringIter .. => true
  | _ => false

/-- An iterator's own step: new blocks; at most one block that lay is turned: one of O2's, or a book-keeping block laid since B0. -/
def Turns (O2 : Nat → Prop) (B0 : Nat) (A B : World) : Prop :=
  ∃ row, A.grownBy B row ∧ ∀ r, row = some r → O2 r ∨ (B0 ≤ r ∧ ∃ o, A.heap[r]? = some o ∧ isBook o = true)

def Abid (O2 : Nat → Prop) (B0 : Nat) (I : World → Prop) : Prop := ∀ A B, I A → Turns O2 B0 A B → I B

/-- A round's word to the iterator: the blocks of O, and the book-keeping blocks laid since B0, lie as they lay. -/
structure Fix (O : Nat → Prop) (B0 : Nat) (A B : World) : Prop where
  size : A.heap.size ≤ B.heap.size
  own : ∀ b o, O b → A.heap[b]? = some o → B.heap[b]? = some o
  book : ∀ b o, B0 ≤ b → A.heap[b]? = some o → isBook o = true → B.heap[b]? = some o

section
variable {O O2 : Nat → Prop} {B0 : Nat} {A B C : World}
theorem Fix.refl (O : Nat → Prop) (B0 : Nat) (A : World) : Fix O B0 A A := ⟨Nat.le_refl _, fun _ _ _ h => h, fun _ _ _ h _ => h⟩
theorem Fix.trans (h : Fix O B0 A B) (k : Fix O B0 B C) : Fix O B0 A C :=
  ⟨Nat.le_trans h.size k.size, fun b o hb hA => k.own b o hb (h.own b o hb hA), fun b o hb hA hk => k.book b o hb (h.book b o hb hA hk) hk⟩
theorem Fix.mono {B0' : Nat} {O' : Nat → Prop} (h : Fix O B0 A B) (hB : B0 ≤ B0') (hO : ∀ b, O' b → O b) : Fix O' B0' A B :=
  ⟨h.size, fun b o hb hA => h.own b o (hO b hb) hA, fun b o hb hA hk => h.book b o (Nat.le_trans hB hb) hA hk⟩
/-- What turns cells and maps alone, and none of O's, keeps the iterator's word. -/
theorem Fix.of_upd {S : Nat → Prop} (h : Upd S A B) (hO : ∀ b, S b → ¬ O b) (hb : ∀ b o, S b → B0 ≤ b → A.heap[b]? = some o → isBook o = false) : Fix O B0 A B :=
  ⟨h.size, fun b o hbo hA => h.at hA fun hs => hO b hs hbo, fun b o hB hA hk => h.at hA fun hs => by rw [hb b o hs hB hA] at hk; cases hk⟩
theorem Fix.of_upd_lt {S : Nat → Prop} (h : Upd S A B) (hO : ∀ b, S b → ¬ O b) (hb : ∀ b, S b → b < B0) : Fix O B0 A B :=
  Fix.of_upd h hO fun b _ hs hB => absurd (hb b hs) (by omega)

theorem Turns.of_alloc (W : World) (o : Obj) : Turns O2 B0 W (W.alloc o) := ⟨none, World.grownBy_alloc W o none, fun _ e => by cases e⟩
theorem Turns.of_drew (W : World) : Turns O2 B0 W W.drew := ⟨none, ⟨rfl, rfl, rfl, Nat.le_refl _, fun _ _ _ => rfl⟩, fun _ e => by cases e⟩
theorem Turns.of_putObj {W : World} {l : Nat} {o : Obj} (o' : Obj) (hl : W.heap[l]? = some o) (hB : B0 ≤ l) (hb : isBook o = true) : Turns O2 B0 W (W.putObj l o') :=
  ⟨some l, grownBy_putObj' W l o', fun r e => by cases e; exact .inr ⟨hB, o, hl, hb⟩⟩
theorem Turns.of_setCell {W : World} {p : Addr} (v : Value) (h : O2 p.block) : Turns O2 B0 W (W.setCell p v) :=
  ⟨some p.block, ⟨rfl, rfl, rfl, by simp, fun k _ hk => Below.heap_setCell _ _ _ _ fun e => hk (by rw [e])⟩, fun r e => by cases e; exact .inl h⟩
/-- What is no book-keeping block, and none of O2's, lies on. -/
theorem Turns.at (h : Turns O2 B0 A B) {b : Nat} {o : Obj} (hb : A.heap[b]? = some o) (h2 : ¬ O2 b) (hk : isBook o = false) : B.heap[b]? = some o := by
  obtain ⟨row, hg, hr⟩ := h
  refine (hg.block b (hp_lt hb) fun e => ?_).trans hb
  rcases hr b e.symm with h | ⟨_, o', ho', hb'⟩
  · exact h2 h
  · rw [hb] at ho'; cases ho'; rw [hk] at hb'; cases hb'
/-- What lay ahead of B0, and is none of O2's, lies on. -/
theorem Turns.below (h : Turns O2 B0 A B) {b : Nat} {o : Obj} (hb : A.heap[b]? = some o) (h2 : ¬ O2 b) (hk : b < B0) : B.heap[b]? = some o := by
  obtain ⟨row, hg, hr⟩ := h
  refine (hg.block b (hp_lt hb) fun e => ?_).trans hb
  rcases hr b e.symm with h | ⟨h, _⟩
  · exact h2 h
  · omega
theorem Turns.upd (h : Turns O2 B0 A B) : Upd (fun b => O2 b ∨ B0 ≤ b) A B := by
  obtain ⟨row, hg, hr⟩ := h
  refine ⟨hg.os, hg.tape, hg.output, hg.size, fun k hk hn => hg.block k hk fun e => ?_⟩
  rcases hr k e.symm with h | ⟨h, _⟩
  · exact hn (.inl h)
  · exact hn (.inr h)
theorem Turns.mono {O2' : Nat → Prop} {B0' : Nat} (h : Turns O2 B0 A B) (h2 : ∀ b, O2 b → O2' b) (hB : B0' ≤ B0) : Turns O2' B0' A B := by
  obtain ⟨row, hg, hr⟩ := h
  exact ⟨row, hg, fun r e => (hr r e).elim (fun h => .inl (h2 _ h)) fun ⟨h, k⟩ => .inr ⟨Nat.le_trans hB h, k⟩⟩
theorem Turns.size (h : Turns O2 B0 A B) : A.heap.size ≤ B.heap.size := let ⟨_, hg, _⟩ := h; hg.size
theorem Abid.and {I J : World → Prop} (h : Abid O2 B0 I) (k : Abid O2 B0 J) : Abid O2 B0 fun W => I W ∧ J W := fun A B hs ht => ⟨h A B hs.1 ht, k A B hs.2 ht⟩
theorem Abid.mono {O2' : Nat → Prop} {B0' : Nat} {I : World → Prop} (h : Abid O2' B0' I) (h2 : ∀ b, O2 b → O2' b) (hB : B0' ≤ B0) : Abid O2 B0 I := fun A B hs ht => h A B hs (ht.mono h2 hB)
theorem abid_upd {S : Nat → Prop} {w : World} (h2 : ∀ b, b < w.heap.size → O2 b → S b) (hB : w.heap.size ≤ B0) : Abid O2 B0 (fun W => Upd S w W) := fun A B hs ht =>
  hs.then ht.upd fun i hi h => h.elim (h2 i hi) fun h => by omega
end

/-- How an iterator ends: all have come, or a round has said 'no more'. -/
def iterPost {α : Type} (S : List α → Prop) (J Jx : List α → World → Prop) (e : Ending) (B : World) : Prop :=
  (∃ v, e = .returned v) ∧ ((∃ xs, S xs ∧ J xs B) ∨ (∃ pre x post, S (pre ++ x :: post) ∧ Jx (pre ++ [x]) B))
theorem iterPost_all {α : Type} {S : List α → Prop} {J Jx : List α → World → Prop} {v : Value} {B : World} (xs : List α) (h : S xs) (hj : J xs B) : iterPost S J Jx (.returned v) B := ⟨⟨v, rfl⟩, .inl ⟨xs, h, hj⟩⟩
theorem iterPost_stop {α : Type} {S : List α → Prop} {J Jx : List α → World → Prop} {v : Value} {B : World} (pre : List α) (x : α) (post : List α) (h : S (pre ++ x :: post)) (hj : Jx (pre ++ [x]) B) : iterPost S J Jx (.returned v) B :=
  ⟨⟨v, rfl⟩, .inr ⟨pre, x, post, h, hj⟩⟩

/-- The iterator function gf, over what it has captured, gives the elements of some list of S: whatever function value it is handed (a round's word: 'Fix'), whatever invariant (it abides 'Turns'). -/
def IterC {α : Type} (P : Program) (gf : Nat) (cap : Array Value) (enc : α → Array Value) (S : List α → Prop) (O O2 : Nat → Prop) (w0 : World) : Prop :=
  ∀ (fv : Value) (J Jx : List α → World → Prop) (W : World),
    w0.heap.size ≤ W.heap.size → (∀ b o, O b → w0.heap[b]? = some o → W.heap[b]? = some o) →
    (∀ pre, Abid O2 W.heap.size (J pre)) → (∀ pre, Abid O2 W.heap.size (Jx pre)) →
    (∀ pre x A, J pre A → (∃ post, S (pre ++ x :: post)) →
      FnCall P fv (enc x) A fun e B => (e = .returned (.bool true) ∧ J (pre ++ [x]) B ∧ Fix O W.heap.size A B) ∨ (e = .returned (.bool false) ∧ Jx (pre ++ [x]) B)) →
    J [] W →
    Calls P gf (#[fv] ++ cap) W (iterPost S J Jx)

/-- How the body of a round may be left. -/
def bodyR {α : Type} (O : Nat → Prop) (B0 : Nat) (I : List α → World → Prop) (Ix : Code → List α → World → Prop) (xs : List α) (W : World) : Exit → Act → World → Prop
  | .normal, _, W' => Fix O B0 W W' ∧ I xs W'
  | .ret, _, W' => Fix (fun _ => False) B0 W W' ∧ Ix .ret xs W'
  | .exit id, _, W' => Fix (fun _ => False) B0 W W' ∧ Ix (.exit id) xs W'
  | .goto t, _, W' => Fix (fun _ => False) B0 W W' ∧ Ix (.goto t) xs W'
  | .panic _, _, _ => False
  | .outgrown, _, _ => False

section law
variable {F : Fence} {α : Type} {g : Operand} {ps : Array Tmp} {assign body : Code} {Q : Exit → Act → World → Prop} {a : Act} {w : World}
variable {gf : Nat} {cap : Array Value} {enc : α → Array Value} {S : List α → Prop} {O O2 : Nat → Prop} {w0 : World}

/-- ONE ROUND, in either law: the record lies at l. -/
theorem round_law (hF : Free F) (hps : ∀ x, (enc x).size = ps.size) {B0 l : Nat} (hB0 : B0 ≤ l) (hOlt : ∀ b, O b → b < B0) (rec : LoopState → Option Code → Loop) (fn : Nat) (D : Nat)
    (hrec : rec = fun st pe => { state := st, pending := pe, fn, tmps := a.tmps, params := ps, assign, body, defers := D })
    (I : List α → World → Prop) (Ix : Code → List α → World → Prop) (hI : ∀ pre, Abid O2 B0 (I pre)) (hIx : ∀ c pre, Abid O2 B0 (Ix c pre))
    (hround : ∀ (l : Nat) (pre : List α) (x : α) (W : World), B0 ≤ l → l < W.heap.size → I pre W → (∃ post, S (pre ++ x :: post)) →
      assign.wpIn (F.inRound l) 0 P (Exit.then (fun a' W' => Fix O B0 W W' ∧ ∀ (W2 : World) (r : Loop), Upd (fun b => b = l) W' W2 → Turns O2 B0 W' W2 → W2.heap[l]? = some (.loop r) →
        body.wpIn (F.inRound l) 0 P (bodyR O B0 I Ix (pre ++ [x]) W2) a' W2) (fun _ _ _ => False)) { tmps := (ps.zip (enc x)).foldl (fun t (p, v) => t.setIfInBounds p v) a.tmps, defers := [] } W)
    (K : World → Prop) (hKb : ∀ W W', K W → (∀ b o, B0 ≤ b → W.heap[b]? = some o → isBook o = true → W'.heap[b]? = some o) → K W') (hKl : ∀ W o, K W → K (W.putObj l o))
    (pre : List α) (x : α) (W : World) (hi : I pre W) (hl : W.heap[l]? = some (.loop (rec .ready none))) (hk : K W) (hS : ∃ post, S (pre ++ x :: post)) :
    FnCall P (.func (.yield l) #[] #[]) (enc x) W fun e W' =>
      (e = .returned (.bool true) ∧ (I (pre ++ [x]) W' ∧ W'.heap[l]? = some (.loop (rec .ready none)) ∧ K W') ∧ Fix O (l + 1) W W') ∨
      (e = .returned (.bool false) ∧ ∃ c, Ix c (pre ++ [x]) W' ∧ W'.heap[l]? = some (.loop (rec .done (some c))) ∧ K W') := by
  have hy := run_yield (P := P) (args := enc x) hl (by rw [hrec]; exact hps x)
  rw [hrec] at hy
  refine .inr ⟨l, rfl, fn, _, assign, body, hy, hF.round free_wide (roundIn_of_wpIn (F := F) (n := 0) (hF.fn fn) (wpIn_mono (hround l pre x W hB0 (hp_lt hl) hi hS) ?_))⟩
  clear hy
  intro e0 a' Wa h0
  cases e0 with
  | normal => ?_
  | ret => exact h0.elim
  | exit id => exact h0.elim
  | goto t => exact h0.elim
  | panic c => exact h0.elim
  | outgrown => exact h0.elim
  obtain ⟨hfa, hgo⟩ : Fix O B0 W Wa ∧ _ := h0
  have hla := hfa.book l _ hB0 hl rfl
  have hka : K Wa := hKb _ _ hk fun b o hb => hfa.book b o hb
  have hlt : l < Wa.heap.size := hp_lt hla
  refine ⟨_, run_beginRound hla (by rw [hrec]), ?_⟩
  have hl2 : (Wa.putObj l (.loop { rec .ready none with state := .busy })).heap[l]? = some (.loop { rec .ready none with state := .busy }) := World.putObj_heap_same hlt
  have hk2 : K (Wa.putObj l (.loop { rec .ready none with state := .busy })) := hKl _ _ hka
  have ht2 : Turns O2 B0 Wa (Wa.putObj l (.loop { rec .ready none with state := .busy })) := Turns.of_putObj _ hla hB0 rfl
  have fixp : ∀ (X : World) (o' : Obj), Fix O (l + 1) X (X.putObj l o') := fun X o' =>
    ⟨by simp, fun b o hb hX => (World.putObj_heap_other (by have := hOlt b hb; omega)).trans hX, fun b o hb hX _ => (World.putObj_heap_other (by omega)).trans hX⟩
  refine wpIn_mono (hgo _ _ ⟨rfl, rfl, rfl, by simp, fun k _ hk => World.putObj_heap_other hk⟩ ht2 hl2) ?_
  have fin : ∀ (jump : Option Code) (O' : Nat → Prop) (W3 : World), Fix O' B0 (Wa.putObj l (.loop { rec .ready none with state := .busy })) W3 →
      (Instr.endRound l jump).run P W3 = .ok (.bool jump.isNone) (W3.putObj l (.loop (rec (if jump.isNone then .ready else .done) jump))) ∧
      W3.heap[l]? = some (.loop { rec .ready none with state := .busy }) ∧
      (W3.putObj l (.loop (rec (if jump.isNone then .ready else .done) jump))).heap[l]? = some (.loop (rec (if jump.isNone then .ready else .done) jump)) ∧
      K (W3.putObj l (.loop (rec (if jump.isNone then .ready else .done) jump))) ∧ Turns O2 B0 W3 (W3.putObj l (.loop (rec (if jump.isNone then .ready else .done) jump))) := fun jump O' W3 hk3 => by
    have hl3 := hk3.book _ _ hB0 hl2 rfl
    have := run_endRound (P := P) jump hl3
    rw [hrec] at this ⊢
    exact ⟨this, by rw [hrec] at hl3; exact hl3, World.putObj_heap_same (hp_lt hl3), hKl _ _ (hKb _ _ hk2 fun b o hb => hk3.book b o hb), Turns.of_putObj _ hl3 hB0 rfl⟩
  rintro e a3 W3 hp
  cases e with
  | normal =>
    obtain ⟨hk3, hi3⟩ := hp
    obtain ⟨hr, hl3, hl4, hk4, ht⟩ := fin none _ W3 hk3
    exact ⟨_, _, hr, .inl ⟨rfl, ⟨hI _ _ _ hi3 ht, hl4, hk4⟩, (((hfa.mono (by omega) fun _ h => h).trans (fixp _ _)).trans (hk3.mono (by omega) fun _ h => h)).trans (fixp _ _)⟩⟩
  | ret =>
    obtain ⟨hk3, hi3⟩ := hp
    obtain ⟨hr, hl3, hl4, hk4, ht⟩ := fin (some .ret) _ W3 hk3
    exact ⟨_, _, hr, .inr ⟨rfl, .ret, hIx _ _ _ _ hi3 ht, hl4, hk4⟩⟩
  | exit id =>
    obtain ⟨hk3, hi3⟩ := hp
    obtain ⟨hr, hl3, hl4, hk4, ht⟩ := fin (some (.exit id)) _ W3 hk3
    exact ⟨_, _, hr, .inr ⟨rfl, .exit id, hIx _ _ _ _ hi3 ht, hl4, hk4⟩⟩
  | goto t =>
    obtain ⟨hk3, hi3⟩ := hp
    obtain ⟨hr, hl3, hl4, hk4, ht⟩ := fin (some (.goto t)) _ W3 hk3
    exact ⟨_, _, hr, .inr ⟨rfl, .goto t, hIx _ _ _ _ hi3 ht, hl4, hk4⟩⟩
  | panic ch => exact hp.elim
  | outgrown => exact hp.elim

/-- **'for x := range g { .. }', in no round.** -/
theorem rangeFunc_top (hF : Free F) (hro : F.round = none) (hg : a.eval g = .func (.func gf) #[] cap) (eg : ∀ args w, (callFunc gf args).run P w = .ok (.enter gf args) w)
    (hseq : IterC P gf cap enc S O O2 w0) (hw0 : w0.heap.size ≤ w.heap.size) (hO : ∀ b o, O b → w0.heap[b]? = some o → w.heap[b]? = some o) (hOlt : ∀ b, O b → b < w.heap.size) (hO2lt : ∀ b, O2 b → b < w.heap.size) (hps : ∀ x, (enc x).size = ps.size)
    (I : List α → World → Prop) (Ix : Code → List α → World → Prop) (hI : ∀ pre, Abid O2 w.heap.size (I pre)) (hIx : ∀ c pre, Abid O2 w.heap.size (Ix c pre)) (h0 : I [] w)
    (hround : ∀ (l : Nat) (pre : List α) (x : α) (W : World), w.heap.size ≤ l → l < W.heap.size → I pre W → (∃ post, S (pre ++ x :: post)) →
      assign.wpIn (F.inRound l) 0 P (Exit.then (fun a' W' => Fix O w.heap.size W W' ∧ ∀ (W2 : World) (r : Loop), Upd (fun b => b = l) W' W2 → Turns O2 w.heap.size W' W2 → W2.heap[l]? = some (.loop r) →
        body.wpIn (F.inRound l) 0 P (bodyR O w.heap.size I Ix (pre ++ [x]) W2) a' W2) (fun _ _ _ => False)) { tmps := (ps.zip (enc x)).foldl (fun t (p, v) => t.setIfInBounds p v) a.tmps, defers := [] } W)
    (hdone : ∀ (D : Nat) (xs : List α) (W : World), w.heap.size ≤ D → S xs → I xs W → W.heap[D]? = some (.deferred (some [])) → Q .normal { a with defers := { target := .collected D, args := #[] } :: a.defers } W)
    (hstop : ∀ (D : Nat) (c : Code) (pre : List α) (x : α) (W : World), w.heap.size ≤ D → (∃ post, S (pre ++ x :: post)) → Ix c (pre ++ [x]) W → W.heap[D]? = some (.deferred (some [])) → c.wpIn F 0 P Q { a with defers := { target := .collected D, args := #[] } :: a.defers } W) :
    (Code.rangeFunc g ps assign body).wpIn F 0 P Q a w := by
  refine wpIn_rangeFunc ?_
  intro fn hfn
  rw [hro]
  obtain ⟨rec, hrec⟩ : ∃ rec : LoopState → Option Code → Loop, rec = fun st pe => { state := st, pending := pe, fn, tmps := a.tmps, params := ps, assign, body, defers := w.heap.size } := ⟨_, rfl⟩
  obtain ⟨W1, hW1⟩ : ∃ W1, (w.alloc (.deferred (some []))).alloc (.loop (rec .ready none)) = W1 := ⟨_, rfl⟩
  have hsz : W1.heap.size = w.heap.size + 2 := by rw [← hW1]; simp
  have hL1 : W1.heap[w.heap.size + 1]? = some (.loop (rec .ready none)) := by
    rw [← hW1]; have := World.alloc_heap_new (w.alloc (.deferred (some []))) (.loop (rec .ready none)); rwa [World.size_alloc] at this
  have hK1 : W1.heap[w.heap.size]? = some (.deferred (some [])) := by
    rw [← hW1]; exact (Below.heap_alloc _ _ _ (by simp)).trans (World.alloc_heap_new w _)
  have hI1 : I [] W1 := by rw [← hW1]; exact hI _ _ _ (hI _ _ _ h0 (Turns.of_alloc _ _)) (Turns.of_alloc _ _)
  have hO1 : ∀ b o, O b → w0.heap[b]? = some o → W1.heap[b]? = some o := fun b o hb h => by
    have := hO b o hb h
    rw [← hW1]; exact hp_alloc_old _ (hp_alloc_old _ this)
  refine ⟨w.heap.size + 1, [{ target := .collected w.heap.size, args := #[] }], W1, { target := .fn (.func gf) cap, args := #[.func (.yield (w.heap.size + 1)) #[] #[]] }, W1, gf,
    #[.func (.yield (w.heap.size + 1)) #[] #[]] ++ cap, W1, ?_, ?_, ?_, ?_, fun e => (by rw [hF.depth] at e; cases e), ?_⟩
  · rw [← hW1, hrec]; exact run_enterLoop_outer _ _ _ _ _
  · simp only [resolve, hg]
    simp [go_sem]
  · intro f' _; exact hF.fn f'
  · simp [invoke, go_sem, eg]
  · refine hF.calls ((hseq (.func (.yield (w.heap.size + 1)) #[] #[])
      (fun pre W => I pre W ∧ W.heap[w.heap.size + 1]? = some (.loop (rec .ready none)) ∧ W.heap[w.heap.size]? = some (.deferred (some [])))
      (fun pre W => ∃ c, Ix c pre W ∧ W.heap[w.heap.size + 1]? = some (.loop (rec .done (some c))) ∧ W.heap[w.heap.size]? = some (.deferred (some [])))
      W1 (by omega) hO1 ?_ ?_ ?_ ⟨hI1, hL1, hK1⟩).mono ?_)
    · rintro pre A B ⟨hi, hl, hk⟩ ht
      exact ⟨hI pre A B hi (ht.mono (fun _ h => h) (by omega)), ht.below hl (fun h => by have := hO2lt _ h; omega) (by omega), ht.below hk (fun h => by have := hO2lt _ h; omega) (by omega)⟩
    · rintro pre A B ⟨c, hi, hl, hk⟩ ht
      exact ⟨c, hIx c pre A B hi (ht.mono (fun _ h => h) (by omega)), ht.below hl (fun h => by have := hO2lt _ h; omega) (by omega), ht.below hk (fun h => by have := hO2lt _ h; omega) (by omega)⟩
    · rintro pre x A ⟨hi, hl, hk⟩ hS
      refine (round_law hF hps (by omega) hOlt rec fn w.heap.size hrec I Ix hI hIx hround (fun W => W.heap[w.heap.size]? = some (.deferred (some [])))
        (fun W W' h hb => hb _ _ (Nat.le_refl _) h rfl) (fun W o h => (World.putObj_heap_other (by omega)).trans h) pre x A hi hl hk hS).mono ?_
      rintro e B (⟨rfl, h, hf⟩ | ⟨rfl, h⟩)
      · exact .inl ⟨rfl, h, hf.mono (by omega) fun _ h => h⟩
      · exact .inr ⟨rfl, h⟩
    · rintro e W2 ⟨⟨v, rfl⟩, (⟨xs, hS, hi, hl, hk⟩ | ⟨pre, x, post, hS, c, hi, hl, hk⟩)⟩
      · have hend := run_endLoop (P := P) hl (by rw [hrec]; simp)
        refine ⟨none, _, by rw [hend, hrec], ?_⟩
        exact hdone _ xs _ (Nat.le_refl _) hS (hI _ _ _ hi (Turns.of_putObj _ hl (by omega) rfl)) ((World.putObj_heap_other (by omega)).trans hk)
      · have hend := run_endLoop (P := P) hl (by rw [hrec]; simp)
        refine ⟨some c, _, by rw [hend, hrec], ?_⟩
        exact hstop _ c pre x _ (Nat.le_refl _) ⟨post, hS⟩ (hIx c _ _ _ hi (Turns.of_putObj _ hl (by omega) rfl)) ((World.putObj_heap_other (by omega)).trans hk)

/-- **'for x := range g { .. }', in a round of another one.** -/
theorem rangeFunc_in {l₀ : Nat} {r₀ : Loop} (hF : Free F) (hro : F.round = some l₀) (hl₀ : w.heap[l₀]? = some (.loop r₀)) (hg : a.eval g = .func (.func gf) #[] cap) (eg : ∀ args w, (callFunc gf args).run P w = .ok (.enter gf args) w)
    (hseq : IterC P gf cap enc S O O2 w0) (hw0 : w0.heap.size ≤ w.heap.size) (hO : ∀ b o, O b → w0.heap[b]? = some o → w.heap[b]? = some o) (hOlt : ∀ b, O b → b < w.heap.size) (hO2lt : ∀ b, O2 b → b < w.heap.size) (hps : ∀ x, (enc x).size = ps.size)
    (I : List α → World → Prop) (Ix : Code → List α → World → Prop) (hI : ∀ pre, Abid O2 w.heap.size (I pre)) (hIx : ∀ c pre, Abid O2 w.heap.size (Ix c pre)) (h0 : I [] w)
    (hround : ∀ (l : Nat) (pre : List α) (x : α) (W : World), w.heap.size ≤ l → l < W.heap.size → I pre W → (∃ post, S (pre ++ x :: post)) →
      assign.wpIn (F.inRound l) 0 P (Exit.then (fun a' W' => Fix O w.heap.size W W' ∧ ∀ (W2 : World) (r : Loop), Upd (fun b => b = l) W' W2 → Turns O2 w.heap.size W' W2 → W2.heap[l]? = some (.loop r) →
        body.wpIn (F.inRound l) 0 P (bodyR O w.heap.size I Ix (pre ++ [x]) W2) a' W2) (fun _ _ _ => False)) { tmps := (ps.zip (enc x)).foldl (fun t (p, v) => t.setIfInBounds p v) a.tmps, defers := [] } W)
    (hdone : ∀ (xs : List α) (W : World), S xs → I xs W → Q .normal a W)
    (hstop : ∀ (c : Code) (pre : List α) (x : α) (W : World), (∃ post, S (pre ++ x :: post)) → Ix c (pre ++ [x]) W → c.wpIn F 0 P Q a W) :
    (Code.rangeFunc g ps assign body).wpIn F 0 P Q a w := by
  refine wpIn_rangeFunc ?_
  intro fn hfn
  rw [hro]
  obtain ⟨rec, hrec⟩ : ∃ rec : LoopState → Option Code → Loop, rec = fun st pe => { state := st, pending := pe, fn, tmps := a.tmps, params := ps, assign, body, defers := r₀.defers } := ⟨_, rfl⟩
  obtain ⟨W1, hW1⟩ : ∃ W1, w.alloc (.loop (rec .ready none)) = W1 := ⟨_, rfl⟩
  have hsz : W1.heap.size = w.heap.size + 1 := by rw [← hW1]; simp
  have hL1 : W1.heap[w.heap.size]? = some (.loop (rec .ready none)) := by rw [← hW1]; exact World.alloc_heap_new w _
  have hI1 : I [] W1 := by rw [← hW1]; exact hI _ _ _ h0 (Turns.of_alloc _ _)
  have hO1 : ∀ b o, O b → w0.heap[b]? = some o → W1.heap[b]? = some o := fun b o hb h => by
    have := hO b o hb h
    rw [← hW1]; exact hp_alloc_old _ this
  refine ⟨w.heap.size, [], W1, { target := .fn (.func gf) cap, args := #[.func (.yield w.heap.size) #[] #[]] }, W1, gf,
    #[.func (.yield w.heap.size) #[] #[]] ++ cap, W1, ?_, ?_, ?_, ?_, fun e => (by rw [hF.depth] at e; cases e), ?_⟩
  · rw [← hW1, hrec]; exact run_enterLoop_inner hl₀ _ _ _ _ _
  · simp only [resolve, hg]
    simp [go_sem]
  · intro f' _; exact hF.fn f'
  · simp [invoke, go_sem, eg]
  · refine hF.calls ((hseq (.func (.yield w.heap.size) #[] #[])
      (fun pre W => I pre W ∧ W.heap[w.heap.size]? = some (.loop (rec .ready none)) ∧ True)
      (fun pre W => ∃ c, Ix c pre W ∧ W.heap[w.heap.size]? = some (.loop (rec .done (some c))) ∧ True)
      W1 (by omega) hO1 ?_ ?_ ?_ ⟨hI1, hL1, trivial⟩).mono ?_)
    · rintro pre A B ⟨hi, hl, hk⟩ ht
      exact ⟨hI pre A B hi (ht.mono (fun _ h => h) (by omega)), ht.below hl (fun h => by have := hO2lt _ h; omega) (by omega), trivial⟩
    · rintro pre A B ⟨c, hi, hl, hk⟩ ht
      exact ⟨c, hIx c pre A B hi (ht.mono (fun _ h => h) (by omega)), ht.below hl (fun h => by have := hO2lt _ h; omega) (by omega), trivial⟩
    · rintro pre x A ⟨hi, hl, hk⟩ hS
      refine (round_law hF hps (Nat.le_refl _) hOlt rec fn r₀.defers hrec I Ix hI hIx hround (fun _ => True)
        (fun _ _ _ _ => trivial) (fun _ _ _ => trivial) pre x A hi hl trivial hS).mono ?_
      rintro e B (⟨rfl, h, hf⟩ | ⟨rfl, h⟩)
      · exact .inl ⟨rfl, h, hf.mono (by omega) fun _ h => h⟩
      · exact .inr ⟨rfl, h⟩
    · rintro e W2 ⟨⟨v, rfl⟩, (⟨xs, hS, hi, hl, hk⟩ | ⟨pre, x, post, hS, c, hi, hl, hk⟩)⟩
      · have hend := run_endLoop (P := P) hl (by rw [hrec]; simp)
        refine ⟨none, _, by rw [hend, hrec], ?_⟩
        exact hdone xs _ hS (hI _ _ _ hi (Turns.of_putObj _ hl (by omega) rfl))
      · have hend := run_endLoop (P := P) hl (by rw [hrec]; simp)
        refine ⟨some c, _, by rw [hend, hrec], ?_⟩
        exact hstop c pre x _ ⟨post, hS⟩ (hIx c _ _ _ hi (Turns.of_putObj _ hl (by omega) rfl))
end law

/-! ### a function's return behind such a loop -/
theorem leaves_mark {F : Fence} {n : Nat} {fn : Func} {tmps : Array Value} {R : Ending → World → Prop} {D : Nat} {w : World} (v : Value) (hK : w.heap[D]? = some (.deferred (some [])))
    (hres : (results fn tmps).run P (w.putObj D (.deferred none)) = .ok v (w.putObj D (.deferred none))) (hR : R (.returned v) (w.putObj D (.deferred none))) :
    LeavesInM F n P fn tmps R [{ target := .collected D, args := #[] }] .returning w :=
  ⟨by simp, .inl ⟨_, _, rfl, run_takeDeferred hK, ⟨v, hres, hR⟩⟩⟩
theorem upd_mark {w : World} {D : Nat} (o : Obj) : Upd (fun b => b = D) w (w.putObj D o) := ⟨rfl, rfl, rfl, by simp, fun _ _ h => World.putObj_heap_other h⟩
theorem below_mark {B : Nat} {w0 w : World} {D : Nat} (h : Below B w0 w) (hD : B ≤ D) (hB : B ≤ w.heap.size) (o : Obj) : Below B w0 (w.putObj D o) :=
  h.trans ((upd_mark o).below hB fun k hk e => by omega)
end Go.Rv
