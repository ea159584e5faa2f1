/- TreeHolds: the walk. -/
import Derived.Test.YtopfgaogfnepfaaDoorHp
import Derived.Test.YtopfgaogfnepfaaDoorI
import Derived.Deep.LoopGhost
import Derived.Deep.CutRange
import Derived.Deep.CutBlock
import Derived.Deep.DeepCutAuto
import Derived.Deep.QuietTactic
import Derived.BigQuiet
namespace Go.Proofs.YtopfgaogfnepfaaDoor
open Go.RowKit Go.Rv

def Names6 (W : World) (A : Nat) : Prop := W.heap[A]? = some (.cells #[.string (hn 0), .string (hn 1), .string (hn 2), .string (hn 3), .string (hn 4), .string (hn 5)] 30)
def Ints6 (W : World) (A : Nat) (s : Nat → Int) : Prop := W.heap[A]? = some (.cells #[.int .i64 (s 0), .int .i64 (s 1), .int .i64 (s 2), .int .i64 (s 3), .int .i64 (s 4), .int .i64 (s 5)] 31)
def Bools6 (W : World) (A : Nat) (s : Nat → Bool) : Prop := W.heap[A]? = some (.cells #[.bool (s 0), .bool (s 1), .bool (s 2), .bool (s 3), .bool (s 4), .bool (s 5)] 32)
theorem Names6.cell {W : World} {A k : Nat} (h : Names6 W A) (hk : k < 6) : W.cell? ⟨A, k, none⟩ = some (.string (hn k)) := by
  rw [hp_cell h]
  match k, hk with
  | 0, _ | 1, _ | 2, _ | 3, _ | 4, _ | 5, _ => rfl
theorem Ints6.cell {W : World} {A k : Nat} {s : Nat → Int} (h : Ints6 W A s) (hk : k < 6) : W.cell? ⟨A, k, none⟩ = some (.int .i64 (s k)) := by
  rw [hp_cell h]
  match k, hk with
  | 0, _ | 1, _ | 2, _ | 3, _ | 4, _ | 5, _ => rfl
theorem Bools6.cell {W : World} {A k : Nat} {s : Nat → Bool} (h : Bools6 W A s) (hk : k < 6) : W.cell? ⟨A, k, none⟩ = some (.bool (s k)) := by
  rw [hp_cell h]
  match k, hk with
  | 0, _ | 1, _ | 2, _ | 3, _ | 4, _ | 5, _ => rfl
theorem Bools6.set {W : World} {B k : Nat} {s : Nat → Bool} (h : Bools6 W B s) (hk : k < 6) (b : Bool) : Bools6 (W.setCell ⟨B, k, none⟩ (.bool b)) B (setB s k b) := by
  rw [Bools6, hp_setCell_same h]
  match k, hk with
  | 0, _ | 1, _ | 2, _ | 3, _ | 4, _ | 5, _ => rfl
theorem Ints6.set {W : World} {B k : Nat} {s : Nat → Int} (h : Ints6 W B s) (hk : k < 6) (b : Int) : Ints6 (W.setCell ⟨B, k, none⟩ (.int .i64 b)) B (fun j => if j = k then b else s j) := by
  rw [Ints6, hp_setCell_same h]
  match k, hk with
  | 0, _ | 1, _ | 2, _ | 3, _ | 4, _ | 5, _ => rfl

/-- The law's own blocks and its tree. -/
structure HOn (w : World) (A N C : Nat) (t f : Nat → Bool) (g : Nat → Int) (n : Int) (th : List (ByteArray × Bool)) (st : List (ByteArray × Int)) (W : World) : Prop where
  names : Names6 W A
  up : Ints6 W (A + 1) hu
  tree : TreeAt W (N + 3) N (N + 1) (N + 2) th st []
  below : Below w.heap.size w W
  tA : Bools6 W C t
  fA : Bools6 W (C + 1) f
  ht : HT t f th
  sg : SG g n st
/-- The places: what lies where. -/
def HPl (w : World) (A N C : Nat) : Prop := w.heap.size ≤ A ∧ A + 1 < N ∧ N + 3 < C
section
variable {w W W' : World} {A N C : Nat} {t f t' f' : Nat → Bool} {g g' : Nat → Int} {n n' : Int} {th th' : List (ByteArray × Bool)} {st st' : List (ByteArray × Int)}
theorem HOn.upd (h : HOn w A N C t f g n th st W) (hp : HPl w A N C) (ht : TreeAt W' (N + 3) N (N + 1) (N + 2) th' st' []) (hu : Upd (TS N (N + 1) (N + 2)) W W')
    (hth : HT t f th') (hsg : SG g' n' st') : HOn w A N C t f g' n' th' st' W' := by
  obtain ⟨p1, p2, p3⟩ := hp
  exact ⟨hu.at h.names (by unfold TS; omega), hu.at h.up (by unfold TS; omega), ht, h.below.trans (hu.below h.below.size fun q _ hq => by unfold TS at hq; omega),
    hu.at h.tA (by unfold TS; omega), hu.at h.fA (by unfold TS; omega), hth, hsg⟩
theorem HOn.other {B : Nat} (h : HOn w A N C t f g n th st W) (hp : HPl w A N C) (hB : C + 1 < B) (hu : Upd (fun q => q = B) W W') : HOn w A N C t f g n th st W' := by
  obtain ⟨p1, p2, p3⟩ := hp
  exact ⟨hu.at h.names (by omega), hu.at h.up (by omega), h.tree.keep hu (by omega) (by omega) (by omega) (by omega), h.below.trans (hu.below h.below.size fun q _ hq => by omega),
    hu.at h.tA (by omega), hu.at h.fA (by omega), h.ht, h.sg⟩
theorem HOn.drewN (h : HOn w A N C t f g n th st W) (k : Nat) : HOn w A N C t f g n th st (W.drewN k) :=
  ⟨h.names, h.up, h.tree.drewN k, h.below.trans ⟨rfl, rfl, rfl, Nat.le_refl _, fun _ _ => rfl⟩, h.tA, h.fA, h.ht, h.sg⟩
end
theorem HOn.step {w W W3 W4 : World} {A N C : Nat} {t f t' f' : Nat → Bool} {g g' : Nat → Int} {n n' : Int} {th th' : List (ByteArray × Bool)} {st st' : List (ByteArray × Int)}
    (h : HOn w A N C t f g n th st W) (hp : HPl w A N C) (ht : TreeAt W3 (N + 3) N (N + 1) (N + 2) th' st' []) (hu : Upd (TS N (N + 1) (N + 2)) W W3) (hv : Upd (fun q => q = C ∨ q = C + 1) W3 W4)
    (hA : Bools6 W4 C t') (hF : Bools6 W4 (C + 1) f') (hth : HT t' f' th') (hsg : SG g' n' st') : HOn w A N C t' f' g' n' th' st' W4 := by
  obtain ⟨p1, p2, p3⟩ := hp
  have b3 := h.below.trans (hu.below h.below.size fun q _ hq => by unfold TS at hq; omega)
  exact ⟨hv.at (hu.at h.names (by unfold TS; omega)) (by omega), hv.at (hu.at h.up (by unfold TS; omega)) (by omega), ht.keep hv (by omega) (by omega) (by omega) (by omega),
    b3.trans (hv.below b3.size fun q _ hq => by omega), hA, hF, hth, hsg⟩
def HRel3 (W0 : World) (t : Nat → Bool) (k g : Nat) (v i : Value) (W : World) : Prop :=
  W = W0 ∧ ∃ (j : Nat), g = 6 - j ∧ j ≤ 6 ∧ i = .int .i64 j ∧ v = .bool (okRm t k j)
def HRel1 (w : World) (A N C len g : Nat) (i : Value) (W : World) : Prop :=
  ∃ (k : Nat) (t f : Nat → Bool) (s : Nat → Int) (th : List (ByteArray × Bool)) (st : List (ByteArray × Int)), g = len - k ∧ k ≤ len ∧ i = .int .i64 k ∧ HOn w A N C t f s k th st W
def HRel2 (w : World) (A N C B : Nat) (t f : Nat → Bool) (s : Nat → Int) (n : Int) (th : List (ByteArray × Bool)) (st : List (ByteArray × Int)) (g : Nat) (i : Value) (W : World) : Prop :=
  ∃ (j : Nat), g = 6 - j ∧ j ≤ 6 ∧ i = .int .i64 j ∧ HOn w A N C t f s n th st W ∧ Ints6 W B (fun m => if m < j then s m else 0)
def HCut (w : World) (A N C B k : Nat) (q2 : Bool) (s : Nat → Int) (n : Int) (s12 : Value) (W : World) : Prop :=
  ∃ (d : Bool) (t f : Nat → Bool) (s' : Nat → Int) (th : List (ByteArray × Bool)) (st : List (ByteArray × Int)), s12 = .bool d ∧ HOn w A N C t f s' n th st W ∧ Ints6 W B s ∧ s' = if d then upG s k q2 else s

def HRel4 (w : World) (A N C B : Nat) (t f : Nat → Bool) (s' s : Nat → Int) (n : Int) (th : List (ByteArray × Bool)) (st : List (ByteArray × Int)) (g : Nat) (i : Value) (W : World) : Prop :=
  ∃ (j : Nat), g = 6 - j ∧ j ≤ 6 ∧ i = .int .i64 j ∧ HOn w A N C t f s' n th st W ∧ Ints6 W B s
theorem q_eq {z : Int} (h0 : 0 ≤ z) (h1 : z ≤ 255) : (IntKind.u8.wrap (z.tdiv 6)).tmod 3 = z / 6 % 3 := by
  rw [Int.tdiv_eq_ediv_of_nonneg h0]
  have : IntKind.u8.wrap (z / 6) = z / 6 := by simp [IntKind.wrap, IntKind.signed, IntKind.bits]; omega
  rw [this, Int.tmod_eq_emod_of_nonneg (by omega)]
theorem exists_hn {w W : World} {A N C j : Nat} {t f : Nat → Bool} {g : Nat → Int} {n : Int} {th : List (ByteArray × Bool)} {st : List (ByteArray × Int)} (h : HOn w A N C t f g n th st W) (hj : j < 6) {b : Bool} (hb : t j = b) (m : Nat) :
    Calls Tryd.prog 9 #[.pointer (some ⟨N + 3, 0, none⟩), .string (hn j)] (W.drewN m) fun e w' => e = .returned (.bool b) ∧ w' = W.drewN m :=
  (exists_calls _ (by have := hn_size j; omega) (h.drewN m).tree).mono fun e w' ⟨h1, h2⟩ => ⟨by rw [h1, h.ht.at_ j hj, hb]; cases b <;> rfl, h2.symm⟩
theorem stamp_hn {w W : World} {A N C j : Nat} {t f : Nat → Bool} {g : Nat → Int} {n : Int} {th : List (ByteArray × Bool)} {st : List (ByteArray × Int)} (h : HOn w A N C t f g n th st W) (hj : j < 6) {v : Int} (hv : g j = v) (m : Nat) :
    Calls Tryd.prog 10 #[.pointer (some ⟨N + 3, 0, none⟩), .string (hn j)] (W.drewN m) fun e w' => e = .returned (.int .i64 v) ∧ w' = W.drewN m :=
  (stamp_calls _ (by have := hn_size j; omega) (h.drewN m).tree).mono fun e w' ⟨h1, h2⟩ => ⟨by rw [h1, h.sg.at_ j hj, hv], h2.symm⟩

set_option maxRecDepth 100000 in
set_option maxHeartbeats 16000000 in
theorem holds_walk (w : World) (o : Option Addr) (len cap : Nat) (zs : List Int) (hin : BytesIn w o len zs) :
    Calls Tryd.prog 4 #[.slice o len cap] w fun e w' => e = .returned (.bool true) ∧ Below w.heap.size w w' := by
  have Hin := Lib.hid hin
  clear hin
  go_enter Tryd.func4, Tryd.ntmps4
  by_cases hl : 80 < len
  · have hl' : (80 : Int) < (len : Int) := by omega
    go_wp2_with (go_at_call 6; refine (known_calls _).mono ?_; rintro e w1 ⟨rfl, hb1⟩)
    go_ret
    exact ⟨rfl, hb1⟩
  · have hl' : ¬ (80 : Int) < (len : Int) := by omega
    go_wp2_with (first | (go_at_call 6; refine (known_calls _).mono ?_; rintro e w1 ⟨rfl, hb1⟩) | (go_at_call 7; refine (new_calls _).mono ?_; rintro e w2 ⟨rfl, h2, hb2⟩; rw [World.size_alloc, World.size_alloc] at h2 hb2 ⊢))
    have hon : HOn w w1.heap.size (w1.heap.size + 1 + 1) w2.heap.size (fun _ => false) (fun _ => false) (fun _ => 0) 0 [(sR, true)] []
        ((w2.alloc (.cells #[.bool false, .bool false, .bool false, .bool false, .bool false, .bool false] 32)).alloc (.cells #[.bool false, .bool false, .bool false, .bool false, .bool false, .bool false] 32)) := by
      refine ⟨hp_alloc_old _ (hp_alloc_old _ ((hb2.block _ (by omega)).trans (hp_alloc_old _ (hp_alloc_new _ _)))), hp_alloc_old _ (hp_alloc_old _ ((hb2.block _ (by omega)).trans (hp_at _ (by simp)))), (h2.alloc _).alloc _, ?_, hp_alloc_old _ (hp_alloc_new _ _), hp_at _ (by simp), ht_zero, sg_zero⟩
      have := hb1.size
      have h3 := hb2.size
      simp only [World.size_alloc] at h3
      exact ((((hb1.alloc (by omega) _).alloc (by simp; omega) _).trans (hb2.mono (by omega))).alloc (by omega) _).alloc (by simp; omega) _
    have hp : HPl w w1.heap.size (w1.heap.size + 1 + 1) w2.heap.size := ⟨hb1.size, by omega, by have := hp_lt h2.obj; omega⟩
    generalize w1.heap.size + 1 + 1 = N at hon hp ⊢
    generalize w1.heap.size = A at hon hp ⊢
    generalize w2.heap.size = C at hon hp ⊢
    clear h2 hb2 hb1
    have HON := Lib.hid hon
    have Hp := Lib.hid hp
    clear hon hp
    go_loopg [8] len (fun g i W => HRel1 w A N C len g i W)
    case atStart => exact ⟨0, _, _, _, _, _, rfl, by omega, rfl, HON.out⟩
    case round =>
      obtain ⟨i, t, f, s, th, st, rfl, hi, rfl, hon⟩ := hrel
      clear HON
      by_cases hlt : (i : Int) < (len : Int)
      · obtain ⟨a, rfl, hb, hc, hz0, hz1⟩ := Hin.out i (by omega)
        have hc' := (hon.below.cell (p := a.add i) (by rw [add_block]; exact hb)).trans hc
        generalize zs.getD i 0 = z at hz0 hz1 hc' hc
        have Hb := Lib.hid hb
        have Hc := Lib.hid hc
        clear hc hb
        have h5 : z % 6 < 6 := by omega
        have h50 : 0 ≤ z % 6 := by omega
        obtain ⟨k, hk⟩ : ∃ k : Nat, z % 6 = k := ⟨(z % 6).toNat, by omega⟩
        have hk6 : (k : Int) < 6 := by omega
        clear h5 h50
        have Hon := Lib.hid hon
        clear hon
        go_wp2
        have hB : C + 1 < wr.heap.size := hp_lt Hon.out.fA
        have hon : HOn w A N C t f s i th st (wr.alloc (.cells #[.int .i64 0, .int .i64 0, .int .i64 0, .int .i64 0, .int .i64 0, .int .i64 0] 31)) :=
          Hon.out.other Hp.out hB (upd_alloc _ _ _)
        have hwas : Ints6 (wr.alloc (.cells #[.int .i64 0, .int .i64 0, .int .i64 0, .int .i64 0, .int .i64 0, .int .i64 0] 31)) wr.heap.size (fun m => if m < 0 then s m else 0) := hp_alloc_new _ _
        obtain ⟨B, hBe⟩ : ∃ B, wr.heap.size = B := ⟨_, rfl⟩
        rw [hBe] at hwas hB ⊢
        have Hst := Lib.hid (And.intro hon hwas)
        have Hk := Lib.hid hk
        clear hon hwas hc' hBe Hon hk
        go_loopg [11] 6 (fun g i' W => HRel2 w A N C B t f s i th st g i' W)
        case atStart => exact ⟨0, rfl, by omega, rfl, Hst.out.1, Hst.out.2⟩
        case round =>
          obtain ⟨j, rfl, hj, rfl, hon, hwas⟩ := hrel
          by_cases hj6 : (j : Int) < 6
          · have ck := hon.names.cell (k := j) (by omega)
            have cw := hwas.cell (k := j) (by omega)
            have fw := hp_frozen hwas j
            have Hon := Lib.hid hon
            have Hwas := Lib.hid hwas
            clear hon hwas
            go_wp2_with (go_at_call 10; refine (stamp_calls _ (by have := hn_size j; omega) Hon.out.tree).mono ?_; rintro e w3 ⟨rfl, rfl⟩; rw [Hon.out.sg.at_ j (by omega)])
            go_roundg (6 - (j + 1))
            case rel =>
              refine ⟨j + 1, rfl, by omega, by go_num, Hon.out.other Hp.out hB (Upd.setCell (p := ⟨B, j, none⟩) (Upd.refl (fun q => q = B) _) (fun _ => rfl) _), ?_⟩
              have := Hwas.out.set (k := j) (by omega) (s j)
              have e : (fun m => if m = j then s j else if m < j then s m else 0) = fun m => if m < j + 1 then s m else 0 := by
                funext m
                by_cases e1 : m = j
                · subst e1; simp
                · by_cases e2 : m < j
                  · rw [if_neg e1, if_pos e2, if_pos (by omega)]
                  · rw [if_neg e1, if_neg e2, if_neg (by omega)]
              rw [← e]
              exact this
            case measure => omega
          · obtain rfl : j = 6 := by omega
            have hc' := (hon.below.cell (p := a.add i) (by rw [add_block]; exact Hb.out)).trans Hc.out
            have Hon := Lib.hid hon
            have Hwas := Lib.hid hwas
            clear hon hwas
            go_upto_block 4 with fail
            go_cut [12, 13, 14, 15, 16] from 26 to 207 (fun s12 _ _ _ _ wx => HCut w A N C B k (decide (z / 6 % 3 = 2)) s (i + 1) s12 wx)
            case first =>
              have hlt80 : (i : Int) ≤ 80 := by omega
              have hkN : k < 6 := by omega
              by_cases hq0 : z / 6 % 3 = 0
              · as_aux_lemma =>
                go_upto_region 27 with fail
                go_cut [14] from 26 to 207 (fun s14 wx => s14 = .bool (okMk t f k) ∧ wx = wr)
                case first =>
                  have hul := hu_lt k
                  have ct := Hon.out.tA.cell hkN
                  have cu := Hon.out.up.cell hkN
                  obtain ⟨uk, huk⟩ : ∃ uk, hu k = uk := ⟨_, rfl⟩
                  have E : okMk t f k = (!t k && (decide (hu k < 0) || (t (hu k).toNat && f (hu k).toNat))) := rfl
                  rw [huk] at cu hul E
                  rcases htk : t k with _ | _ <;> rw [htk] at ct E
                  · by_cases h0 : uk < 0
                    · have E := Lib.hid E
                      have h0' := Lib.hid h0
                      clear htk huk
                      go_wp2
                      go_meet
                      exact ⟨by rw [E.out]; simp [h0'.out], rfl⟩
                    · obtain ⟨un, hun⟩ : ∃ un : Nat, uk = un := ⟨uk.toNat, by omega⟩
                      subst hun
                      have hun6 : (un : Int) < 6 := by omega
                      have ctu := Hon.out.tA.cell (k := un) (by omega)
                      have cfu := Hon.out.fA.cell (k := un) (by omega)
                      have e0 : decide ((un : Int) < 0) = false := decide_eq_false (by omega)
                      rw [Int.toNat_natCast, e0] at E
                      clear e0
                      rcases htu : t un with _ | _ <;> rw [htu] at ctu E
                      · have E := Lib.hid E
                        clear htk huk htu
                        go_wp2
                        go_meet
                        exact ⟨by rw [E.out]; simp, rfl⟩
                      · have E := Lib.hid E
                        clear htk huk htu
                        go_wp2
                        go_meet
                        exact ⟨by rw [E.out]; simp, rfl⟩
                  · have E := Lib.hid E
                    clear htk huk
                    go_wp2
                    go_meet
                    exact ⟨by rw [E.out]; rfl, rfl⟩
                case rest =>
                  obtain ⟨rfl, rfl⟩ := hcut
                  have ck := Hon.out.names.cell hkN
                  obtain ⟨fb, hfb⟩ : ∃ fb, decide (0 < z / 18 % 4) = fb := ⟨_, rfl⟩
                  rw [hfb]
                  clear hfb
                  rcases hok : okMk t f k with _ | _
                  · obtain ⟨en, hen, hE⟩ : ∃ en, en ≠ 0 ∧ makeE th (hn k) = en := ⟨_, by rw [hok]; cases t k <;> simp, make_HT Hon.out.ht hkN⟩
                    have HE := Lib.hid hE
                    have hne : ¬ en = 0 := hen
                    clear hE
                    go_wp2_with (go_at_call 8; refine (make_not _ _ (hn_size k) Hon.out.tree HE.out hen).mono ?_; rintro e w3 ⟨rfl, h3, hu3⟩)
                    go_meet
                    have hp := Hp.out
                    unfold HPl at hp
                    exact ⟨false, t, f, s, th, st, rfl, Hon.out.upd Hp.out h3 hu3 Hon.out.ht Hon.out.sg.same, hu3.at Hwas.out (by unfold TS; omega), rfl⟩
                  · have HE : Hid (makeE th (hn k) = 0) := Lib.hid (by rw [make_HT Hon.out.ht hkN, hok]; rfl)
                    have Hok := Lib.hid hok
                    have hp := Hp.out
                    unfold HPl at hp
                    go_wp2_with (go_at_call 8; refine (make_yes _ _ (hn_size k) Hon.out.tree HE.out).mono ?_; rintro e w3 ⟨rfl, h3, hu3⟩; have ht3 := hu3.at Hon.out.tA (by unfold TS; omega); have hf3 := hu3.at Hon.out.fA (by unfold TS; omega); have fz1 := hp_frozen ht3 k; have cc1 := Bools6.cell ht3 hkN; have hf4 := (hp_setCell_other (p := ⟨C, k, none⟩) (.bool true) (show C + 1 ≠ C by omega)).trans hf3; have fz2 := hp_frozen hf4 k; have cc2 := Bools6.cell hf4 hkN; have H3 := Lib.hid h3; have Ht3 := Lib.hid ht3; have Hf3 := Lib.hid hf3; have Hf4 := Lib.hid hf4; clear h3 ht3 hf3 hf4)
                    go_meet
                    have hv : Upd (fun q => q = C ∨ q = C + 1) w3 ((w3.setCell ⟨C, k, none⟩ (.bool true)).setCell ⟨C + 1, k, none⟩ (.bool fb)) :=
                      Upd.setCell (p := ⟨C + 1, k, none⟩) (Upd.setCell (p := ⟨C, k, none⟩) (Upd.refl _ _) (fun _ => .inl rfl) _) (fun _ => .inr rfl) _
                    have hA4 : Bools6 ((w3.setCell ⟨C, k, none⟩ (.bool true)).setCell ⟨C + 1, k, none⟩ (.bool fb)) C (setB t k true) :=
                      (hp_setCell_other (p := ⟨C + 1, k, none⟩) _ (show C ≠ C + 1 by omega)).trans (Bools6.set Ht3.out hkN true)
                    exact ⟨true, _, _, upG s k false, _, _, rfl, Hon.out.step Hp.out H3.out hu3 hv hA4 (Bools6.set Hf4.out hkN fb) (Hon.out.ht.make hkN fb Hok.out) (Hon.out.sg.chg hkN (by omega)),
                      hv.at (hu3.at Hwas.out (by unfold TS; omega)) (by omega), by simp [hq0]⟩
              · by_cases hq1 : z / 6 % 3 = 1
                · as_aux_lemma =>
                  have ct := Hon.out.tA.cell hkN
                  go_wp2
                  go_loopg [15, 16] 6 (fun g v i' W => HRel3 wr t k g v i' W)
                  case atStart => exact ⟨rfl, 0, rfl, by omega, rfl, rfl⟩
                  case round =>
                    obtain ⟨rfl, j, rfl, hj, rfl, rfl⟩ := hrel
                    by_cases hj6 : (j : Int) < 6
                    · have ctj := Hon.out.tA.cell (k := j) (by omega)
                      have cuj := Hon.out.up.cell (k := j) (by omega)
                      have E : okRm t k (j + 1) = (okRm t k j && !(t j && decide (hu j = k))) := rfl
                      obtain ⟨uj, huj⟩ : ∃ uj, hu j = uj := ⟨_, rfl⟩
                      rw [huj] at cuj E
                      obtain ⟨tj, htj⟩ : ∃ tj, t j = tj := ⟨_, rfl⟩
                      rw [htj] at ctj E
                      clear huj htj ct
                      rcases hok : okRm t k j with _ | _ <;> rw [hok] at E
                      · have E := Lib.hid E
                        clear hok
                        go_wp2
                        go_roundg (6 - (j + 1))
                        case rel => exact ⟨rfl, j + 1, rfl, by omega, by go_num, by rw [E.out]; rfl⟩
                        case measure => omega
                      · rcases tj with _ | _
                        · have E := Lib.hid E
                          clear hok
                          go_wp2
                          go_roundg (6 - (j + 1))
                          case rel => exact ⟨rfl, j + 1, rfl, by omega, by go_num, by rw [E.out]; rfl⟩
                          case measure => omega
                        · by_cases hku : uj = (k : Int)
                          · rw [decide_eq_true hku] at E
                            subst hku
                            have E := Lib.hid E
                            clear hok
                            go_wp2
                            go_roundg (6 - (j + 1))
                            case rel => exact ⟨rfl, j + 1, rfl, by omega, by go_num, by rw [E.out]; rfl⟩
                            case measure => omega
                          · rw [decide_eq_false hku] at E
                            have E := Lib.hid E
                            have Hku := Lib.hid hku
                            clear hok
                            go_wp2
                            go_roundg (6 - (j + 1))
                            case rel => exact ⟨rfl, j + 1, rfl, by omega, by go_num, by rw [E.out]; simp [Hku.out]⟩
                            case measure => omega
                    · obtain rfl : j = 6 := by omega
                      have ck := Hon.out.names.cell hkN
                      have hp := Hp.out
                      unfold HPl at hp
                      rcases hok : okRm t k 6 with _ | _
                      · obtain ⟨en, hen, hE⟩ : ∃ en, en ≠ 0 ∧ removeE th [] (hn k) = en := ⟨_, by rw [hok]; cases t k <;> simp, remove_HT Hon.out.ht hkN⟩
                        have HE := Lib.hid hE
                        have hne : ¬ en = 0 := hen
                        have hok := Lib.hid hok
                        clear hE ct
                        go_wp2_with (go_at_call 11; refine (remove_not _ (hn_size k) Hon.out.tree HE.out hen).mono ?_; rintro e w3 ⟨rfl, h3, hu3⟩)
                        go_meet
                        exact ⟨false, t, f, s, th, st, rfl, Hon.out.upd Hp.out h3 hu3 Hon.out.ht Hon.out.sg.same, hu3.at Hwas.out (by unfold TS; omega), rfl⟩
                      · have HE : Hid (removeE th [] (hn k) = 0) := Lib.hid (by rw [remove_HT Hon.out.ht hkN, hok]; rfl)
                        have Hok := Lib.hid hok
                        clear hok ct
                        go_wp2_with (go_at_call 11; refine (remove_yes _ (hn_size k) Hon.out.tree HE.out).mono ?_; rintro e w3 ⟨rfl, h3, hu3⟩; have ht3 := hu3.at Hon.out.tA (by unfold TS; omega); have fz1 := hp_frozen ht3 k; have cc1 := Bools6.cell ht3 hkN; have H3 := Lib.hid h3; have Ht3 := Lib.hid ht3; clear h3 ht3)
                        go_meet
                        have hv : Upd (fun q => q = C ∨ q = C + 1) w3 (w3.setCell ⟨C, k, none⟩ (.bool false)) := Upd.setCell (p := ⟨C, k, none⟩) (Upd.refl _ _) (fun _ => .inl rfl) _
                        exact ⟨true, _, _, upG s k false, _, _, rfl, Hon.out.step Hp.out H3.out hu3 hv (Bools6.set Ht3.out hkN false) ((hp_setCell_other (p := ⟨C, k, none⟩) _ (show C + 1 ≠ C by omega)).trans (hu3.at Hon.out.fA (by unfold TS; omega))) (Hon.out.ht.remove hkN Hok.out) (Hon.out.sg.chg hkN (by omega)),
                          hv.at (hu3.at Hwas.out (by unfold TS; omega)) (by omega), by simp [hq1]⟩
                · as_aux_lemma =>
                  have hq2 : z / 6 % 3 = 2 := by omega
                  have HQ2 := Lib.hid hq2
                  clear hq2
                  have ct := Hon.out.tA.cell hkN
                  have ck := Hon.out.names.cell hkN
                  have hp := Hp.out
                  unfold HPl at hp
                  rcases htk : t k with _ | _ <;> rw [htk] at ct
                  · have HE : Hid (foundE th (hn k) = 110) := Lib.hid (by rw [found_HT Hon.out.ht hkN, htk]; rfl)
                    clear htk
                    go_wp2_with (go_at_call 12; refine (touch_not _ (hn_size k) Hon.out.tree HE.out (by decide)).mono ?_; rintro e w3 ⟨rfl, h3, hu3⟩; have ht3 := hu3.at Hon.out.tA (by unfold TS; omega); have cc1 := Bools6.cell ht3 hkN; rw [← Hon.out.tA.cell hkN, ct] at cc1; have H3 := Lib.hid h3; clear h3 ht3)
                    go_quiet (fail)
                    go_wp2
                    go_meet
                    exact ⟨false, t, f, s, th, st, rfl, (Hon.out.upd Hp.out H3.out hu3 Hon.out.ht Hon.out.sg.same).drewN _, hu3.at Hwas.out (by unfold TS; omega), rfl⟩
                  · have HE : Hid (foundE th (hn k) = 0) := Lib.hid (by rw [found_HT Hon.out.ht hkN, htk]; rfl)
                    have Htk := Lib.hid htk
                    clear htk
                    go_wp2_with (go_at_call 12; refine (touch_yes _ (hn_size k) Hon.out.tree HE.out).mono ?_; rintro e w3 ⟨rfl, h3, hu3⟩; have ht3 := hu3.at Hon.out.tA (by unfold TS; omega); have cc1 := Bools6.cell ht3 hkN; rw [Htk.out] at cc1; have hn3 := hu3.at Hon.out.names (by unfold TS; omega); have cc2 := Names6.cell hn3 hkN; have hw3 := hu3.at Hwas.out (by unfold TS; omega); have cc3 := Ints6.cell hw3 hkN; have H3 := Lib.hid (Hon.out.upd Hp.out h3 hu3 Hon.out.ht (Hon.out.sg.touch hkN (by omega))); have Hw3 := Lib.hid hw3; clear h3 ht3 hn3 hw3)
                    have hlo := Hon.out.sg.lo k hkN
                    have hhi := Hon.out.sg.hi k hkN
                    obtain ⟨v, hv⟩ : ∃ v, v = s k + 1 := ⟨_, rfl⟩
                    have hw : IntKind.i64.wrap (s k + 1) = v := by rw [hv]; simp [IntKind.wrap, IntKind.signed, IntKind.bits]; omega
                    have hS := Lib.hid fun m => stamp_hn H3.out hkN (v := v) (by rw [hv]; simp [upG]) m
                    have hne : (v != IntKind.i64.wrap (s k + 1)) = false := by rw [hw]; simp
                    have hne2 : (v != s k + 1) = false := by rw [hv]; simp
                    have hne3 : (v != wrap64 (s k + 1)) = false := by rw [wrap_small (by omega) (by omega), hv]; simp
                    clear hw hv hlo hhi
                    go_quiet ((go_at_call 10; exact Calls.quiet_of_same (hS.out _)))
                    go_wp2
                    go_meet
                    exact ⟨true, t, f, upG s k true, _, _, rfl, H3.out.drewN _, Hw3.out, by simp [HQ2.out]⟩
            case rest =>
              obtain ⟨d, t2, f2, s2, th2, st2, rfl, hon, hwas, hs2⟩ := hcut
              have Hst2 := Lib.hid (And.intro hon hwas)
              have Hlt := Lib.hid hlt
              have Hs2 := Lib.hid hs2
              clear hon hwas Hon Hwas hlt hc' hs2
              go_wp2
              go_loopg [17] 6 (fun g i' W => HRel4 w A N C B t2 f2 s2 s (i + 1) th2 st2 g i' W)
              case atStart => exact ⟨0, rfl, by omega, rfl, Hst2.out.1, Hst2.out.2⟩
              case round =>
                obtain ⟨j, rfl, hj, rfl, hon, hwas⟩ := hrel
                clear Hst2
                by_cases hj6 : (j : Int) < 6
                · have Hon := Lib.hid hon
                  have Hwas := Lib.hid hwas
                  have ck := hon.names.cell (k := j) (by omega)
                  have ct := hon.tA.cell (k := j) (by omega)
                  have cw := hwas.cell (k := j) (by omega)
                  have cu := hon.up.cell (k := k) (by omega)
                  have cz := (hon.below.cell (p := a.add i) (by rw [add_block]; exact Hb.out)).trans Hc.out
                  obtain ⟨tj, htj⟩ : ∃ tj, t2 j = tj := ⟨_, rfl⟩
                  rw [htj] at ct
                  have htt : (tj != tj) = false := by simp
                  obtain ⟨uk, huk⟩ : ∃ uk, hu k = uk := ⟨_, rfl⟩
                  rw [huk] at cu
                  have Huk := Lib.hid huk
                  clear huk
                  have hlt := Hlt.out
                  obtain ⟨v, hv⟩ : ∃ v, v = s j + 1 := ⟨_, rfl⟩
                  have hne : ¬ v = s j := by omega
                  have hne' : (v != s j) = true := by simpa using hne
                  have Hv := Lib.hid hv
                  clear hv
                  clear hon hwas
                  rcases d with _ | _
                  · have hS := fun m => stamp_hn Hon.out (j := j) (by omega) (v := s j) (by rw [Hs2.out]; rfl) m
                    (as_aux_lemma =>
                      have hX := fun m => exists_hn Hon.out (j := j) (by omega) htj m
                      have hX := Lib.hid hX
                      have hS := Lib.hid hS
                      clear htj
                      go_wp2
                      go_quiet (first | (go_at_call 9; exact Calls.quiet_of_same (hX.out _)) | (go_at_call 10; exact Calls.quiet_of_same (hS.out _)))
                      go_wp2
                      go_roundg (6 - (j + 1))
                      case rel => exact ⟨j + 1, rfl, by omega, by go_num, Hon.out.drewN _, Hwas.out⟩
                      case measure => omega)
                  · by_cases hjk : j = k
                    · subst hjk
                      have hS := fun m => stamp_hn Hon.out (j := j) (by omega) (v := v) (by rw [Hs2.out, Hv.out]; simp [upG]) m
                      (as_aux_lemma =>
                        have hX := fun m => exists_hn Hon.out (j := j) (by omega) htj m
                        have hX := Lib.hid hX
                        have hS := Lib.hid hS
                        clear htj
                        go_wp2
                        go_quiet (first | (go_at_call 9; exact Calls.quiet_of_same (hX.out _)) | (go_at_call 10; exact Calls.quiet_of_same (hS.out _)))
                        go_wp2
                        go_roundg (6 - (j + 1))
                        case rel => exact ⟨j + 1, rfl, by omega, by go_num, Hon.out.drewN _, Hwas.out⟩
                        case measure => omega)
                    · have hjk' : ¬ (j : Int) = (k : Int) := by omega
                      by_cases hq : z / 6 % 3 = 2
                      · have HQ := Lib.hid hq
                        have hq' : ((IntKind.u8.wrap (z.tdiv 6)).tmod 3 != 2) = false := by rw [q_eq hz0 hz1, hq]; rfl
                        clear hq
                        have hS := fun m => stamp_hn Hon.out (j := j) (by omega) (v := s j) (by rw [Hs2.out]; simp [upG, hjk, HQ.out]) m
                        (as_aux_lemma =>
                          have hX := fun m => exists_hn Hon.out (j := j) (by omega) htj m
                          have hX := Lib.hid hX
                          have hS := Lib.hid hS
                          clear htj
                          go_wp2
                          go_quiet (first | (go_at_call 9; exact Calls.quiet_of_same (hX.out _)) | (go_at_call 10; exact Calls.quiet_of_same (hS.out _)))
                          go_wp2
                          go_roundg (6 - (j + 1))
                          case rel => exact ⟨j + 1, rfl, by omega, by go_num, Hon.out.drewN _, Hwas.out⟩
                          case measure => omega)
                      · have HQ := Lib.hid hq
                        have hq' : ((IntKind.u8.wrap (z.tdiv 6)).tmod 3 != 2) = true := by rw [q_eq hz0 hz1]; simpa using hq
                        by_cases hku : (j : Int) = uk
                        · have Hku : Hid (uk = (j : Int)) := Lib.hid hku.symm
                          have hku' : ((j : Int) == uk) = true := by simpa using hku
                          clear hku
                          have hS := fun m => stamp_hn Hon.out (j := j) (by omega) (v := v) (by rw [Hs2.out, Hv.out]; simp [upG, HQ.out, Huk.out, Hku.out]) m
                          (as_aux_lemma =>
                            have hX := fun m => exists_hn Hon.out (j := j) (by omega) htj m
                            have hX := Lib.hid hX
                            have hS := Lib.hid hS
                            clear htj
                            go_wp2
                            go_quiet (first | (go_at_call 9; exact Calls.quiet_of_same (hX.out _)) | (go_at_call 10; exact Calls.quiet_of_same (hS.out _)))
                            go_wp2
                            go_roundg (6 - (j + 1))
                            case rel => exact ⟨j + 1, rfl, by omega, by go_num, Hon.out.drewN _, Hwas.out⟩
                            case measure => omega)
                        · have Hku : Hid (¬ uk = (j : Int)) := Lib.hid fun e => hku e.symm
                          have hku' : ((j : Int) == uk) = false := by simpa using hku
                          have hS := fun m => stamp_hn Hon.out (j := j) (by omega) (v := s j) (by rw [Hs2.out]; simp [upG, hjk, HQ.out, Huk.out, Hku.out]) m
                          (as_aux_lemma =>
                            have hX := fun m => exists_hn Hon.out (j := j) (by omega) htj m
                            have hX := Lib.hid hX
                            have hS := Lib.hid hS
                            clear htj
                            go_wp2
                            go_quiet (first | (go_at_call 9; exact Calls.quiet_of_same (hX.out _)) | (go_at_call 10; exact Calls.quiet_of_same (hS.out _)))
                            go_wp2
                            go_roundg (6 - (j + 1))
                            case rel => exact ⟨j + 1, rfl, by omega, by go_num, Hon.out.drewN _, Hwas.out⟩
                            case measure => omega)
                · go_wp2
                  go_roundg (len - (i + 1))
                  case rel => exact ⟨i + 1, t2, f2, s2, th2, st2, rfl, by have := Hlt.out; omega, by go_num, by have := hon; simpa using this⟩
                  case measure => have := Hlt.out; omega
      · go_wp2
        go_ret
        exact ⟨rfl, hon.below⟩
end Go.Proofs.YtopfgaogfnepfaaDoor
