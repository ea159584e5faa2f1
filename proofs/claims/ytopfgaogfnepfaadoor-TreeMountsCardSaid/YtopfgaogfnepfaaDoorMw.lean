/- TreeMounts: the walk. -/
import Derived.Test.YtopfgaogfnepfaaDoorMp
import Derived.Test.YtopfgaogfnepfaaDoorI
import Derived.Deep.LoopGhost
import Derived.Deep.CutRange
import Derived.Deep.DeepCutAuto
namespace Go.Proofs.YtopfgaogfnepfaaDoor
open Go.RowKit Go.Rv

def NamesAt (W : World) (A : Nat) : Prop := W.heap[A]? = some (.cells #[.string sA, .string sAB, .string sABC, .string sD, .string sAb] 36)
def OnAt (W : World) (B : Nat) (on : Nat → Bool) : Prop := W.heap[B]? = some (.cells #[.bool (on 0), .bool (on 1), .bool (on 2), .bool (on 3), .bool (on 4)] 37)
def MTree (w : World) (A : Nat) (th : List (ByteArray × Bool)) (st : List (ByteArray × Int)) (mo : List (ByteArray × ByteArray)) (W : World) : Prop :=
  NamesAt W A ∧ TreeAt W (A + 1 + 3) (A + 1) (A + 1 + 1) (A + 1 + 2) th st mo ∧ Below w.heap.size w W
def MRel1 (w : World) (A g : Nat) (i : Value) (W : World) : Prop :=
  ∃ (k : Nat) (st : List (ByteArray × Int)), g = 5 - k ∧ k ≤ 5 ∧ i = .int .i64 k ∧ MTree w A (upto k) st [] W
def MOn (w : World) (A B : Nat) (on : Nat → Bool) (W : World) : Prop :=
  ∃ (st : List (ByteArray × Int)) (mo : List (ByteArray × ByteArray)), MTree w A (upto 5) st mo W ∧ MO on mo ∧ OnAt W B on
def MRel2 (w : World) (A B len g : Nat) (i : Value) (W : World) : Prop :=
  ∃ (k : Nat) (on : Nat → Bool), g = len - k ∧ k ≤ len ∧ i = .int .i64 k ∧ MOn w A B on W
def MRel3 (w : World) (A B : Nat) (on : Nat → Bool) (g : Nat) (i : Value) (W : World) : Prop :=
  ∃ (k : Nat), g = 5 - k ∧ k ≤ 5 ∧ i = .int .i64 k ∧ MOn w A B on W

theorem NamesAt.cell {W : World} {A k : Nat} (h : NamesAt W A) (hk : k < 5) : W.cell? ⟨A, k, none⟩ = some (.string (nm k)) := by
  rw [hp_cell h]
  match k, hk with
  | 0, _ | 1, _ | 2, _ | 3, _ | 4, _ => rfl
theorem OnAt.cell {W : World} {B k : Nat} {on : Nat → Bool} (h : OnAt W B on) (hk : k < 5) : W.cell? ⟨B, k, none⟩ = some (.bool (on k)) := by
  rw [hp_cell h]
  match k, hk with
  | 0, _ | 1, _ | 2, _ | 3, _ | 4, _ => rfl
theorem MTree.upd {w W W' : World} {A : Nat} {th th' : List (ByteArray × Bool)} {st st' : List (ByteArray × Int)} {mo mo' : List (ByteArray × ByteArray)} (h : MTree w A th st mo W) (hA : w.heap.size ≤ A)
    (ht : TreeAt W' (A + 1 + 3) (A + 1) (A + 1 + 1) (A + 1 + 2) th' st' mo') (hu : Upd (TS (A + 1) (A + 1 + 1) (A + 1 + 2)) W W') : MTree w A th' st' mo' W' :=
  ⟨(hu.at h.1 (by unfold TS; omega)), ht, h.2.2.trans (hu.below h.2.2.size fun q _ hq => by unfold TS at hq; omega)⟩

theorem OnAt.set {W : World} {B k : Nat} {on : Nat → Bool} (h : OnAt W B on) (hk : k < 5) (b : Bool) : OnAt (W.setCell ⟨B, k, none⟩ (.bool b)) B (set1 on k b) := by
  rw [OnAt, hp_setCell_same h]
  match k, hk with
  | 0, _ | 1, _ | 2, _ | 3, _ | 4, _ => rfl
theorem MO.same {on : Nat → Bool} {mo : List (ByteArray × ByteArray)} {k : Nat} {b : Bool} (h : MO on mo) (hb : on k = b) : MO (set1 on k b) mo := by
  rw [← hb, set1_same]; exact h
theorem MTree.set {w W : World} {A B k : Nat} {th : List (ByteArray × Bool)} {st : List (ByteArray × Int)} {mo : List (ByteArray × ByteArray)} (h : MTree w A th st mo W) (hA : w.heap.size ≤ A) (hB : A + 4 < B) (v : Value) :
    MTree w A th st mo (W.setCell ⟨B, k, none⟩ v) := by
  have hu : Upd (fun q => q = B) W (W.setCell ⟨B, k, none⟩ v) := Upd.setCell (p := ⟨B, k, none⟩) (Upd.refl (fun q => q = B) W) (fun _ => rfl) v
  exact ⟨hu.at h.1 (by omega), h.2.1.keep hu (by omega) (by omega) (by omega) (by omega), h.2.2.trans (hu.below h.2.2.size fun q _ hq => by omega)⟩

set_option maxRecDepth 100000 in
set_option maxHeartbeats 1000000 in
theorem mounts_walk (w : World) (o : Option Addr) (len cap : Nat) (zs : List Int) (hin : BytesIn w o len zs) :
    Calls Tryd.prog 5 #[.slice o len cap] w fun e w' => e = .returned (.bool true) ∧ Below w.heap.size w w' := by
  have Hin := Lib.hid hin
  clear hin
  go_enter Tryd.func5, Tryd.ntmps5
  by_cases hl : 50 < len
  · have hl' : (50 : Int) < (len : Int) := by omega
    go_wp2_with (go_at_call 6; refine (known_calls _).mono ?_; rintro e w1 ⟨rfl, hb1⟩)
    go_ret
    exact ⟨rfl, hb1⟩
  · have hl' : ¬ (50 : Int) < (len : Int) := by omega
    go_wp2_with (first | (go_at_call 6; refine (known_calls _).mono ?_; rintro e w1 ⟨rfl, hb1⟩) | (go_at_call 7; refine (new_calls _).mono ?_; rintro e w2 ⟨rfl, h2, hb2⟩; rw [World.size_alloc] at h2 hb2 ⊢))
    have hN : NamesAt w2 w1.heap.size := by
      rw [NamesAt, hb2.block _ (by omega)]
      exact (hp_alloc_new _ _).trans rfl
    have hb3 : Below w.heap.size w w2 := (hb1.alloc hb1.size _).trans (hb2.mono (by have := hb1.size; omega))
    have hsz := hb1.size
    obtain ⟨A, hA⟩ : ∃ A, w1.heap.size = A := ⟨_, rfl⟩
    rw [hA] at h2 hN hsz ⊢
    have HN := Lib.hid hN
    clear hN hb2 hb1 hA
    go_loopg [5] 5 (fun g i W => MRel1 w A g i W)
    case atStart => exact ⟨0, _, rfl, by omega, rfl, HN.out, h2, hb3⟩
    case round =>
      obtain ⟨k, st, rfl, hk, rfl, hm⟩ := hrel
      by_cases hk5 : (k : Int) < 5
      · have ck := hm.1.cell (k := k) (by omega)
        go_wp2_with (go_at_call 8; refine (make_yes _ true (nm_size k) hm.2.1 (upto_make (by omega))).mono ?_; rintro e w3 ⟨rfl, h3, hu3⟩)
        go_roundg (5 - (k + 1))
        case rel => exact ⟨k + 1, _, rfl, by omega, by go_num, hm.upd hsz h3 hu3⟩
        case measure => omega
      · obtain rfl : k = 5 := by omega
        go_wp2
        have hon : MOn w A wr.heap.size (fun _ => false) (wr.alloc (.cells #[.bool false, .bool false, .bool false, .bool false, .bool false] 37)) :=
          ⟨st, [], ⟨hp_alloc_old _ hm.1, hm.2.1.alloc _, hm.2.2.alloc hm.2.2.size _⟩, mo_nil, hp_alloc_new _ _⟩
        have hB : A + 4 < wr.heap.size := hp_lt hm.2.1.obj
        obtain ⟨B, hBe⟩ : ∃ B, wr.heap.size = B := ⟨_, rfl⟩
        rw [hBe] at hon hB ⊢
        have HON := Lib.hid hon
        clear hBe hm hon
        go_loopg [7] len (fun g i W => MRel2 w A B len g i W)
        case atStart => exact ⟨0, _, rfl, by omega, rfl, HON.out⟩
        case round =>
          obtain ⟨i, on, rfl, hi, rfl, hon⟩ := hrel
          clear HON
          by_cases hlt : (i : Int) < (len : Int)
          · obtain ⟨a, rfl, hb, hc, hz0, hz1⟩ := Hin.out i (by omega)
            obtain ⟨st, mo, hm, hmo, hat⟩ := hon
            have hc' := (hm.2.2.cell (p := a.add i) (by rw [add_block]; exact hb)).trans hc
            generalize zs.getD i 0 = z at hz0 hz1 hc'
            have hcc := hc'
            have hB' : w.heap.size ≤ B := by omega
            clear hc hb hc'
            have h5 : z % 5 < 5 := by omega
            have h50 : 0 ≤ z % 5 := by omega
            obtain ⟨k, hk⟩ : ∃ k : Nat, z % 5 = k := ⟨(z % 5).toNat, by omega⟩
            have hk5 : (k : Int) < 5 := by omega
            clear h5 h50
            have ck := hm.1.cell (k := k) (by omega)
            have c1 := hat.cell (k := 1) (by omega)
            have c2 := hat.cell (k := 2) (by omega)
            have cok := hat.cell (k := k) (by omega)
            have Hmo := Lib.hid hmo
            have Hat := Lib.hid hat
            have Hm := Lib.hid hm
            clear hat hmo hm
            go_upto_region 17 with fail
            go_cut [9] from 32 to 179 (fun b9 wx => b9 = .bool (belowK on k) ∧ wx = wr)
            case first =>
              rcases h1 : on 1 with _ | _ <;> rcases h2 : on 2 with _ | _ <;> rw [h1] at c1 <;> rw [h2] at c2 <;> (
                have E : belowK on k = ((k == 0 && (on 1 || on 2)) || (k == 1 && on 2)) := rfl
                rw [h1, h2] at E
                rcases Nat.lt_or_ge k 2 with hk2 | hk2
                · rcases Nat.lt_or_ge k 1 with hk1 | hk1
                  · obtain rfl : k = 0 := by omega
                    have E := Lib.hid E
                    clear h1 h2
                    go_wp2
                    go_meet
                    exact ⟨by rw [E.out]; rfl, rfl⟩
                  · obtain rfl : k = 1 := by omega
                    have E := Lib.hid E
                    clear h1 h2
                    go_wp2
                    go_meet
                    exact ⟨by rw [E.out]; rfl, rfl⟩
                · have n0 : ¬ (k : Int) = 0 := by omega
                  have n1 : ¬ (k : Int) = 1 := by omega
                  have n0' : (k == 0) = false := by simp; omega
                  have n1' : (k == 1) = false := by simp; omega
                  rw [n0', n1'] at E
                  have E := Lib.hid E
                  clear h1 h2 n0' n1'
                  go_wp2
                  go_meet
                  exact ⟨by rw [E.out]; rfl, rfl⟩)
            case rest =>
              obtain ⟨rfl, rfl⟩ := hcut
              go_upto_if 68 with fail
              go_cut [9, 10, 11] from 32 to 179 (fun _ _ _ wx => ∃ on', MOn w A B on' wx)
              case first =>
                have hfz := hp_frozen Hat.out k
                by_cases hq : z / 5 % 2 = 0
                · rcases ho : on k with _ | _ <;> rw [ho] at cok
                  · have HE : Hid (mountE (upto 5) mo (nm k) = 0) := Lib.hid (by rw [mount_on Hmo.out (by omega), ho]; rfl)
                    have ho := Lib.hid ho
                    go_wp2_with (go_at_call 13; refine (mount_yes sDisk _ (nm_size k) Hm.out.2.1 HE.out).mono ?_; rintro e w3 ⟨rfl, h3, hu3⟩; have hat3 := hu3.at Hat.out (by unfold TS; omega); have hfz3 := hp_frozen hat3 k; have cok3 := OnAt.cell hat3 (k := k) (by omega); rw [ho.out] at cok3; have hm3 := Lib.hid (Hm.out.upd hsz h3 hu3); have hat3 := Lib.hid hat3)
                    go_meet
                    exact ⟨_, st, _, hm3.out.set hsz hB _, Hmo.out.put (by omega), OnAt.set hat3.out (by omega) true⟩
                  · have HE : Hid (mountE (upto 5) mo (nm k) = 112) := Lib.hid (by rw [mount_on Hmo.out (by omega), ho]; rfl)
                    have ho := Lib.hid ho
                    go_wp2_with (go_at_call 13; refine (mount_not sDisk _ (nm_size k) Hm.out.2.1 HE.out (by decide)).mono ?_; rintro e w3 ⟨rfl, h3, hu3⟩; have hat3 := hu3.at Hat.out (by unfold TS; omega); have hfz3 := hp_frozen hat3 k; have cok3 := OnAt.cell hat3 (k := k) (by omega); rw [ho.out] at cok3; have hm3 := Lib.hid (Hm.out.upd hsz h3 hu3); have hat3 := Lib.hid hat3)
                    go_meet
                    exact ⟨_, st, _, hm3.out.set hsz hB _, Hmo.out.same ho.out, OnAt.set hat3.out (by omega) true⟩
                · rcases ho : on k with _ | _ <;> rw [ho] at cok
                  · have HE : Hid (unmountE mo (nm k) = 110) := Lib.hid (by rw [unmount_on Hmo.out (by omega), ho]; rfl)
                    have ho := Lib.hid ho
                    go_wp2_with (go_at_call 14; refine (unmount_not _ (nm_size k) Hm.out.2.1 HE.out (by decide)).mono ?_; rintro e w3 ⟨rfl, h3, hu3⟩; have hat3 := hu3.at Hat.out (by unfold TS; omega); have hfz3 := hp_frozen hat3 k; have cok3 := OnAt.cell hat3 (k := k) (by omega); rw [ho.out] at cok3; have hm3 := Lib.hid (Hm.out.upd hsz h3 hu3); have hat3 := Lib.hid hat3)
                    go_meet
                    exact ⟨_, st, _, hm3.out.set hsz hB _, Hmo.out.same ho.out, OnAt.set hat3.out (by omega) false⟩
                  · rcases hbk : belowK on k with _ | _
                    · have HE : Hid (unmountE mo (nm k) = 0) := Lib.hid (by rw [unmount_on Hmo.out (by omega), ho, hbk]; rfl)
                      have ho := Lib.hid ho
                      have hbk := Lib.hid hbk
                      go_wp2_with (go_at_call 14; refine (unmount_yes _ (nm_size k) Hm.out.2.1 HE.out).mono ?_; rintro e w3 ⟨rfl, h3, hu3⟩; have hat3 := hu3.at Hat.out (by unfold TS; omega); have hfz3 := hp_frozen hat3 k; have cok3 := OnAt.cell hat3 (k := k) (by omega); rw [ho.out] at cok3; have hm3 := Lib.hid (Hm.out.upd hsz h3 hu3); have hat3 := Lib.hid hat3)
                      go_meet
                      exact ⟨_, st, _, hm3.out.set hsz hB _, Hmo.out.del (by omega), OnAt.set hat3.out (by omega) false⟩
                    · have HE : Hid (unmountE mo (nm k) = 112) := Lib.hid (by rw [unmount_on Hmo.out (by omega), ho, hbk]; rfl)
                      have ho := Lib.hid ho
                      have hbk := Lib.hid hbk
                      go_wp2_with (go_at_call 14; refine (unmount_not _ (nm_size k) Hm.out.2.1 HE.out (by decide)).mono ?_; rintro e w3 ⟨rfl, h3, hu3⟩; have hat3 := hu3.at Hat.out (by unfold TS; omega); have hfz3 := hp_frozen hat3 k; have cok3 := OnAt.cell hat3 (k := k) (by omega); rw [ho.out] at cok3; have hm3 := Lib.hid (Hm.out.upd hsz h3 hu3); have hat3 := Lib.hid hat3)
                      go_meet
                      exact ⟨_, st, _, hm3.out.set hsz hB _, Hmo.out.same ho.out, OnAt.set hat3.out (by omega) true⟩
              case rest =>
              obtain ⟨on', hcut⟩ := hcut
              have Hlt := Lib.hid hlt
              clear ck c1 c2 cok Hmo Hat Hm hcc hk hk5 hlt
              have HC := Lib.hid hcut
              clear hcut
              go_wp2
              go_loopg [12] 5 (fun g i W => MRel3 w A B on' g i W)
              case atStart => exact ⟨0, rfl, by omega, rfl, HC.out⟩
              case round =>
                obtain ⟨k2, rfl, hk2, rfl, hon2⟩ := hrel
                obtain ⟨st2, mo2, hm2, hmo2, hat2⟩ := hon2
                by_cases hk5 : (k2 : Int) < 5
                · have ck := hm2.1.cell (k := k2) (by omega)
                  have cok := hat2.cell (k := k2) (by omega)
                  have Hm := Lib.hid hm2
                  have Hmo := Lib.hid hmo2
                  have Hat := Lib.hid hat2
                  clear hm2 hmo2 hat2
                  rcases ho : on' k2 with _ | _ <;> rw [ho] at cok
                  · have HL : Hid (kget mo2 (nm k2) = none) := Lib.hid (by rw [Hmo.out.at_ _ (by omega), ho]; rfl)
                    have ho := Lib.hid ho
                    go_wp2_with (first | (go_at_call 15; refine (mounted_calls _ (by have := nm_size k2; omega) Hm.out.2.1).mono ?_; rintro e w3 ⟨rfl, rfl⟩; rw [HL.out]))
                    go_roundg (5 - (k2 + 1))
                    case rel => exact ⟨k2 + 1, rfl, by omega, by go_num, st2, mo2, Hm.out, Hmo.out, Hat.out⟩
                    case measure => omega
                  · have HL : Hid (kget mo2 (nm k2) = some ⟨#[100, 105, 115, 107]⟩) := Lib.hid (by rw [Hmo.out.at_ _ (by omega), ho]; rfl)
                    have HE : Hid (removeE (upto 5) mo2 (nm k2) = 112) := Lib.hid (remove_on Hmo.out (by omega) ho)
                    have ho := Lib.hid ho
                    go_wp2_with (first | (go_at_call 15; refine (mounted_calls _ (by have := nm_size k2; omega) Hm.out.2.1).mono ?_; rintro e w3 ⟨rfl, rfl⟩; rw [HL.out]) | (go_at_call 11; refine (remove_not _ (nm_size k2) Hm.out.2.1 HE.out (by decide)).mono ?_; rintro e w3 ⟨rfl, h3, hu3⟩))
                    go_roundg (5 - (k2 + 1))
                    case rel => exact ⟨k2 + 1, rfl, by omega, by go_num, st2, mo2, Hm.out.upd hsz h3 hu3, Hmo.out, (hu3.at Hat.out (by unfold TS; omega) : OnAt _ _ _)⟩
                    case measure => omega
                · go_wp2
                  go_roundg (len - (i + 1))
                  case rel => exact ⟨i + 1, on', rfl, by have := Hlt.out; omega, by go_num, st2, mo2, hm2, hmo2, hat2⟩
                  case measure => have := Hlt.out; omega
          · go_wp2
            go_ret
            obtain ⟨st, mo, hm, _⟩ := hon
            exact ⟨rfl, hm.2.2⟩
end Go.Proofs.YtopfgaogfnepfaaDoor
