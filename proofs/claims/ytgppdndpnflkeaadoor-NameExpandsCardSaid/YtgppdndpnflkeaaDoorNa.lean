/- Contracts of package name: bytes. -/
import Derived.Test.YtgppdndpnflkeaaDoorB
import Derived.Test.YtgppdndpnflkeaaDoorI
import Derived.Test.YtgppdndpnflkeaaDoorProg
import Derived.StillTail
import Derived.StillTailTactics
namespace Go.Proofs.YtgppdndpnflkeaaDoor
open Go.RowKit Go.Rv

def alnum (c : Int) : Bool := (decide (97 ≤ c) && decide (c ≤ 122)) || (decide (65 ≤ c) && decide (c ≤ 90)) || (decide (48 ≤ c) && decide (c ≤ 57))
theorem plain_calls (c : Int) (w : World) : Calls Tryd.prog 34 #[.int .u8 c] w fun e w' => e = .returned (.bool (alnum c)) ∧ w' = w := by
  unfold alnum
  by_cases h1 : 97 ≤ c <;> by_cases h2 : c ≤ 122 <;> by_cases h3 : 65 ≤ c <;> by_cases h4 : c ≤ 90 <;> by_cases h5 : 48 ≤ c <;> by_cases h6 : c ≤ 57 <;> first | omega | (
    go_enter Tryd.func34, Tryd.ntmps34
    go_wp2
    go_ret
    exact ⟨by simp [h1, h2, h3, h4, h5, h6], rfl⟩)

theorem BT : ByteTy Tryd.prog 41 5 9 := ⟨Tryd.underlying41, Tryd.underlying5, Tryd.underlying9, by kernel_rfl⟩
def hexd (n : Nat) : UInt8 := if n < 10 then UInt8.ofNat (48 + n) else UInt8.ofNat (87 + n)
def hexS : ByteArray := ⟨#[48, 49, 50, 51, 52, 53, 54, 55, 56, 57, 97, 98, 99, 100, 101, 102]⟩
theorem hex_at {n : Nat} (h : n < hexS.size) : hexS[n]'h = hexd n := by
  have key : ∀ a : Fin 16, hexS[a.1]'(by have := a.2; exact this) = hexd a.1 := by decide +kernel
  exact key ⟨n, h⟩
theorem and15 {n : Nat} (h : n < 256) : bits BinOp.and IntKind.u8 (n : Int) 15 = ((n % 16 : Nat) : Int) := by
  have key : ∀ a : Fin 256, bits BinOp.and IntKind.u8 (a.1 : Int) 15 = ((a.1 % 16 : Nat) : Int) := by decide +kernel
  exact key ⟨n, h⟩
def alnumB (c : UInt8) : Bool := alnum (c.toNat : Int)
def esc1 (first : Bool) (c : UInt8) : List UInt8 :=
  if alnumB c || c == 58 || c == 95 || (c == 46 && !first) then [c] else if c == 47 then [45] else [92, 120, hexd (c.toNat / 16), hexd (c.toNat % 16)]
def escN (l : List UInt8) : Nat → List UInt8
  | 0 => []
  | k + 1 => escN l k ++ (match l[k]? with | some c => esc1 (k == 0) c | none => [])
def escL (l : List UInt8) : List UInt8 := escN l l.length
theorem esc1_len (b : Bool) (c : UInt8) : (esc1 b c).length ≤ 4 := by
  unfold esc1; split
  · simp
  · split <;> simp
theorem escN_len (l : List UInt8) (k : Nat) : (escN l k).length ≤ 4 * k := by
  induction k with
  | zero => simp [escN]
  | succ k ih =>
    rw [escN, List.length_append]
    have : (match l[k]? with | some c => esc1 (k == 0) c | none => []).length ≤ 4 := by
      split
      · exact esc1_len _ _
      · simp
    omega
def EscRel (w : World) (s : ByteArray) (v i : Value) (W : World) : Prop :=
  ∃ k : Nat, k ≤ s.size ∧ i = .int .i64 k ∧ BytesAt w.heap.size 5 v (escN s.data.toList k) W ∧ Below w.heap.size w W

set_option maxRecDepth 100000 in
set_option maxHeartbeats 1000000 in
theorem escape_calls (s : ByteArray) (hs : s.size ≤ 1000000) (w : World) :
    Calls Tryd.prog 11 #[.string s] w fun e w' => e = .returned (.string (mkS (escL s.data.toList))) ∧ Below w.heap.size w w' := by
  go_enter Tryd.func11, Tryd.ntmps11
  go_wp2
  go_loopw [3, 8] (fun v i W => EscRel w s v i W) (fun _ i _ => s.size - (intOf i).toNat)
  case atStart => exact ⟨0, by omega, rfl, bytesAt_nil _ _ _, Below.refl _ _⟩
  case round =>
    obtain ⟨k, hk, rfl, hat, hb⟩ := hrel
    by_cases hlt : (k : Int) < (s.size : Int)
    · have hk' : k < s.size := by omega
      obtain ⟨x, hx⟩ : ∃ x : UInt8, s[k] = x := ⟨_, rfl⟩
      have Hat := Lib.hid hat
      clear hat
      have hl4 := escN_len s.data.toList k
      have Hb := Lib.hid hb
      clear hb
      have hxl : s.data.toList[k]? = some x := by rw [← hx]; exact Lib.data_getElem? s k hk'
      have E : escN s.data.toList (k + 1) = escN s.data.toList k ++ esc1 (k == 0) x := by rw [escN, hxl]
      have HE := Lib.hid E
      clear E hxl
      rcases hp : alnumB x with _ | _
      · by_cases h58 : x = 58
        · subst h58
          have Hp' : Hid (alnum 58 = false) := Lib.hid (by decide)
          have He : Hid (esc1 (k == 0) 58 = [58]) := Lib.hid (by simp [esc1])
          clear hp
          go_wp2_with (first
            | (go_at_call 34; refine (plain_calls _ _).mono ?_; rintro e w1 ⟨rfl, rfl⟩; rw [Hp'.out])
            | (at_builtin; refine wpList_app BT rfl _ _ rfl w.heap.size _ _ rfl (Hat.out.alloc _) ⟨_, 0, none⟩ 1 1 [58] rfl rfl (fun j u h => cells_new _ _ _ j u (by simpa [u8s] using h)) (by omega) (by have := Hb.out.size; simp; omega) ?_; intro v' w2 hv2 hb2; have hv2 := Lib.hid hv2; have hb2 := Lib.hid hb2))
          go_round
          case rel => exact ⟨k + 1, by omega, by go_num, by rw [HE.out, He.out]; exact hv2.out, (Hb.out.alloc Hb.out.size _).trans hb2.out⟩
          case measure => simp [intOf]; omega
        · by_cases h95 : x = 95
          · subst h95
            have Hp' : Hid (alnum 95 = false) := Lib.hid (by decide)
            have He : Hid (esc1 (k == 0) 95 = [95]) := Lib.hid (by simp [esc1])
            clear hp
            go_wp2_with (first
              | (go_at_call 34; refine (plain_calls _ _).mono ?_; rintro e w1 ⟨rfl, rfl⟩; rw [Hp'.out])
              | (at_builtin; refine wpList_app BT rfl _ _ rfl w.heap.size _ _ rfl (Hat.out.alloc _) ⟨_, 0, none⟩ 1 1 [95] rfl rfl (fun j u h => cells_new _ _ _ j u (by simpa [u8s] using h)) (by omega) (by have := Hb.out.size; simp; omega) ?_; intro v' w2 hv2 hb2; have hv2 := Lib.hid hv2; have hb2 := Lib.hid hb2))
            go_round
            case rel => exact ⟨k + 1, by omega, by go_num, by rw [HE.out, He.out]; exact hv2.out, (Hb.out.alloc Hb.out.size _).trans hb2.out⟩
            case measure => simp [intOf]; omega
          · by_cases h46 : x = 46 ∧ 0 < k
            · obtain ⟨rfl, hk0⟩ := h46
              have hk0' : (0 : Int) < (k : Int) := by omega
              have Hp' : Hid (alnum 46 = false) := Lib.hid (by decide)
              have He : Hid (esc1 (k == 0) 46 = [46]) := Lib.hid (by have : (k == 0) = false := by simp; omega
                                                                     rw [this]; rfl)
              clear hp
              go_wp2_with (first
                | (go_at_call 34; refine (plain_calls _ _).mono ?_; rintro e w1 ⟨rfl, rfl⟩; rw [Hp'.out])
                | (at_builtin; refine wpList_app BT rfl _ _ rfl w.heap.size _ _ rfl (Hat.out.alloc _) ⟨_, 0, none⟩ 1 1 [46] rfl rfl (fun j u h => cells_new _ _ _ j u (by simpa [u8s] using h)) (by omega) (by have := Hb.out.size; simp; omega) ?_; intro v' w2 hv2 hb2; have hv2 := Lib.hid hv2; have hb2 := Lib.hid hb2))
              go_round
              case rel => exact ⟨k + 1, by omega, by go_num, by rw [HE.out, He.out]; exact hv2.out, (Hb.out.alloc Hb.out.size _).trans hb2.out⟩
              case measure => simp [intOf]; omega
            · by_cases h47 : x = 47
              · subst h47
                have Hp' : Hid (alnum 47 = false) := Lib.hid (by decide)
                have He : Hid (esc1 (k == 0) 47 = [45]) := Lib.hid (by simp [esc1, hp])
                clear hp
                go_wp2_with (first
                  | (go_at_call 34; refine (plain_calls _ _).mono ?_; rintro e w1 ⟨rfl, rfl⟩; rw [Hp'.out])
                  | (at_builtin; refine wpList_app BT rfl _ _ rfl w.heap.size _ _ rfl (Hat.out.alloc _) ⟨_, 0, none⟩ 1 1 [45] rfl rfl (fun j u h => cells_new _ _ _ j u (by simpa [u8s] using h)) (by omega) (by have := Hb.out.size; simp; omega) ?_; intro v' w2 hv2 hb2; have hv2 := Lib.hid hv2; have hb2 := Lib.hid hb2))
                go_round
                case rel => exact ⟨k + 1, by omega, by go_num, by rw [HE.out, He.out]; exact hv2.out, (Hb.out.alloc Hb.out.size _).trans hb2.out⟩
                case measure => simp [intOf]; omega
              · have Hp' : Hid (alnum (x.toNat : Int) = false) := Lib.hid hp
                have He : Hid (esc1 (k == 0) x = [92, 120, hexd (x.toNat / 16), hexd (x.toNat % 16)]) := Lib.hid (by
                  have : (x == 46 && !(k == 0)) = false := by
                    by_cases e : x = 46
                    · have : k = 0 := by
                        by_cases e2 : k = 0
                        · exact e2
                        · exact absurd ⟨e, by omega⟩ h46
                      simp [this]
                    · simp [e]
                  simp only [esc1, hp, this]
                  simp [h58, h95, h47])
                have n58 : ¬ (x.toNat : Int) = 58 := fun e => h58 (UInt8.toNat_inj.1 (by show x.toNat = 58; omega))
                have n95 : ¬ (x.toNat : Int) = 95 := fun e => h95 (UInt8.toNat_inj.1 (by show x.toNat = 95; omega))
                have n47 : ¬ (x.toNat : Int) = 47 := fun e => h47 (UInt8.toNat_inj.1 (by show x.toNat = 47; omega))
                have hx256 : (x.toNat : Int) < 256 := by have := x.toNat_lt; omega
                by_cases e46 : (x.toNat : Int) = 46
                · obtain rfl : x = 46 := UInt8.toNat_inj.1 (by show x.toNat = 46; omega)
                  obtain rfl : k = 0 := by
                    by_cases e2 : k = 0
                    · exact e2
                    · exact absurd ⟨rfl, by omega⟩ h46
                  have Hp2 : Hid (alnum 46 = false) := Lib.hid (by decide)
                  clear e46 n58 n95 n47 hx256
                  have h14 : bits BinOp.and IntKind.u8 46 15 = 14 := by decide +kernel
                  have i2 : ∀ h, (⟨#[48, 49, 50, 51, 52, 53, 54, 55, 56, 57, 97, 98, 99, 100, 101, 102]⟩ : ByteArray)[2]'h = 50 := fun _ => rfl
                  have i14 : ∀ h, (⟨#[48, 49, 50, 51, 52, 53, 54, 55, 56, 57, 97, 98, 99, 100, 101, 102]⟩ : ByteArray)[14]'h = 101 := fun _ => rfl
                  go_wp2_with (go_at_call 34; refine (plain_calls _ _).mono ?_; rintro e w1 ⟨rfl, rfl⟩; rw [Hp2.out])
                  go_region_law (refine step_app BT rfl _ _ rfl w.heap.size _ _ rfl ((Hat.out.heap (fun _ _ => rfl)).alloc _) ⟨_, 0, none⟩ 4 4 [92, 120, 50, 101] rfl rfl (fun j u h => cells_new _ _ _ j u (by simpa [u8s] using h)) (by omega) (by have := Hb.out.size; simp; omega) ?_; intro v' w2 hv2 hb2)
                  all_goals go_wp2_with fail
                  all_goals (
                    go_round
                    case rel => exact ⟨0 + 1, by omega, by go_num, by rw [HE.out, He.out]; exact hv2, ((Hb.out.alloc Hb.out.size _).drew).trans hb2⟩
                    case measure => simp [intOf]; omega)
                · go_wp2_with (go_at_call 34; refine (plain_calls _ _).mono ?_; rintro e w1 ⟨rfl, rfl⟩; rw [Hp'.out])
                  have hq : (x.toNat : Int) / 16 = ((x.toNat / 16 : Nat) : Int) := by omega
                  have hr := and15 (n := x.toNat) (by have := x.toNat_lt; omega)
                  have hq16 : x.toNat / 16 < 16 := by have := x.toNat_lt; omega
                  have hr16 : x.toNat % 16 < 16 := by omega
                  obtain ⟨q, hqe⟩ : ∃ q, q = x.toNat / 16 := ⟨_, rfl⟩
                  obtain ⟨r, hre⟩ : ∃ r, r = x.toNat % 16 := ⟨_, rfl⟩
                  rw [← hqe] at hq hq16
                  rw [← hre] at hr hr16
                  have Hqe := Lib.hid hqe
                  have Hre := Lib.hid hre
                  have hqz : (q : Int) < 16 := by omega
                  have hrz : (r : Int) < 16 := by omega
                  have hxq : ∀ h, (⟨#[48, 49, 50, 51, 52, 53, 54, 55, 56, 57, 97, 98, 99, 100, 101, 102]⟩ : ByteArray)[q]'h = hexd q := fun h => hex_at h
                  have hxr : ∀ h, (⟨#[48, 49, 50, 51, 52, 53, 54, 55, 56, 57, 97, 98, 99, 100, 101, 102]⟩ : ByteArray)[r]'h = hexd r := fun h => hex_at h
                  clear hqe hre
                  go_region_law (refine step_app BT rfl _ _ rfl w.heap.size _ _ rfl ((Hat.out.heap (fun _ _ => rfl)).alloc _) ⟨_, 0, none⟩ 4 4 [92, 120, hexd q, hexd r] rfl rfl (fun j u h => cells_new _ _ _ j u (by simpa [u8s] using h)) (by omega) (by have := Hb.out.size; simp; omega) ?_; intro v' w2 hv2 hb2)
                  all_goals go_wp2_with fail
                  all_goals (
                    go_round
                    case rel => exact ⟨k + 1, by omega, by go_num, by rw [HE.out, He.out, ← Hqe.out, ← Hre.out]; exact hv2, ((Hb.out.alloc Hb.out.size _).drew).trans hb2⟩
                    case measure => simp [intOf]; omega)
      · have hp' : alnum (x.toNat : Int) = true := hp
        have Hp' := Lib.hid hp'
        have He : Hid (esc1 (k == 0) x = [x]) := Lib.hid (by simp [esc1, hp])
        clear hp hp'
        go_wp2_with (first
          | (go_at_call 34; refine (plain_calls _ _).mono ?_; rintro e w1 ⟨rfl, rfl⟩; rw [Hp'.out])
          | (at_builtin; refine wpList_app BT rfl _ _ rfl w.heap.size _ _ rfl (Hat.out.alloc _) ⟨_, 0, none⟩ 1 1 [x] rfl rfl (fun j u h => cells_new _ _ _ j u (by simpa [u8s] using h)) (by omega) (by have := Hb.out.size; simp; omega) ?_; intro v' w2 hv2 hb2; have hv2 := Lib.hid hv2; have hb2 := Lib.hid hb2))
        go_round
        case rel => exact ⟨k + 1, by omega, by go_num, by rw [HE.out, He.out]; exact hv2.out, (Hb.out.alloc Hb.out.size _).trans hb2.out⟩
        case measure => simp [intOf]; omega
    · obtain rfl : k = s.size := by omega
      have hconv := run_text_of BT hat
      have hb' := Lib.hid hb
      clear hb
      go_wp2
      go_ret
      have hl : s.data.toList.length = s.size := (Lib.size_eq s).symm
      exact ⟨by rw [escL, hl]; rfl, hb'.out⟩
end Go.Proofs.YtgppdndpnflkeaaDoor
