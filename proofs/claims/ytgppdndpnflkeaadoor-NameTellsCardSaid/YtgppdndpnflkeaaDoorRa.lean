/- Contracts of the reference: bytes, Escape. -/
import Derived.Test.YtgppdndpnflkeaaDoorNm
namespace Go.Proofs.YtgppdndpnflkeaaDoor
open Go.RowKit Go.Rv

theorem alnum_calls (c : Int) (w : World) : Calls Tryd.prog 42 #[.int .u8 c] w fun e w' => e = .returned (.bool (alnum c)) ∧ w' = w := by
  unfold alnum
  by_cases h1 : 97 ≤ c <;> by_cases h2 : c ≤ 122 <;> by_cases h3 : 65 ≤ c <;> by_cases h4 : c ≤ 90 <;> by_cases h5 : 48 ≤ c <;> by_cases h6 : c ≤ 57 <;> first | omega | (
    go_enter Tryd.func42, Tryd.ntmps42
    go_wp2
    go_ret
    exact ⟨by simp [h1, h2, h3, h4, h5, h6], rfl⟩)
theorem hex_calls (n : Nat) (hn : n < 16) (w : World) : Calls Tryd.prog 45 #[.int .u8 (n : Int)] w fun e w' => e = .returned (.int .u8 ((hexd n).toNat : Int)) ∧ w' = w := by
  have hxq : ∀ h, (⟨#[48, 49, 50, 51, 52, 53, 54, 55, 56, 57, 97, 98, 99, 100, 101, 102]⟩ : ByteArray)[n]'h = hexd n := fun h => hex_at h
  have hnz : (n : Int) < 16 := by omega
  go_enter Tryd.func45, Tryd.ntmps45
  go_wp2
  go_ret
  exact ⟨rfl, rfl⟩
/-- The reference's own value of a digit is the program's. -/
theorem unhex_is (c : UInt8) : unhexI c = if 48 ≤ (c.toNat : Int) ∧ (c.toNat : Int) ≤ 57 then (c.toNat : Int) - 48 else if 97 ≤ (c.toNat : Int) ∧ (c.toNat : Int) ≤ 102 then (c.toNat : Int) - 87 else -1 :=
  all_u8 (p := fun c => unhexI c = if 48 ≤ (c.toNat : Int) ∧ (c.toNat : Int) ≤ 57 then (c.toNat : Int) - 48 else if 97 ≤ (c.toNat : Int) ∧ (c.toNat : Int) ≤ 102 then (c.toNat : Int) - 87 else -1) (by decide +kernel) c
theorem unhex_calls (x : UInt8) (w : World) : Calls Tryd.prog 46 #[.int .u8 (x.toNat : Int)] w fun e w' => e = .returned (.int .i64 (unhexI x)) ∧ w' = w := by
  rw [unhex_is]
  have h255 : (x.toNat : Int) ≤ 255 := by have := x.toNat_lt; omega
  generalize (x.toNat : Int) = c at h255
  by_cases h1 : 48 ≤ c <;> by_cases h2 : c ≤ 57 <;> by_cases h3 : 97 ≤ c <;> by_cases h4 : c ≤ 102 <;> first | omega | (
    go_enter Tryd.func46, Tryd.ntmps46
    go_wp2
    go_ret
    refine ⟨?_, rfl⟩
    first | rfl | (simp; done) | (simp; omega))

set_option maxRecDepth 100000 in
set_option maxHeartbeats 1000000 in
theorem escapeR_calls (s : ByteArray) (hs : s.size ≤ 1000000) (w : World) :
    Calls Tryd.prog 24 #[.string s] w fun e w' => e = .returned (.string (mkS (escL s.data.toList))) ∧ Below w.heap.size w w' := by
  go_enter Tryd.func24, Tryd.ntmps24
  go_wp2
  go_loopw [3, 4] (fun v i W => EscRel w s v i W) (fun _ i _ => s.size - (intOf i).toNat)
  case atStart => exact ⟨0, by omega, rfl, bytesAt_nil _ _ _, Below.refl _ _⟩
  case round =>
    obtain ⟨k, hk, rfl, hat, hb⟩ := hrel
    by_cases hlt : (k : Int) < (s.size : Int)
    · have hk' : k < s.size := by omega
      obtain ⟨x, hx⟩ : ∃ x : UInt8, s[k] = x := ⟨_, rfl⟩
      have Hat := Lib.hid hat
      clear hat
      have hl4 := escN_len s.data.toList k
      have Hb := Lib.hid hb
      clear hb
      have hxl : s.data.toList[k]? = some x := by rw [← hx]; exact Lib.data_getElem? s k hk'
      have E : escN s.data.toList (k + 1) = escN s.data.toList k ++ esc1 (k == 0) x := by rw [escN, hxl]
      have HE := Lib.hid E
      clear E hxl
      rcases hp : alnumB x with _ | _
      · by_cases h58 : x = 58
        · subst h58
          have Hp' : Hid (alnum 58 = false) := Lib.hid (by decide)
          have He : Hid (esc1 (k == 0) 58 = [58]) := Lib.hid (by simp [esc1])
          clear hp
          go_wp2_with (first
            | (go_at_call 42; refine (alnum_calls _ _).mono ?_; rintro e w1 ⟨rfl, rfl⟩; rw [Hp'.out])
            | (at_builtin; refine wpList_app BT rfl _ _ rfl w.heap.size _ _ rfl (Hat.out.alloc _) ⟨_, 0, none⟩ 1 1 [58] rfl rfl (fun j u h => cells_new _ _ _ j u (by simpa [u8s] using h)) (by omega) (by have := Hb.out.size; simp; omega) ?_; intro v' w2 hv2 hb2; have hv2 := Lib.hid hv2; have hb2 := Lib.hid hb2))
          go_round
          case rel => exact ⟨k + 1, by omega, by go_num, by rw [HE.out, He.out]; exact hv2.out, (Hb.out.alloc Hb.out.size _).trans hb2.out⟩
          case measure => simp [intOf]; omega
        · by_cases h95 : x = 95
          · subst h95
            have Hp' : Hid (alnum 95 = false) := Lib.hid (by decide)
            have He : Hid (esc1 (k == 0) 95 = [95]) := Lib.hid (by simp [esc1])
            clear hp
            go_wp2_with (first
              | (go_at_call 42; refine (alnum_calls _ _).mono ?_; rintro e w1 ⟨rfl, rfl⟩; rw [Hp'.out])
              | (at_builtin; refine wpList_app BT rfl _ _ rfl w.heap.size _ _ rfl (Hat.out.alloc _) ⟨_, 0, none⟩ 1 1 [95] rfl rfl (fun j u h => cells_new _ _ _ j u (by simpa [u8s] using h)) (by omega) (by have := Hb.out.size; simp; omega) ?_; intro v' w2 hv2 hb2; have hv2 := Lib.hid hv2; have hb2 := Lib.hid hb2))
            go_round
            case rel => exact ⟨k + 1, by omega, by go_num, by rw [HE.out, He.out]; exact hv2.out, (Hb.out.alloc Hb.out.size _).trans hb2.out⟩
            case measure => simp [intOf]; omega
          · by_cases h46 : x = 46 ∧ 0 < k
            · obtain ⟨rfl, hk0⟩ := h46
              have hk0' : (0 : Int) < (k : Int) := by omega
              have Hp' : Hid (alnum 46 = false) := Lib.hid (by decide)
              have He : Hid (esc1 (k == 0) 46 = [46]) := Lib.hid (by have : (k == 0) = false := by simp; omega
                                                                     rw [this]; rfl)
              clear hp
              go_wp2_with (first
                | (go_at_call 42; refine (alnum_calls _ _).mono ?_; rintro e w1 ⟨rfl, rfl⟩; rw [Hp'.out])
                | (at_builtin; refine wpList_app BT rfl _ _ rfl w.heap.size _ _ rfl (Hat.out.alloc _) ⟨_, 0, none⟩ 1 1 [46] rfl rfl (fun j u h => cells_new _ _ _ j u (by simpa [u8s] using h)) (by omega) (by have := Hb.out.size; simp; omega) ?_; intro v' w2 hv2 hb2; have hv2 := Lib.hid hv2; have hb2 := Lib.hid hb2))
              go_round
              case rel => exact ⟨k + 1, by omega, by go_num, by rw [HE.out, He.out]; exact hv2.out, (Hb.out.alloc Hb.out.size _).trans hb2.out⟩
              case measure => simp [intOf]; omega
            · by_cases h47 : x = 47
              · subst h47
                have Hp' : Hid (alnum 47 = false) := Lib.hid (by decide)
                have He : Hid (esc1 (k == 0) 47 = [45]) := Lib.hid (by simp [esc1, hp])
                clear hp
                go_wp2_with (first
                  | (go_at_call 42; refine (alnum_calls _ _).mono ?_; rintro e w1 ⟨rfl, rfl⟩; rw [Hp'.out])
                  | (at_builtin; refine wpList_app BT rfl _ _ rfl w.heap.size _ _ rfl (Hat.out.alloc _) ⟨_, 0, none⟩ 1 1 [45] rfl rfl (fun j u h => cells_new _ _ _ j u (by simpa [u8s] using h)) (by omega) (by have := Hb.out.size; simp; omega) ?_; intro v' w2 hv2 hb2; have hv2 := Lib.hid hv2; have hb2 := Lib.hid hb2))
                go_round
                case rel => exact ⟨k + 1, by omega, by go_num, by rw [HE.out, He.out]; exact hv2.out, (Hb.out.alloc Hb.out.size _).trans hb2.out⟩
                case measure => simp [intOf]; omega
              · have Hp' : Hid (alnum (x.toNat : Int) = false) := Lib.hid hp
                have He : Hid (esc1 (k == 0) x = [92, 120, hexd (x.toNat / 16), hexd (x.toNat % 16)]) := Lib.hid (by
                  have : (x == 46 && !(k == 0)) = false := by
                    by_cases e : x = 46
                    · have : k = 0 := by
                        by_cases e2 : k = 0
                        · exact e2
                        · exact absurd ⟨e, by omega⟩ h46
                      simp [this]
                    · simp [e]
                  simp only [esc1, hp, this]
                  simp [h58, h95, h47])
                have n58 : ¬ (x.toNat : Int) = 58 := fun e => h58 (UInt8.toNat_inj.1 (by show x.toNat = 58; omega))
                have n95 : ¬ (x.toNat : Int) = 95 := fun e => h95 (UInt8.toNat_inj.1 (by show x.toNat = 95; omega))
                have n47 : ¬ (x.toNat : Int) = 47 := fun e => h47 (UInt8.toNat_inj.1 (by show x.toNat = 47; omega))
                have hx256 : (x.toNat : Int) < 256 := by have := x.toNat_lt; omega
                have hq : (x.toNat : Int) / 16 = ((x.toNat / 16 : Nat) : Int) := by omega
                have hr : (x.toNat : Int) % 16 = ((x.toNat % 16 : Nat) : Int) := by omega
                have hq16 : x.toNat / 16 < 16 := by have := x.toNat_lt; omega
                have hr16 : x.toNat % 16 < 16 := by omega
                obtain ⟨q, hqe⟩ : ∃ q, q = x.toNat / 16 := ⟨_, rfl⟩
                obtain ⟨r, hre⟩ : ∃ r, r = x.toNat % 16 := ⟨_, rfl⟩
                rw [← hqe] at hq hq16
                rw [← hre] at hr hr16
                have Hqe := Lib.hid hqe
                have Hre := Lib.hid hre
                have CQ : Hid (∀ W, Calls Tryd.prog 45 #[.int .u8 (q : Int)] W fun e w' => e = .returned (.int .u8 ((hexd q).toNat : Int)) ∧ w' = W) := Lib.hid fun W => hex_calls q hq16 W
                have CR : Hid (∀ W, Calls Tryd.prog 45 #[.int .u8 (r : Int)] W fun e w' => e = .returned (.int .u8 ((hexd r).toNat : Int)) ∧ w' = W) := Lib.hid fun W => hex_calls r hr16 W
                clear hqe hre
                by_cases e46 : (x.toNat : Int) = 46
                · obtain rfl : x = 46 := UInt8.toNat_inj.1 (by show x.toNat = 46; omega)
                  obtain rfl : k = 0 := by
                    by_cases e2 : k = 0
                    · exact e2
                    · exact absurd ⟨rfl, by omega⟩ h46
                  have Hp2 : Hid (alnum 46 = false) := Lib.hid (by decide)
                  have C2 : Hid (∀ W, Calls Tryd.prog 45 #[.int .u8 2] W fun e w' => e = .returned (.int .u8 50) ∧ w' = W) := Lib.hid fun W => hex_calls 2 (by decide) W
                  have C14 : Hid (∀ W, Calls Tryd.prog 45 #[.int .u8 14] W fun e w' => e = .returned (.int .u8 101) ∧ w' = W) := Lib.hid fun W => hex_calls 14 (by decide) W
                  clear e46 n58 n95 n47 hx256 hq hr hq16 hr16 CQ CR
                  go_wp2_with (go_at_call 42; refine (alnum_calls _ _).mono ?_; rintro e w1 ⟨rfl, rfl⟩; rw [Hp2.out])
                  refine (C2.out _).mono ?_
                  rintro e w1 ⟨rfl, rfl⟩
                  go_wp2_with fail
                  refine (C14.out _).mono ?_
                  rintro e w1 ⟨rfl, rfl⟩
                  go_wp2_with (at_builtin; refine wpList_app BT rfl _ _ rfl w.heap.size _ _ rfl (Hat.out.alloc _) ⟨_, 0, none⟩ 4 4 [92, 120, 50, 101] rfl rfl (fun j u h => cells_new _ _ _ j u (by simpa [u8s] using h)) (by omega) (by have := Hb.out.size; simp; omega) ?_; intro v' w2 hv2 hb2; have hv2 := Lib.hid hv2; have hb2 := Lib.hid hb2)
                  go_round
                  case rel => exact ⟨0 + 1, by omega, by go_num, by rw [HE.out, He.out]; exact hv2.out, (Hb.out.alloc Hb.out.size _).trans hb2.out⟩
                  case measure => simp [intOf]; omega
                · clear hq16 hr16
                  have m58 : ((x.toNat : Int) == 58) = false := by simp [n58]
                  have m95 : ((x.toNat : Int) == 95) = false := by simp [n95]
                  have m46 : ((x.toNat : Int) == 46) = false := by simp [e46]
                  go_wp2_with (go_at_call 42; refine (alnum_calls _ _).mono ?_; rintro e w1 ⟨rfl, rfl⟩; rw [Hp'.out])
                  refine (CQ.out _).mono ?_
                  rintro e w1 ⟨rfl, rfl⟩
                  go_wp2_with fail
                  refine (CR.out _).mono ?_
                  rintro e w1 ⟨rfl, rfl⟩
                  go_wp2_with (at_builtin; refine wpList_app BT rfl _ _ rfl w.heap.size _ _ rfl (Hat.out.alloc _) ⟨_, 0, none⟩ 4 4 [92, 120, hexd q, hexd r] rfl rfl (fun j u h => cells_new _ _ _ j u (by simpa [u8s] using h)) (by omega) (by have := Hb.out.size; simp; omega) ?_; intro v' w2 hv2 hb2; have hv2 := Lib.hid hv2; have hb2 := Lib.hid hb2)
                  go_round
                  case rel => exact ⟨k + 1, by omega, by go_num, by rw [HE.out, He.out, ← Hqe.out, ← Hre.out]; exact hv2.out, (Hb.out.alloc Hb.out.size _).trans hb2.out⟩
                  case measure => simp [intOf]; omega
      · have hp' : alnum (x.toNat : Int) = true := hp
        have Hp' := Lib.hid hp'
        have He : Hid (esc1 (k == 0) x = [x]) := Lib.hid (by simp [esc1, hp])
        clear hp hp'
        go_wp2_with (first
          | (go_at_call 42; refine (alnum_calls _ _).mono ?_; rintro e w1 ⟨rfl, rfl⟩; rw [Hp'.out])
          | (at_builtin; refine wpList_app BT rfl _ _ rfl w.heap.size _ _ rfl (Hat.out.alloc _) ⟨_, 0, none⟩ 1 1 [x] rfl rfl (fun j u h => cells_new _ _ _ j u (by simpa [u8s] using h)) (by omega) (by have := Hb.out.size; simp; omega) ?_; intro v' w2 hv2 hb2; have hv2 := Lib.hid hv2; have hb2 := Lib.hid hb2))
        go_round
        case rel => exact ⟨k + 1, by omega, by go_num, by rw [HE.out, He.out]; exact hv2.out, (Hb.out.alloc Hb.out.size _).trans hb2.out⟩
        case measure => simp [intOf]; omega
    · obtain rfl : k = s.size := by omega
      have hconv := run_text_of BT hat
      have hb' := Lib.hid hb
      clear hb
      go_wp2
      go_ret
      have hl : s.data.toList.length = s.size := (Lib.size_eq s).symm
      exact ⟨by rw [escL, hl]; rfl, hb'.out⟩
end Go.Proofs.YtgppdndpnflkeaaDoor
