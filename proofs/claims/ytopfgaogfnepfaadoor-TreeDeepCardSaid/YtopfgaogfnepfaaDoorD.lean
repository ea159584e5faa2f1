/- TreeDeep: the walk. -/
import Derived.Test.YtopfgaogfnepfaaDoorDp
namespace Go.Proofs.YtopfgaogfnepfaaDoor
open Go.RowKit Go.Rv

def DeepRel1 (z : Int) (v i : Value) : Prop := ∃ k : Nat, (k : Int) ≤ z ∧ i = .int .i64 k ∧ v = .string (mkS (part k))
def DeepRel2 (w : World) (n0 k z : Nat) (v i : Value) (W : World) : Prop :=
  ∃ (j : Nat) (th : List (ByteArray × Bool)) (st : List (ByteArray × Int)), j ≤ k ∧ i = .int .i64 ((j + 1 : Nat) : Int) ∧ v = .string (mkS (P z j)) ∧
    TreeAt W (n0 + 3) n0 (n0 + 1) (n0 + 2) th st [] ∧ DT z j th ∧ Below w.heap.size w W
theorem mkS_append (a b : List UInt8) : mkS a ++ mkS b = mkS (a ++ b) := by
  rw [← mkS_data (mkS a ++ mkS b)]
  rw [ByteArray.data_append, Array.toList_append, data_mkS, data_mkS]
theorem part_next (k : Nat) : mkS (part k) ++ (⟨#[112]⟩ : ByteArray) = mkS (part (k + 1)) := by
  show mkS _ ++ mkS [112] = _
  rw [mkS_append, part, part, List.replicate_succ']
theorem P_next (z i : Nat) : mkS (P z i) ++ (⟨#[47]⟩ : ByteArray) ++ mkS (part z) = mkS (P z (i + 1)) := by
  show mkS _ ++ mkS [47] ++ _ = _
  rw [mkS_append, mkS_append, P]
  simp
theorem size_mkS (l : List UInt8) : (mkS l).size = l.length := by rw [Lib.size_eq, data_mkS]

set_option maxRecDepth 100000 in
set_option maxHeartbeats 1000000 in
theorem deep_walk (n size : Int) (dots : Bool) (hn : 0 ≤ n ∧ n ≤ 255) (hs : 0 ≤ size ∧ size ≤ 255) (w : World) :
    Calls Tryd.prog 3 #[.int .u8 n, .int .u8 size, .bool dots] w fun e w' => e = .returned (.bool true) ∧ Below w.heap.size w w' := by
  obtain ⟨hn0, hn1⟩ := hn
  obtain ⟨hs0, hs1⟩ := hs
  have hk0 : 0 ≤ n % 12 := by omega
  have hk1 : n % 12 ≤ 11 := by omega
  have hz0 : 0 ≤ size % 50 := by omega
  have hz1 : size % 50 ≤ 49 := by omega
  go_enter Tryd.func3, Tryd.ntmps3
  go_wp2_with (go_at_call 6; refine (known_calls _).mono ?_; rintro e w1 ⟨rfl, hb1⟩)
  go_loop [9, 10] (fun v i => DeepRel1 (size % 50 + 1) v i) (fun _ i => (size % 50 + 1 - intOf i).toNat)
  case atStart => exact ⟨0, by omega, rfl, rfl⟩
  case round =>
    obtain ⟨k, hk, rfl, rfl⟩ := hrel
    by_cases hlt : (k : Int) < size % 50 + 1
    · have hsz : ¬ 9223372036854775807 < (mkS (part k)).size + 1 := by rw [size_mkS, part_len]; omega
      go_wp2
      go_round
      case rel => exact ⟨k + 1, by omega, by go_num, by rw [← part_next]⟩
      case measure => simp [intOf]; omega
    · have hkz : (k : Int) = size % 50 + 1 := by omega
      have HK := Lib.hid hkz
      clear hkz
      go_wp2_with (go_at_call 7; refine (new_calls _).mono ?_; rintro e w2 ⟨rfl, h2, hb2⟩)
      obtain ⟨K, HKK⟩ : ∃ K : Nat, Hid (n % 12 = (K : Int)) := ⟨(n % 12).toNat, Lib.hid (by omega)⟩
      go_loopw [12, 13] (fun v i W => DeepRel2 w w1.heap.size K k v i W) (fun _ i _ => (n % 12 + 1 - intOf i).toNat)
      case atStart => 
        refine ⟨0, _, _, by omega, rfl, rfl, h2, dt_zero ?_, ?_⟩
        · have := HK.out; omega
        · exact hb1.trans (hb2.mono hb1.size)
      case round =>
        obtain ⟨j, th, st, hj, rfl, rfl, ht, hd, hb⟩ := hrel
        by_cases hlt2 : ((j + 1 : Nat) : Int) ≤ n % 12
        · have hz1 : 1 ≤ k := by have := HK.out; omega
          have hz50 : k ≤ 50 := by have := HK.out; omega
          have hj12 : j + 1 ≤ 11 := by omega
          have hPl : (mkS (P k j)).size ≤ 1000 := by
            rw [size_mkS, P_len]
            have := Nat.mul_le_mul (show j ≤ 11 by omega) (show k + 1 ≤ 51 by omega)
            omega
          have hPl2 : (mkS (P k (j + 1))).size < 4611686018427387904 := by
            rw [size_mkS, P_len]
            have := Nat.mul_le_mul (show j + 1 ≤ 11 by omega) (show k + 1 ≤ 51 by omega)
            omega
          have hpl : (mkS (part k)).size ≤ 50 := by rw [size_mkS, part_len]; exact hz50
          have hsz1 : ¬ 9223372036854775807 < (mkS (P k j)).size + 1 := by omega
          have hsz2 : ¬ 9223372036854775807 < (mkS (P k j)).size + 1 + (mkS (part k)).size := by omega
          have HPl2 := Lib.hid hPl2
          clear hPl2
          have Hz1 := Lib.hid hz1
          clear hz1
          have Hd := Lib.hid hd
          clear hd
          by_cases hyes : k ≤ 40 ∧ j + 1 ≤ 8
          · have H1 := Lib.hid (dt_make_yes Hz1.out Hd.out hyes)
            have h40 : ¬ 40 < size % 50 + 1 := by have := HK.out; omega
            have h8 : ¬ 8 < (j : Int) + 1 := by omega
            have Hyes := Lib.hid hyes
            clear hyes
            go_wp2_with (first | (go_at_call 8; rw [P_next]; refine (make_yes _ true HPl2.out ht H1.out).mono ?_; rintro e w3 ⟨rfl, h3, hu3⟩) | (go_at_call 9; refine (exists_calls _ (by have := HPl2.out; omega) h3).mono ?_; rintro e w4 ⟨rfl, rfl⟩; rw [look_upd_same]))
            go_round
            case rel =>
              refine ⟨j + 1, _, _, by have := HKK.out; omega, by go_num, rfl, h3, dt_step_yes Hz1.out Hd.out Hyes.out, hb.trans (hu3.below hb.size fun q hq h => ?_)⟩
              have := hb1.size
              rcases h with h | h | h <;> omega
            case measure => simp [intOf]; omega
          · have H1 := Lib.hid (dt_make_no (th := th) Hz1.out hyes)
            have Hyes := Lib.hid hyes
            clear hyes
            by_cases h40 : 40 < size % 50 + 1
            · go_wp2_with (go_at_call 8; rw [P_next]; refine (make_not _ true HPl2.out ht H1.out (by decide)).mono ?_; rintro e w3 ⟨rfl, h3, hu3⟩)
              go_round
              case rel =>
                refine ⟨j + 1, _, _, by have := HKK.out; omega, by go_num, rfl, h3, dt_step_no Hd.out Hyes.out, hb.trans (hu3.below hb.size fun q hq h => ?_)⟩
                have := hb1.size
                rcases h with h | h | h <;> omega
              case measure => simp [intOf]; omega
            · have h8 : 8 < (j : Int) + 1 := by have := HK.out; have := Hyes.out; omega
              go_wp2_with (go_at_call 8; rw [P_next]; refine (make_not _ true HPl2.out ht H1.out (by decide)).mono ?_; rintro e w3 ⟨rfl, h3, hu3⟩)
              go_round
              case rel =>
                refine ⟨j + 1, _, _, by have := HKK.out; omega, by go_num, rfl, h3, dt_step_no Hd.out Hyes.out, hb.trans (hu3.below hb.size fun q hq h => ?_)⟩
                have := hb1.size
                rcases h with h | h | h <;> omega
              case measure => simp [intOf]; omega
        · have Hd := Lib.hid hd.root
          clear hd
          have E1 := Lib.hid (make_bad (th := th) bad1)
          have E2 := Lib.hid (make_bad (th := th) bad2)
          have E3 := Lib.hid (make_bad (th := th) bad3)
          have E4 := Lib.hid (make_bad (th := th) bad4)
          have E5 := Lib.hid (make_root Hd.out)
          rcases dots with _ | _
          · go_wp2_with fail
            refine (make_not _ true (by decide) ht E1.out (by decide)).mono ?_
            rintro e w3 ⟨rfl, h3, hu3⟩
            go_wp2_with fail
            refine (make_not _ true (by decide) h3 E3.out (by decide)).mono ?_
            rintro e w4 ⟨rfl, h4, hu4⟩
            go_wp2_with fail
            refine (make_not _ true (by decide) h4 E4.out (by decide)).mono ?_
            rintro e w5 ⟨rfl, h5, hu5⟩
            go_wp2_with fail
            refine (make_not _ true (by decide) h5 E5.out (by decide)).mono ?_
            rintro e w6 ⟨rfl, h6, hu6⟩
            go_wp2_with fail
            go_ret
            refine ⟨rfl, hb.trans ((((hu3.trans hu4).trans hu5).trans hu6).below hb.size fun q hq h => ?_)⟩
            have := hb1.size
            rcases h with h | h | h <;> omega
          · go_wp2_with fail
            refine (make_not _ true (by decide) ht E2.out (by decide)).mono ?_
            rintro e w3 ⟨rfl, h3, hu3⟩
            go_wp2_with fail
            refine (make_not _ true (by decide) h3 E3.out (by decide)).mono ?_
            rintro e w4 ⟨rfl, h4, hu4⟩
            go_wp2_with fail
            refine (make_not _ true (by decide) h4 E4.out (by decide)).mono ?_
            rintro e w5 ⟨rfl, h5, hu5⟩
            go_wp2_with fail
            refine (make_not _ true (by decide) h5 E5.out (by decide)).mono ?_
            rintro e w6 ⟨rfl, h6, hu6⟩
            go_wp2_with fail
            go_ret
            refine ⟨rfl, hb.trans ((((hu3.trans hu4).trans hu5).trans hu6).below hb.size fun q hq h => ?_)⟩
            have := hb1.size
            rcases h with h | h | h <;> omega
end Go.Proofs.YtopfgaogfnepfaaDoor
