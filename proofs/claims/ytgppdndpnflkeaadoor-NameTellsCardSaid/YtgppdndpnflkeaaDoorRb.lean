/- Contracts of the reference: Unescape. -/
import Derived.Test.YtgppdndpnflkeaaDoorRa
namespace Go.Proofs.YtgppdndpnflkeaaDoor
open Go.RowKit Go.Rv

theorem hex_add {a b : Int} (ha : 0 ≤ a) (ha2 : a < 16) (hb : 0 ≤ b) (hb2 : b < 16) : IntKind.u8.wrap (16 * a + b) = ((UInt8.ofNat (16 * a.toNat + b.toNat)).toNat : Int) := by
  have key : ∀ x y : Fin 16, IntKind.u8.wrap (16 * (x.1 : Int) + (y.1 : Int)) = ((UInt8.ofNat (16 * x.1 + y.1)).toNat : Int) := by decide +kernel
  have := key ⟨a.toNat, by omega⟩ ⟨b.toNat, by omega⟩
  simpa [Int.toNat_of_nonneg ha, Int.toNat_of_nonneg hb] using this
set_option maxRecDepth 100000 in
set_option maxHeartbeats 1000000 in
theorem unescapeR_calls (s : ByteArray) (hs : s.size ≤ 1000000) (w : World) : Calls Tryd.prog 27 #[.string s] w (UnPost w s) := by
  have hl : s.data.toList.length = s.size := (Lib.size_eq s).symm
  have Hl := Lib.hid hl
  clear hl
  go_enter Tryd.func27, Tryd.ntmps27
  go_wp2
  go_loopg [4, 5] s.size (fun g v i W => UnRel w s g v i W)
  case atStart => exact ⟨0, [], rfl, by omega, rfl, bytesAt_nil _ _ _, Below.refl _ _, by simp, Nat.le_refl _⟩
  case round =>
    obtain ⟨k, A, rfl, hk, rfl, hat, hb, hraw, hA⟩ := hrel
    by_cases hlt : (k : Int) < (s.size : Int)
    · have hk' : k < s.size := by omega
      obtain ⟨x, hx⟩ : ∃ x : UInt8, s[k] = x := ⟨_, rfl⟩
      have hxl : s.data.toList[k]? = some x := by rw [← hx]; exact Lib.data_getElem? s k hk'
      have Hat := Lib.hid hat
      have Hb := Lib.hid hb
      have Hraw := Lib.hid hraw
      have Hxl := Lib.hid hxl
      clear hat hb hraw hxl
      by_cases h45 : x = 45
      · subst h45
        go_wp2_with (at_builtin; refine wpList_app BT rfl _ _ rfl w.heap.size _ _ rfl (Hat.out.alloc _) ⟨_, 0, none⟩ 1 1 [47] rfl rfl (fun j u h => cells_new _ _ _ j u (by simpa [u8s] using h)) (by omega) (by have := Hb.out.size; simp; omega) ?_; intro v' w2 hv2 hb2; have hv2 := Lib.hid hv2; have hb2 := Lib.hid hb2)
        go_roundg (s.size - (k + 1))
        case rel => exact ⟨k + 1, A ++ [47], rfl, by omega, by go_num, hv2.out, (Hb.out.alloc Hb.out.size _).trans hb2.out, raw_next Hraw.out (raw_stroke Hxl.out), by simp; omega⟩
        case measure => omega
      · have n45 : ¬ (x.toNat : Int) = 45 := fun e => h45 (UInt8.toNat_inj.1 (by show x.toNat = 45; omega))
        by_cases h92 : x = 92
        · subst h92
          by_cases h4 : (s.size : Int) ≤ (k : Int) + 3
          · go_wp2
            go_ret2
            exact un_fail (by rw [Hraw.out, raw_short Hxl.out (by rw [Hl.out]; omega)]; rfl) rfl Hb.out
          · have k1 : k + 1 < s.size := by omega
            have k2 : k + 2 < s.size := by omega
            have k3 : k + 3 < s.size := by omega
            obtain ⟨y, hy⟩ : ∃ y : UInt8, s[k + 1] = y := ⟨_, rfl⟩
            obtain ⟨a, ha⟩ : ∃ a : UInt8, s[k + 2] = a := ⟨_, rfl⟩
            obtain ⟨b, hb⟩ : ∃ b : UInt8, s[k + 3] = b := ⟨_, rfl⟩
            have Hyl : Hid (s.data.toList[k + 1]? = some y) := Lib.hid (by rw [← hy]; exact Lib.data_getElem? s (k + 1) k1)
            have Hal : Hid (s.data.toList[k + 2]? = some a) := Lib.hid (by rw [← ha]; exact Lib.data_getElem? s (k + 2) k2)
            have Hbl : Hid (s.data.toList[k + 3]? = some b) := Lib.hid (by rw [← hb]; exact Lib.data_getElem? s (k + 3) k3)
            by_cases h120 : y = 120
            · subst h120
              have hraw := raw_hex Hxl.out Hyl.out Hal.out Hbl.out
              have p1 := unhex_lt a
              have q1 := unhex_lt b
              obtain ⟨p, hp⟩ : ∃ p, unhexI a = p := ⟨_, rfl⟩
              obtain ⟨q, hq⟩ : ∃ q, unhexI b = q := ⟨_, rfl⟩
              have IA : ∀ W, Calls Tryd.prog 46 #[.int .u8 (a.toNat : Int)] W fun e w' => e = .returned (.int .i64 p) ∧ w' = W := fun W => by rw [← hp]; exact unhex_calls a W
              have IB : ∀ W, Calls Tryd.prog 46 #[.int .u8 (b.toNat : Int)] W fun e w' => e = .returned (.int .i64 q) ∧ w' = W := fun W => by rw [← hq]; exact unhex_calls b W
              rw [hp, hq] at hraw
              rw [hp] at p1
              rw [hq] at q1
              have Hraw2 := Lib.hid hraw
              have IA := Lib.hid IA
              have IB := Lib.hid IB
              obtain ⟨p1, p2⟩ := p1
              obtain ⟨q1, q2⟩ := q1
              clear hp hq hraw
              by_cases hp0 : p < 0
              · go_wp2_with fail
                refine (IA.out _).mono ?_
                rintro e w1 ⟨rfl, rfl⟩
                go_wp2_with fail
                go_ret2
                exact un_fail (by rw [Hraw.out, Hraw2.out, if_neg (by omega)]; rfl) rfl Hb.out
              · by_cases hq0 : q < 0
                · go_wp2_with fail
                  refine (IA.out _).mono ?_
                  rintro e w1 ⟨rfl, rfl⟩
                  go_wp2_with fail
                  refine (IB.out _).mono ?_
                  rintro e w1 ⟨rfl, rfl⟩
                  go_wp2_with fail
                  go_ret2
                  exact un_fail (by rw [Hraw.out, Hraw2.out, if_neg (by omega)]; rfl) rfl Hb.out
                · have Hor := hex_add (a := p) (b := q) (by omega) p2 (by omega) q2
                  generalize hz : UInt8.ofNat (16 * p.toNat + q.toNat) = z at Hor Hraw2
                  clear hz
                  go_wp2_with fail
                  refine (IA.out _).mono ?_
                  rintro e w1 ⟨rfl, rfl⟩
                  go_wp2_with fail
                  refine (IB.out _).mono ?_
                  rintro e w1 ⟨rfl, rfl⟩
                  go_wp2_with fail
                  have w2 : IntKind.i64.wrap ((k : Int) + 2) = ((k + 2 : Nat) : Int) := by simp [IntKind.wrap, IntKind.signed, IntKind.bits]; omega
                  have w3 : IntKind.i64.wrap ((k : Int) + 3) = ((k + 3 : Nat) : Int) := by simp [IntKind.wrap, IntKind.signed, IntKind.bits]; omega
                  have iA : ∀ W, (Instr.index 9 (.string s) (.int .i64 (IntKind.i64.wrap ((k : Int) + 2)))).run Tryd.prog W = .ok (.int .u8 (a.toNat : Int)) W := fun W => index_at Tryd.underlying9 k2 ha w2 W
                  have iB : ∀ W, (Instr.index 9 (.string s) (.int .i64 (IntKind.i64.wrap ((k : Int) + 3)))).run Tryd.prog W = .ok (.int .u8 (b.toNat : Int)) W := fun W => index_at Tryd.underlying9 k3 hb w3 W
                  have m1 : IntKind.i64.wrap (16 * p) = 16 * p := by simp [IntKind.wrap, IntKind.signed, IntKind.bits]; omega
                  have m2 : IntKind.i64.wrap (16 * p + q) = 16 * p + q := by simp [IntKind.wrap, IntKind.signed, IntKind.bits]; omega
                  clear w2 w3 ha hb
                  go_region_law (first | (refine step_app BT rfl _ _ rfl w.heap.size _ _ rfl ((Hat.out.heap (fun _ _ => rfl)).alloc _) ⟨_, 0, none⟩ 1 1 [z] rfl rfl (fun j u h => cells_new _ _ _ j u (by simpa [u8s] using h)) (by omega) (by have := Hb.out.size; simp; omega) ?_; intro v' w2 hv2 hb2) | (go_simp; go_at_call 46; (with_reducible refine (IA.out _).mono ?_); rintro e w1 ⟨rfl, rfl⟩) | (go_simp; go_at_call 46; (with_reducible refine (IB.out _).mono ?_); rintro e w1 ⟨rfl, rfl⟩))
                  all_goals go_wp2_with fail
                  all_goals (
                    go_roundg (s.size - (k + 4))
                    case rel =>
                      refine ⟨k + 4, A ++ [z], rfl, by omega, by go_num, hv2, ?_, raw_next Hraw.out ?_, by simp; omega⟩
                      · exact ((Hb.out.alloc Hb.out.size _).drew).trans hb2
                      · rw [Hraw2.out, if_pos ⟨trivial, by omega, by omega⟩]
                    case measure => omega)
            · have n120 : ¬ (y.toNat : Int) = 120 := fun e => h120 (UInt8.toNat_inj.1 (by show y.toNat = 120; omega))
              have h120 := Lib.hid h120
              go_wp2
              go_ret2
              exact un_fail (by rw [Hraw.out, raw_hex Hxl.out Hyl.out Hal.out Hbl.out, if_neg fun e => h120.out e.1]; rfl) rfl Hb.out
        · have n92 : ¬ (x.toNat : Int) = 92 := fun e => h92 (UInt8.toNat_inj.1 (by show x.toNat = 92; omega))
          have h45' := Lib.hid h45
          have h92' := Lib.hid h92
          clear h45 h92
          go_wp2_with (at_builtin; refine wpList_app BT rfl _ _ rfl w.heap.size _ _ rfl (Hat.out.alloc _) ⟨_, 0, none⟩ 1 1 [x] rfl rfl (fun j u h => cells_new _ _ _ j u (by simpa [u8s] using h)) (by omega) (by have := Hb.out.size; simp; omega) ?_; intro v' w2 hv2 hb2; have hv2 := Lib.hid hv2; have hb2 := Lib.hid hb2)
          go_roundg (s.size - (k + 1))
          case rel => exact ⟨k + 1, A ++ [x], rfl, by omega, by go_num, hv2.out, (Hb.out.alloc Hb.out.size _).trans hb2.out, raw_next Hraw.out (raw_plain Hxl.out h45'.out h92'.out), by simp; omega⟩
          case measure => omega
    · obtain rfl : k = s.size := by omega
      have hconv := run_text_of BT hat
      have hf : rawU s.data.toList = some A := by
        rw [hraw, List.drop_eq_nil_of_le (by rw [Hl.out]; exact Nat.le_refl _), rawU]; simp
      have hf := Lib.hid hf
      have hb := Lib.hid hb
      clear hraw
      have hz : (mkS A).size ≤ 1000000 := by rw [Lib.size_eq, data_mkS]; omega
      have HA : Hid (∀ w1, Below wr.heap.size wr w1 → (convert 41 9 u4).run Tryd.prog w1 = .ok (.string (mkS A)) w1) := Lib.hid fun w1 h => run_text_of BT (hat.below h)
      go_wp2_with (go_at_call 24; refine (escapeR_calls _ hz _).mono ?_; rintro e w1 ⟨rfl, hb1⟩; have hc1 := HA.out _ hb1)
      · rename_i hne
        go_ret2
        refine ⟨?_, (hb.out.trans (hb1.mono hb.out.size))⟩
        rw [unescL, hf.out]
        dsimp only
        rw [if_neg]
        · rfl
        · intro hE
          simp [data_mkS, hE, mkS_data] at hne
      · rename_i heq
        go_ret2
        refine ⟨?_, (hb.out.trans (hb1.mono hb.out.size))⟩
        have hE : escL A = s.data.toList := by
          rw [data_mkS] at heq
          simpa [Lib.toList_data, data_mkS] using heq
        rw [unescL, hf.out]
        dsimp only
        rw [if_pos hE]
        rfl
end Go.Proofs.YtgppdndpnflkeaaDoor
