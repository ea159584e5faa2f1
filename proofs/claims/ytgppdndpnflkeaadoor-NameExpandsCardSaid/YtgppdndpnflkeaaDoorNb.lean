/- Contracts of package name: Unescape. -/
import Derived.Test.YtgppdndpnflkeaaDoorNa
import Derived.Test.YtgppdndpnflkeaaDoorShelf
import Derived.Deep.QuietTactic
import Derived.BigQuiet
import Derived.Deep.LoopGhost
namespace Go.Proofs.YtgppdndpnflkeaaDoor
open Go.RowKit Go.Rv

/-- What a digit stands for; less than zero: it is none. -/
def unhexI (c : UInt8) : Int := Lib.indexByte hexS.data.toList c
theorem unhex_lt (c : UInt8) : -1 ≤ unhexI c ∧ unhexI c < 16 := by
  have key : ∀ a : Fin 256, -1 ≤ Lib.indexByte hexS.data.toList (UInt8.ofNat a.1) ∧ Lib.indexByte hexS.data.toList (UInt8.ofNat a.1) < 16 := by decide +kernel
  have := key ⟨c.toNat, c.toNat_lt⟩
  simpa [unhexI] using this
/-- The bytes that an escaped text stands for. -/
def rawU : List UInt8 → Option (List UInt8)
  | [] => some []
  | c :: r =>
    if c = 45 then (rawU r).map (47 :: ·)
    else if c ≠ 92 then (rawU r).map (c :: ·)
    else match r with
      | x :: h :: l :: r' => if x = 120 ∧ 0 ≤ unhexI h ∧ 0 ≤ unhexI l then (rawU r').map (UInt8.ofNat (16 * (unhexI h).toNat + (unhexI l).toNat) :: ·) else none
      | _ => none
def unescL (l : List UInt8) : List UInt8 × Int :=
  match rawU l with
  | some a => if escL a = l then (a, 0) else ([], 41)
  | none => ([], 41)
def hexT (r : List UInt8) : Option (List UInt8) :=
  match r with
  | x :: h :: l :: r' => if x = 120 ∧ 0 ≤ unhexI h ∧ 0 ≤ unhexI l then (rawU r').map (UInt8.ofNat (16 * (unhexI h).toNat + (unhexI l).toNat) :: ·) else none
  | _ => none
theorem rawU_cons (c : UInt8) (r : List UInt8) : rawU (c :: r) = if c = 45 then (rawU r).map (47 :: ·) else if c ≠ 92 then (rawU r).map (c :: ·) else hexT r := by
  rw [rawU.eq_def]
  rfl
theorem index_at {P : Program} {s : ByteArray} {t : TypeId} (ht : P.underlying t = some .string) {j : Nat} (hj : j < s.size) {c : UInt8} (hc : s[j] = c) {i : Int} (hi : i = (j : Int)) (w : World) :
    (Instr.index t (.string s) (.int .i64 i)).run P w = .ok (.int .u8 (c.toNat : Int)) w := by
  subst hi
  rw [run_index_string w t s .i64 (j : Int) ht, dif_pos ⟨by omega, by omega⟩]
  simp [hc]
theorem drop_cons {l : List UInt8} {k : Nat} {c : UInt8} (h : l[k]? = some c) : l.drop k = c :: l.drop (k + 1) := by
  obtain ⟨hk, rfl⟩ := List.getElem?_eq_some_iff.1 h
  exact List.drop_eq_getElem_cons hk
theorem raw_stroke {l : List UInt8} {k : Nat} (h : l[k]? = some 45) : rawU (l.drop k) = (rawU (l.drop (k + 1))).map (47 :: ·) := by
  rw [drop_cons h, rawU_cons, if_pos rfl]
theorem raw_plain {l : List UInt8} {k : Nat} {c : UInt8} (h : l[k]? = some c) (h1 : c ≠ 45) (h2 : c ≠ 92) : rawU (l.drop k) = (rawU (l.drop (k + 1))).map (c :: ·) := by
  rw [drop_cons h, rawU_cons, if_neg h1, if_pos h2]
theorem raw_short {l : List UInt8} {k : Nat} (h : l[k]? = some 92) (hl : l.length - k < 4) : rawU (l.drop k) = none := by
  rw [drop_cons h, rawU_cons, if_neg (by decide), if_neg (by simp)]
  have : (l.drop (k + 1)).length < 3 := by rw [List.length_drop]; omega
  match l.drop (k + 1), this with
  | [], _ => rfl
  | [_], _ => rfl
  | [_, _], _ => rfl
theorem raw_hex {l : List UInt8} {k : Nat} {x a b : UInt8} (h : l[k]? = some 92) (h1 : l[k + 1]? = some x) (h2 : l[k + 2]? = some a) (h3 : l[k + 3]? = some b) :
    rawU (l.drop k) = if x = 120 ∧ 0 ≤ unhexI a ∧ 0 ≤ unhexI b then (rawU (l.drop (k + 4))).map (UInt8.ofNat (16 * (unhexI a).toNat + (unhexI b).toNat) :: ·) else none := by
  rw [drop_cons h, drop_cons h1, drop_cons h2, drop_cons h3, rawU_cons, if_neg (by decide), if_neg (by simp)]
  rfl
theorem raw_next {l A : List UInt8} {k j : Nat} {c : UInt8} (h : rawU l = (rawU (l.drop k)).map (A ++ ·)) (h1 : rawU (l.drop k) = (rawU (l.drop j)).map (c :: ·)) : rawU l = (rawU (l.drop j)).map ((A ++ [c]) ++ ·) := by
  rw [h, h1, Option.map_map]
  congr 1
  funext r
  simp
theorem hex_or {a b : Int} (ha : 0 ≤ a) (ha2 : a < 16) (hb : 0 ≤ b) (hb2 : b < 16) : IntKind.u8.wrap (bits BinOp.or IntKind.i64 (a * 16) b) = ((UInt8.ofNat (16 * a.toNat + b.toNat)).toNat : Int) := by
  have key : ∀ x y : Fin 16, IntKind.u8.wrap (bits BinOp.or IntKind.i64 ((x.1 : Int) * 16) (y.1 : Int)) = ((UInt8.ofNat (16 * x.1 + y.1)).toNat : Int) := by decide +kernel
  have := key ⟨a.toNat, by omega⟩ ⟨b.toNat, by omega⟩
  simpa [Int.toNat_of_nonneg ha, Int.toNat_of_nonneg hb] using this

def UnRel (w : World) (s : ByteArray) (g : Nat) (v i : Value) (W : World) : Prop :=
  ∃ (k : Nat) (A : List UInt8), g = s.size - k ∧ k ≤ s.size ∧ i = .int .i64 k ∧ BytesAt w.heap.size 5 v A W ∧ Below w.heap.size w W ∧ rawU s.data.toList = (rawU (s.data.toList.drop k)).map (A ++ ·) ∧ A.length ≤ k
def UnPost (w : World) (s : ByteArray) (e : Ending) (w' : World) : Prop :=
  e = .returned (.tuple #[.string (mkS (unescL s.data.toList).1), .int .i64 (unescL s.data.toList).2]) ∧ Below w.heap.size w w'
theorem un_fail {w w' : World} {s : ByteArray} {e : Ending} (h : rawU s.data.toList = none) (he : e = .returned (.tuple #[.string ⟨#[]⟩, .int .i64 41])) (hb : Below w.heap.size w w') : UnPost w s e w' := by
  refine ⟨?_, hb⟩
  rw [he, unescL, h]; rfl

set_option maxRecDepth 100000 in
set_option maxHeartbeats 1000000 in
theorem unescape_calls (s : ByteArray) (hs : s.size ≤ 1000000) (w : World) : Calls Tryd.prog 12 #[.string s] w (UnPost w s) := by
  have hl : s.data.toList.length = s.size := (Lib.size_eq s).symm
  have Hl := Lib.hid hl
  clear hl
  go_enter Tryd.func12, Tryd.ntmps12
  go_wp2
  go_loopg [4, 5] s.size (fun g v i W => UnRel w s g v i W)
  case atStart => exact ⟨0, [], rfl, by omega, rfl, bytesAt_nil _ _ _, Below.refl _ _, by simp, Nat.le_refl _⟩
  case round =>
    obtain ⟨k, A, rfl, hk, rfl, hat, hb, hraw, hA⟩ := hrel
    by_cases hlt : (k : Int) < (s.size : Int)
    · have hk' : k < s.size := by omega
      obtain ⟨x, hx⟩ : ∃ x : UInt8, s[k] = x := ⟨_, rfl⟩
      have hxl : s.data.toList[k]? = some x := by rw [← hx]; exact Lib.data_getElem? s k hk'
      have Hat := Lib.hid hat
      have Hb := Lib.hid hb
      have Hraw := Lib.hid hraw
      have Hxl := Lib.hid hxl
      clear hat hb hraw hxl
      by_cases h45 : x = 45
      · subst h45
        go_wp2_with (at_builtin; refine wpList_app BT rfl _ _ rfl w.heap.size _ _ rfl (Hat.out.alloc _) ⟨_, 0, none⟩ 1 1 [47] rfl rfl (fun j u h => cells_new _ _ _ j u (by simpa [u8s] using h)) (by omega) (by have := Hb.out.size; simp; omega) ?_; intro v' w2 hv2 hb2; have hv2 := Lib.hid hv2; have hb2 := Lib.hid hb2)
        go_roundg (s.size - (k + 1))
        case rel => exact ⟨k + 1, A ++ [47], rfl, by omega, by go_num, hv2.out, (Hb.out.alloc Hb.out.size _).trans hb2.out, raw_next Hraw.out (raw_stroke Hxl.out), by simp; omega⟩
        case measure => omega
      · have n45 : ¬ (x.toNat : Int) = 45 := fun e => h45 (UInt8.toNat_inj.1 (by show x.toNat = 45; omega))
        by_cases h92 : x = 92
        · subst h92
          by_cases h4 : (s.size : Int) - (k : Int) < 4
          · go_wp2
            go_ret2
            exact un_fail (by rw [Hraw.out, raw_short Hxl.out (by rw [Hl.out]; omega)]; rfl) rfl Hb.out
          · have k1 : k + 1 < s.size := by omega
            have k2 : k + 2 < s.size := by omega
            have k3 : k + 3 < s.size := by omega
            obtain ⟨y, hy⟩ : ∃ y : UInt8, s[k + 1] = y := ⟨_, rfl⟩
            obtain ⟨a, ha⟩ : ∃ a : UInt8, s[k + 2] = a := ⟨_, rfl⟩
            obtain ⟨b, hb⟩ : ∃ b : UInt8, s[k + 3] = b := ⟨_, rfl⟩
            have Hyl : Hid (s.data.toList[k + 1]? = some y) := Lib.hid (by rw [← hy]; exact Lib.data_getElem? s (k + 1) k1)
            have Hal : Hid (s.data.toList[k + 2]? = some a) := Lib.hid (by rw [← ha]; exact Lib.data_getElem? s (k + 2) k2)
            have Hbl : Hid (s.data.toList[k + 3]? = some b) := Lib.hid (by rw [← hb]; exact Lib.data_getElem? s (k + 3) k3)
            by_cases h120 : y = 120
            · subst h120
              go_wp2
              have w2 : IntKind.i64.wrap ((k : Int) + 2) = ((k + 2 : Nat) : Int) := by simp [IntKind.wrap, IntKind.signed, IntKind.bits]; omega
              have w3 : IntKind.i64.wrap ((k : Int) + 3) = ((k + 3 : Nat) : Int) := by simp [IntKind.wrap, IntKind.signed, IntKind.bits]; omega
              have z2 : ((k + 2 : Nat) : Int) < (s.size : Int) := by omega
              have z3 : ((k + 3 : Nat) : Int) < (s.size : Int) := by omega
              have a0 : 0 ≤ IntKind.i64.wrap ((k : Int) + 2) := by omega
              have a1 : IntKind.i64.wrap ((k : Int) + 2) < (s.size : Int) := by omega
              have b0 : 0 ≤ IntKind.i64.wrap ((k : Int) + 3) := by omega
              have b1 : IntKind.i64.wrap ((k : Int) + 3) < (s.size : Int) := by omega
              have av : ∀ h, s[(IntKind.i64.wrap ((k : Int) + 2)).toNat]'h = a := fun h => by simp only [w2, Int.toNat_natCast]; exact ha
              have bv : ∀ h, s[(IntKind.i64.wrap ((k : Int) + 3)).toNat]'h = b := fun h => by simp only [w3, Int.toNat_natCast]; exact hb
              have iA : ∀ W, (Instr.index 9 (.string s) (.int .i64 (IntKind.i64.wrap ((k : Int) + 2)))).run Tryd.prog W = .ok (.int .u8 (a.toNat : Int)) W := fun W => index_at Tryd.underlying9 k2 ha w2 W
              have iB : ∀ W, (Instr.index 9 (.string s) (.int .i64 (IntKind.i64.wrap ((k : Int) + 3)))).run Tryd.prog W = .ok (.int .u8 (b.toNat : Int)) W := fun W => index_at Tryd.underlying9 k3 hb w3 W
              clear w2 w3
              have IA : ∀ W, Calls Tryd.prog 35 #[.string hexS, .int .u8 (a.toNat : Int)] W fun e w' => e = .returned (.int .i64 (unhexI a)) ∧ w' = W := fun W =>
                (Tryd.strings_IndexByte hexS (a.toNat : Int) W).mono fun e w' ⟨h1, h2⟩ => ⟨by rw [h1]; simp [unhexI], h2⟩
              have IB : ∀ W, Calls Tryd.prog 35 #[.string hexS, .int .u8 (b.toNat : Int)] W fun e w' => e = .returned (.int .i64 (unhexI b)) ∧ w' = W := fun W =>
                (Tryd.strings_IndexByte hexS (b.toNat : Int) W).mono fun e w' ⟨h1, h2⟩ => ⟨by rw [h1]; simp [unhexI], h2⟩
              have IA := Lib.hid IA
              have IB := Lib.hid IB
              go_quiet (first | (go_at_call 35; exact Calls.quiet_of_same (IA.out _)) | (go_at_call 35; exact Calls.quiet_of_same (IB.out _)))
              have hraw := raw_hex Hxl.out Hyl.out Hal.out Hbl.out
              obtain ⟨p, hp⟩ : ∃ p, unhexI a = p := ⟨_, rfl⟩
              obtain ⟨q, hq⟩ : ∃ q, unhexI b = q := ⟨_, rfl⟩
              have p1 := unhex_lt a
              have q1 := unhex_lt b
              rw [hp, hq] at hraw
              rw [hp] at p1
              rw [hq] at q1
              rw [hp, hq]
              have Hraw2 := Lib.hid hraw
              obtain ⟨p1, p2⟩ := p1
              obtain ⟨q1, q2⟩ := q1
              clear hp hq hraw IA IB a0 a1 b0 b1 av bv
              by_cases hp0 : p < 0
              · go_wp2
                go_ret2
                exact un_fail (by rw [Hraw.out, Hraw2.out, if_neg (by omega)]; rfl) rfl (Hb.out.trans ⟨rfl, rfl, rfl, Nat.le_refl _, fun _ _ => rfl⟩)
              · by_cases hq0 : q < 0
                · go_wp2
                  go_ret2
                  exact un_fail (by rw [Hraw.out, Hraw2.out, if_neg (by omega)]; rfl) rfl (Hb.out.trans ⟨rfl, rfl, rfl, Nat.le_refl _, fun _ _ => rfl⟩)
                · have Hor := hex_or (a := p) (b := q) (by omega) p2 (by omega) q2
                  generalize hz : UInt8.ofNat (16 * p.toNat + q.toNat) = z at Hor Hraw2
                  clear hz
                  go_wp2_with (at_builtin; refine wpList_app BT rfl _ _ rfl w.heap.size _ _ rfl (BytesAt.alloc (Hat.out.heap (fun _ _ => rfl)) _) ⟨_, 0, none⟩ 1 1 [z] rfl rfl (fun j u h => cells_new _ _ _ j u (by simpa [u8s] using h)) (by omega) (by have := Hb.out.size; simp; omega) ?_; intro v' w2 hv2 hb2; have hv2 := Lib.hid hv2; have hb2 := Lib.hid hb2)
                  go_roundg (s.size - (k + 4))
                  case rel =>
                    refine ⟨k + 4, A ++ [z], rfl, by omega, by go_num, hv2.out, ?_, raw_next Hraw.out ?_, by simp; omega⟩
                    · exact ((Hb.out.trans (show Below w.heap.size wr (wr.drewN nq) from ⟨rfl, rfl, rfl, Nat.le_refl _, fun _ _ => rfl⟩)).alloc Hb.out.size _).trans hb2.out
                    · rw [Hraw2.out, if_pos ⟨trivial, by omega, by omega⟩]
                  case measure => omega
            · have n120 : ¬ (y.toNat : Int) = 120 := fun e => h120 (UInt8.toNat_inj.1 (by show y.toNat = 120; omega))
              have h120 := Lib.hid h120
              go_wp2
              go_ret2
              exact un_fail (by rw [Hraw.out, raw_hex Hxl.out Hyl.out Hal.out Hbl.out, if_neg fun e => h120.out e.1]; rfl) rfl Hb.out
        · have n92 : ¬ (x.toNat : Int) = 92 := fun e => h92 (UInt8.toNat_inj.1 (by show x.toNat = 92; omega))
          have h45' := Lib.hid h45
          have h92' := Lib.hid h92
          clear h45 h92
          go_wp2_with (at_builtin; refine wpList_app BT rfl _ _ rfl w.heap.size _ _ rfl (Hat.out.alloc _) ⟨_, 0, none⟩ 1 1 [x] rfl rfl (fun j u h => cells_new _ _ _ j u (by simpa [u8s] using h)) (by omega) (by have := Hb.out.size; simp; omega) ?_; intro v' w2 hv2 hb2; have hv2 := Lib.hid hv2; have hb2 := Lib.hid hb2)
          go_roundg (s.size - (k + 1))
          case rel => exact ⟨k + 1, A ++ [x], rfl, by omega, by go_num, hv2.out, (Hb.out.alloc Hb.out.size _).trans hb2.out, raw_next Hraw.out (raw_plain Hxl.out h45'.out h92'.out), by simp; omega⟩
          case measure => omega
    · obtain rfl : k = s.size := by omega
      have hconv := run_text_of BT hat
      have hf : rawU s.data.toList = some A := by
        rw [hraw, List.drop_eq_nil_of_le (by rw [Hl.out]; exact Nat.le_refl _), rawU]; simp
      have hf := Lib.hid hf
      have hb := Lib.hid hb
      clear hraw
      have hz : (mkS A).size ≤ 1000000 := by rw [Lib.size_eq, data_mkS]; omega
      have HA : Hid (∀ w1, Below wr.heap.size wr w1 → (convert 41 9 u4).run Tryd.prog w1 = .ok (.string (mkS A)) w1) := Lib.hid fun w1 h => run_text_of BT (hat.below h)
      go_wp2_with (go_at_call 11; refine (escape_calls _ hz _).mono ?_; rintro e w1 ⟨rfl, hb1⟩; have hc1 := HA.out _ hb1)
      · rename_i hne
        go_ret2
        refine ⟨?_, (hb.out.trans (hb1.mono hb.out.size))⟩
        rw [unescL, hf.out]
        dsimp only
        rw [if_neg]
        · rfl
        · intro hE
          simp [data_mkS, hE, mkS_data] at hne
      · rename_i heq
        go_ret2
        refine ⟨?_, (hb.out.trans (hb1.mono hb.out.size))⟩
        have hE : escL A = s.data.toList := by
          rw [data_mkS] at heq
          simpa [Lib.toList_data, data_mkS] using heq
        rw [unescL, hf.out]
        dsimp only
        rw [if_pos hE]
        rfl
end Go.Proofs.YtgppdndpnflkeaaDoor
