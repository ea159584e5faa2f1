/- Contracts of package name: what stands for a byte behind a percent sign. -/
import Derived.Test.YtgppdndpnflkeaaDoorNf
namespace Go.Proofs.YtgppdndpnflkeaaDoor
open Go.RowKit Go.Rv

def specL (c : UInt8) (u : List UInt8) : List UInt8 × Int :=
  if c = 110 then (u, 0)
  else if c = 112 then ((pT u).1, 0)
  else if c = 105 then ((pT u).2.1, 0)
  else if c = 73 then (if (unescL (pT u).2.1).2 = 0 then ((unescL (pT u).2.1).1, 0) else ([], 42))
  else if c = 37 then ([37], 0) else ([], 42)
def SpecPost (c : UInt8) (s : ByteArray) (w : World) (e : Ending) (w' : World) : Prop :=
  e = .returned (.tuple #[.string (mkS (specL c s.data.toList).1), .int .i64 (specL c s.data.toList).2]) ∧ Below w.heap.size w w'
theorem spec_end {c : UInt8} {s : ByteArray} {w w' : World} {e : Ending} {x : ByteArray} {n : Int} (h : Hid (specL c s.data.toList = (x.data.toList, n))) (he : e = .returned (.tuple #[.string x, .int .i64 n])) (hb : Below w.heap.size w w') : SpecPost c s w e w' :=
  ⟨by rw [h.out, he, mkS_data], hb⟩
theorem ne_u8 {c : UInt8} {n : Nat} (hn : n < 256) (h : c ≠ UInt8.ofNat n) : ¬ (c.toNat : Int) = (n : Int) := by
  intro e
  refine h (UInt8.toNat_inj.1 ?_)
  rw [UInt8.toNat_ofNat_of_lt' (by omega)]
  omega
theorem specifier_calls (c : UInt8) (s : ByteArray) (hs : s.size ≤ 1000000) (w : World) : Calls Tryd.prog 33 #[.int .u8 (c.toNat : Int), .string s] w (SpecPost c s w) := by
  obtain ⟨⟨a, b, f, k⟩, hp⟩ : ∃ q, pT s.data.toList = q := ⟨_, rfl⟩
  have HP := Lib.hid hp
  have hlb := (pT_len s.data.toList).2
  rw [hp] at hlb
  dsimp only at hlb
  by_cases h1 : c = 110
  · subst h1
    have E : Hid (specL 110 s.data.toList = (s.data.toList, 0)) := Lib.hid rfl
    clear hp
    go_enter Tryd.func33, Tryd.ntmps33
    go_wp2_with (go_at_call 39; refine (parts_at hs HP.out rfl _).mono ?_; rintro e w1 ⟨rfl, hb⟩)
    go_ret2
    exact spec_end E rfl (hb.alloc hb.size _)
  by_cases h2 : c = 112
  · subst h2
    have E : Hid (specL 112 s.data.toList = ((mkS a).data.toList, 0)) := Lib.hid (by rw [specL, if_neg (by decide), if_pos rfl, hp, data_mkS])
    clear hp h1
    go_enter Tryd.func33, Tryd.ntmps33
    go_wp2_with (go_at_call 39; refine (parts_at hs HP.out rfl _).mono ?_; rintro e w1 ⟨rfl, hb⟩)
    go_ret2
    exact spec_end E rfl (hb.alloc hb.size _)
  by_cases h3 : c = 105
  · subst h3
    have E : Hid (specL 105 s.data.toList = ((mkS b).data.toList, 0)) := Lib.hid (by rw [specL, if_neg (by decide), if_neg (by decide), if_pos rfl, hp, data_mkS])
    clear hp h1 h2
    go_enter Tryd.func33, Tryd.ntmps33
    go_wp2_with (go_at_call 39; refine (parts_at hs HP.out rfl _).mono ?_; rintro e w1 ⟨rfl, hb⟩)
    go_ret2
    exact spec_end E rfl (hb.alloc hb.size _)
  by_cases h4 : c = 73
  · subst h4
    obtain ⟨⟨x, n⟩, hu⟩ : ∃ q, unescL b = q := ⟨_, rfl⟩
    have HU : Hid (∀ W, Calls Tryd.prog 12 #[.string (mkS b)] W fun e w' => e = .returned (.tuple #[.string (mkS x), .int .i64 n]) ∧ Below W.heap.size W w') := Lib.hid fun W => by
      have := unescape_calls (mkS b) (by rw [size_mkS]; rw [Lib.size_eq] at hs; omega) W
      unfold UnPost at this
      rw [data_mkS, hu] at this
      exact this
    have E0 : specL 73 s.data.toList = if n = 0 then (x, 0) else ([], 42) := by rw [specL, if_neg (by decide), if_neg (by decide), if_neg (by decide), if_pos rfl, hp, hu]
    clear hp h1 h2 h3
    by_cases hn : n = 0
    · subst hn
      have E : Hid (specL 73 s.data.toList = ((mkS x).data.toList, 0)) := Lib.hid (by rw [E0, data_mkS]; rfl)
      clear E0
      go_enter Tryd.func33, Tryd.ntmps33
      go_wp2_with (first
        | (go_at_call 39; refine (parts_at hs HP.out rfl _).mono ?_; rintro e w1 ⟨rfl, hb⟩)
        | (go_at_call 12; refine (HU.out _).mono ?_; rintro e w2 ⟨rfl, hb2⟩))
      go_ret2
      exact spec_end E rfl ((hb.alloc hb.size _).trans (hb2.mono (by simp; exact Nat.le_succ_of_le hb.size)))
    · have E : Hid (specL 73 s.data.toList = ((⟨#[]⟩ : ByteArray).data.toList, 42)) := Lib.hid (by rw [E0, if_neg hn])
      clear E0
      go_enter Tryd.func33, Tryd.ntmps33
      go_wp2_with (first
        | (go_at_call 39; refine (parts_at hs HP.out rfl _).mono ?_; rintro e w1 ⟨rfl, hb⟩)
        | (go_at_call 12; refine (HU.out _).mono ?_; rintro e w2 ⟨rfl, hb2⟩))
      go_ret2
      exact spec_end E rfl ((hb.alloc hb.size _).trans (hb2.mono (by simp; exact Nat.le_succ_of_le hb.size)))
  have n1 := ne_u8 (n := 110) (by decide) h1
  have n2 := ne_u8 (n := 112) (by decide) h2
  have n3 := ne_u8 (n := 105) (by decide) h3
  have n4 := ne_u8 (n := 73) (by decide) h4
  by_cases h5 : c = 37
  · subst h5
    have E : Hid (specL 37 s.data.toList = ((⟨#[37]⟩ : ByteArray).data.toList, 0)) := Lib.hid rfl
    clear hp h1 h2 h3 h4 n1 n2 n3 n4
    go_enter Tryd.func33, Tryd.ntmps33
    go_wp2_with (go_at_call 39; refine (parts_at hs HP.out rfl _).mono ?_; rintro e w1 ⟨rfl, hb⟩)
    go_ret2
    exact spec_end E rfl (hb.alloc hb.size _)
  · have n5 := ne_u8 (n := 37) (by decide) h5
    have E : Hid (specL c s.data.toList = ((⟨#[]⟩ : ByteArray).data.toList, 42)) := Lib.hid (by rw [specL, if_neg h1, if_neg h2, if_neg h3, if_neg h4, if_neg h5])
    clear hp h1 h2 h3 h4 h5
    go_enter Tryd.func33, Tryd.ntmps33
    go_wp2_with (go_at_call 39; refine (parts_at hs HP.out rfl _).mono ?_; rintro e w1 ⟨rfl, hb⟩)
    go_ret2
    exact spec_end E rfl (hb.alloc hb.size _)
end Go.Proofs.YtgppdndpnflkeaaDoor
