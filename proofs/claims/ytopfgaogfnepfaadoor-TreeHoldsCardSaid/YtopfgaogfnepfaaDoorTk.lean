/- The laws' own test of a tree ('known'): it answers true. -/
import Derived.Test.YtopfgaogfnepfaaDoorTp
namespace Go.Proofs.YtopfgaogfnepfaaDoor
open Go.RowKit Go.Rv

section
variable {w : World} {bt b1 b2 b3 : Nat} {th : List (ByteArray × Bool)} {st : List (ByteArray × Int)} {mo : List (ByteArray × ByteArray)}
theorem make_yes (s : ByteArray) (f : Bool) (hs : s.size < 4611686018427387904) (h : TreeAt w bt b1 b2 b3 th st mo) (hE : makeE th s = 0) :
    Calls Tryd.prog 8 #[.pointer (some ⟨bt, 0, none⟩), .string s, .bool f] w fun e w' => e = .returned (.int .i64 0) ∧ TreeAt w' bt b1 b2 b3 (kput th s f) (chg st s) mo ∧ Upd (TS b1 b2 b3) w w' :=
  (make_calls s f hs h).mono fun e w' ⟨he, ht, hu⟩ => ⟨by rw [he, hE], by rw [if_pos hE, if_pos hE] at ht; exact ht, hu⟩
theorem make_not (s : ByteArray) (f : Bool) (hs : s.size < 4611686018427387904) (h : TreeAt w bt b1 b2 b3 th st mo) {n : Int} (hE : makeE th s = n) (hn : n ≠ 0) :
    Calls Tryd.prog 8 #[.pointer (some ⟨bt, 0, none⟩), .string s, .bool f] w fun e w' => e = .returned (.int .i64 n) ∧ TreeAt w' bt b1 b2 b3 th st mo ∧ Upd (TS b1 b2 b3) w w' :=
  (make_calls s f hs h).mono fun e w' ⟨he, ht, hu⟩ => ⟨by rw [he, hE], by rw [if_neg (by rw [hE]; exact hn), if_neg (by rw [hE]; exact hn)] at ht; exact ht, hu⟩
theorem remove_yes (s : ByteArray) (hs : s.size < 4611686018427387904) (h : TreeAt w bt b1 b2 b3 th st mo) (hE : removeE th mo s = 0) :
    Calls Tryd.prog 11 #[.pointer (some ⟨bt, 0, none⟩), .string s] w fun e w' => e = .returned (.int .i64 0) ∧ TreeAt w' bt b1 b2 b3 (kdel th s) (chg st s) mo ∧ Upd (TS b1 b2 b3) w w' :=
  (remove_calls s hs h).mono fun e w' ⟨he, ht, hu⟩ => ⟨by rw [he, hE], by rw [if_pos hE, if_pos hE] at ht; exact ht, hu⟩
theorem remove_not (s : ByteArray) (hs : s.size < 4611686018427387904) (h : TreeAt w bt b1 b2 b3 th st mo) {n : Int} (hE : removeE th mo s = n) (hn : n ≠ 0) :
    Calls Tryd.prog 11 #[.pointer (some ⟨bt, 0, none⟩), .string s] w fun e w' => e = .returned (.int .i64 n) ∧ TreeAt w' bt b1 b2 b3 th st mo ∧ Upd (TS b1 b2 b3) w w' :=
  (remove_calls s hs h).mono fun e w' ⟨he, ht, hu⟩ => ⟨by rw [he, hE], by rw [if_neg (by rw [hE]; exact hn), if_neg (by rw [hE]; exact hn)] at ht; exact ht, hu⟩
theorem touch_yes (s : ByteArray) (hs : s.size < 4611686018427387904) (h : TreeAt w bt b1 b2 b3 th st mo) (hE : foundE th s = 0) :
    Calls Tryd.prog 12 #[.pointer (some ⟨bt, 0, none⟩), .string s] w fun e w' => e = .returned (.int .i64 0) ∧ TreeAt w' bt b1 b2 b3 th (kput st s (wrap64 ((kget st s).getD 0 + 1))) mo ∧ Upd (TS b1 b2 b3) w w' :=
  (touch_calls s hs h).mono fun e w' ⟨he, ht, hu⟩ => ⟨by rw [he, hE], by rw [if_pos hE] at ht; exact ht, hu⟩
theorem touch_not (s : ByteArray) (hs : s.size < 4611686018427387904) (h : TreeAt w bt b1 b2 b3 th st mo) {n : Int} (hE : foundE th s = n) (hn : n ≠ 0) :
    Calls Tryd.prog 12 #[.pointer (some ⟨bt, 0, none⟩), .string s] w fun e w' => e = .returned (.int .i64 n) ∧ TreeAt w' bt b1 b2 b3 th st mo ∧ Upd (TS b1 b2 b3) w w' :=
  (touch_calls s hs h).mono fun e w' ⟨he, ht, hu⟩ => ⟨by rw [he, hE], by rw [if_neg (by rw [hE]; exact hn)] at ht; exact ht, hu⟩
theorem mount_yes (what s : ByteArray) (hs : s.size < 4611686018427387904) (h : TreeAt w bt b1 b2 b3 th st mo) (hE : mountE th mo s = 0) :
    Calls Tryd.prog 13 #[.pointer (some ⟨bt, 0, none⟩), .string what, .string s] w fun e w' => e = .returned (.int .i64 0) ∧ TreeAt w' bt b1 b2 b3 th st (kput mo s what) ∧ Upd (TS b1 b2 b3) w w' :=
  (mount_calls what s hs h).mono fun e w' ⟨he, ht, hu⟩ => ⟨by rw [he, hE], by rw [if_pos hE] at ht; exact ht, hu⟩
theorem mount_not (what s : ByteArray) (hs : s.size < 4611686018427387904) (h : TreeAt w bt b1 b2 b3 th st mo) {n : Int} (hE : mountE th mo s = n) (hn : n ≠ 0) :
    Calls Tryd.prog 13 #[.pointer (some ⟨bt, 0, none⟩), .string what, .string s] w fun e w' => e = .returned (.int .i64 n) ∧ TreeAt w' bt b1 b2 b3 th st mo ∧ Upd (TS b1 b2 b3) w w' :=
  (mount_calls what s hs h).mono fun e w' ⟨he, ht, hu⟩ => ⟨by rw [he, hE], by rw [if_neg (by rw [hE]; exact hn)] at ht; exact ht, hu⟩
theorem unmount_yes (s : ByteArray) (hs : s.size < 4611686018427387904) (h : TreeAt w bt b1 b2 b3 th st mo) (hE : unmountE mo s = 0) :
    Calls Tryd.prog 14 #[.pointer (some ⟨bt, 0, none⟩), .string s] w fun e w' => e = .returned (.int .i64 0) ∧ TreeAt w' bt b1 b2 b3 th st (kdel mo s) ∧ Upd (TS b1 b2 b3) w w' :=
  (unmount_calls s hs h).mono fun e w' ⟨he, ht, hu⟩ => ⟨by rw [he, hE], by rw [if_pos hE] at ht; exact ht, hu⟩
theorem unmount_not (s : ByteArray) (hs : s.size < 4611686018427387904) (h : TreeAt w bt b1 b2 b3 th st mo) {n : Int} (hE : unmountE mo s = n) (hn : n ≠ 0) :
    Calls Tryd.prog 14 #[.pointer (some ⟨bt, 0, none⟩), .string s] w fun e w' => e = .returned (.int .i64 n) ∧ TreeAt w' bt b1 b2 b3 th st mo ∧ Upd (TS b1 b2 b3) w w' :=
  (unmount_calls s hs h).mono fun e w' ⟨he, ht, hu⟩ => ⟨by rw [he, hE], by rw [if_neg (by rw [hE]; exact hn)] at ht; exact ht, hu⟩
end

def k0 : List (ByteArray × Bool) := [(sR, true)]
def k1 : List (ByteArray × Bool) := kput k0 sA true
def k2 : List (ByteArray × Bool) := kput k1 sAB false
def t1 : List (ByteArray × Int) := chg [] sA
def t2 : List (ByteArray × Int) := chg t1 sAB

theorem m1 : makeE k0 sA = 0 := by rw [makeE, rA, fA]; decide +kernel
theorem m2 : makeE k1 sAB = 0 := by rw [makeE, rAB, fAB]; decide +kernel
theorem m3 : makeE k2 sABC = 110 := by rw [makeE, rABC, fABC]; decide +kernel
theorem st2 : (kget t2 sA).getD 0 = 2 := by
  rw [t2, t1]; unfold chg; rw [fA, fAB]; decide +kernel
theorem rm2 : removeE k2 [] sA = 112 := by
  have hf : foundE k2 sA = 0 := by rw [foundE, rA]; decide +kernel
  have hu : underB (k2.map Prod.fst) sA = true := by
    refine List.any_eq_true.2 ⟨sAB, by simp [k2, k1, k0, kput, ne1, ne2, ne3], ?_⟩
    rw [isUnder_eq]; decide +kernel
  rw [removeE, if_pos hf, hu]; simp
theorem mo2 : mountE k2 [] sA = 0 := by rw [mountE, rA]; decide +kernel

theorem known_calls (w : World) : Calls Tryd.prog 6 #[] w fun e w' => e = .returned (.bool true) ∧ Below w.heap.size w w' := by
  go_enter Tryd.func6, Tryd.ntmps6
  go_wp2_with fail
  refine (new_calls _).mono ?_
  rintro e w1 ⟨rfl, h1, hb1⟩
  go_wp2_with fail
  refine (make_yes sA true (by decide) h1 m1).mono ?_
  rintro e w2 ⟨rfl, h2, hu2⟩
  go_wp2_with fail
  refine (make_yes sAB false (by decide) h2 m2).mono ?_
  rintro e w3 ⟨rfl, h3, hu3⟩
  go_wp2_with fail
  refine (stamp_calls sA (by decide) h3).mono ?_
  rintro e w4 ⟨rfl, rfl⟩
  rw [show (kget (chg (chg [] sA) sAB) sA).getD 0 = 2 from st2]
  go_wp2_with fail
  refine (make_not sABC false (by decide) h3 m3 (by decide)).mono ?_
  rintro e w4 ⟨rfl, h4, hu4⟩
  go_wp2_with fail
  refine (remove_not sA (by decide) h4 rm2 (by decide)).mono ?_
  rintro e w5 ⟨rfl, h5, hu5⟩
  go_wp2_with fail
  refine (mount_yes _ sA (by decide) h5 mo2).mono ?_
  rintro e w6 ⟨rfl, h6, hu6⟩
  go_wp2_with fail
  go_ret
  refine ⟨rfl, hb1.trans ((((hu2.trans hu3).trans (hu4.trans hu5)).trans hu6).below hb1.size fun k hk h => ?_)⟩
  rcases h with h | h | h <;> omega
end Go.Proofs.YtopfgaogfnepfaaDoor
