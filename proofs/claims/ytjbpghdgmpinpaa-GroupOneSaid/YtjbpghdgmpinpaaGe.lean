/- reveillelaw9.known. -/
import Derived.Test.YtjbpghdgmpinpaaGc
import Derived.Test.YtjbpghdgmpinpaaGd
namespace Go.Proofs.Ytjbpghdgmpinpaa
open Go.RowKit Go.Rv

theorem eqk1 : makeE [] ⟨#[97]⟩ = 0 ∧ makeG [] ⟨#[97]⟩ = [(⟨#[97]⟩, [])] := by constructor <;> simp [makeE, makeG, Lib.toList_data, kget]
theorem eqk2 : putE [(⟨#[97]⟩, [])] 2 ⟨#[97]⟩ = 0 ∧ putG [(⟨#[97]⟩, [])] [] 2 ⟨#[97]⟩ = [(⟨#[97]⟩, [2])] ∧ putO [(⟨#[97]⟩, [])] [] 2 ⟨#[97]⟩ = [(2, ⟨#[97]⟩)] ∧ putN [(⟨#[97]⟩, [])] [] [] 2 ⟨#[97]⟩ = [] := by decide
theorem eqk3 : (kget [((2 : Int), (⟨#[97]⟩ : ByteArray))] 2).isSome = true ∧ goneG [(⟨#[97]⟩, [2])] [(2, ⟨#[97]⟩)] 2 = [(⟨#[97]⟩, [])] ∧ kdel [((2 : Int), (⟨#[97]⟩ : ByteArray))] 2 = [] ∧ goneN [(⟨#[97]⟩, [2])] [(2, ⟨#[97]⟩)] [] 2 = [⟨#[97]⟩] := by decide
theorem eqk4 : emptiedL [(⟨#[97]⟩, [])] [⟨#[97]⟩] = (some ⟨#[97]⟩, []) := by decide
theorem eqk5 : makeE [(⟨#[97]⟩, [])] ⟨#[97]⟩ = 91 ∧ makeG [(⟨#[97]⟩, [])] ⟨#[97]⟩ = [(⟨#[97]⟩, [])] := by constructor <;> simp [makeE, makeG, Lib.toList_data, kget]
theorem ink3 : ∀ q n, kget [((2 : Int), (⟨#[97]⟩ : ByteArray))] q = some n → (kget [((⟨#[97]⟩ : ByteArray), [(2 : Int)])] n).isSome = true := by
  intro q n h
  have := look_mem h
  simp only [List.mem_singleton, Prod.mk.injEq] at this
  obtain ⟨rfl, rfl⟩ := this
  decide
theorem eqk7 : emptiedL [(⟨#[97]⟩, [])] [] = (none, []) := rfl
theorem eqk6 : putE [(⟨#[97]⟩, [])] 2 ⟨#[98]⟩ = 90 := by decide

theorem known9_calls (w : World) : Calls Try.prog 9 #[] w fun e w' => e = .returned (.bool true) ∧ Below w.heap.size w w' := by
  have E1 := Lib.hid eqk1
  have E2 := Lib.hid eqk2
  have E3 := Lib.hid eqk3
  have E4 := Lib.hid eqk4
  have E5 := Lib.hid eqk5
  have E6 := Lib.hid eqk6
  have E7 := Lib.hid eqk7
  have M13 : True := trivial
  go_enter Try.func9, Try.ntmps9
  go_wp2_with (first
    | (go_at_call 10; refine (gnew_calls w).mono ?_; rintro e w1 ⟨rfl, k1, hb1⟩)
    | (go_at_call 11; refine (make_calls ⟨#[97]⟩ (by decide) k1).mono ?_; rintro e w2 ⟨rfl, S2, k2, o2⟩; rw [E1.out.1]; rw [E1.out.2] at k2)
    | (go_at_call 13; clear M13; refine (put_calls 2 (by omega) ⟨#[97]⟩ (by decide) (by simp) (by simp [kget]) k2).mono ?_; rintro e w3 ⟨rfl, S3, k3, o3⟩; rw [E2.out.1]; rw [E2.out.2.1, E2.out.2.2.1, E2.out.2.2.2] at k3)
    | (go_at_call 12; refine (gone_calls 2 (by omega) (by simp) ink3 k3).mono ?_; rintro e w4 ⟨rfl, S4, k4, o4⟩; rw [E3.out.1]; rw [E3.out.2.1, E3.out.2.2.1, E3.out.2.2.2] at k4)
    | (go_at_call 16; refine (emptied_calls (fun n hn => by simp only [List.mem_singleton] at hn; subst hn; decide) k4).mono ?_; rw [E4.out]; rintro e w5 ⟨rfl, S5, k5, o5⟩)
    | (go_at_call 16; refine (emptied_calls (by simp) k5).mono ?_; rw [E7.out]; rintro e w6 ⟨rfl, S6, k6, o6⟩)
    | (go_at_call 11; refine (make_calls ⟨#[97]⟩ (by decide) k6).mono ?_; rintro e w7 ⟨rfl, S7, k7, o7⟩; rw [E5.out.1]; rw [E5.out.2] at k7)
    | (go_at_call 13; refine (put_calls 2 (by omega) ⟨#[98]⟩ (by decide) (by simp) (by simp [kget]) k7).mono ?_; rintro e w8 ⟨rfl, S8, k8, o8⟩; rw [E6.out]))
  go_ret
  have o := (((((o2.trans o3).trans o4).trans o5).trans o6).trans o7).trans o8
  exact ⟨rfl, hb1.trans (o.upd.below hb1.size (by intro k hk h; omega))⟩
end Go.Proofs.Ytjbpghdgmpinpaa
