/- Plain laws: a path's name. -/
import Derived.Test.YtgppdndpnflkeaaDoorNm
namespace Go.Proofs.YtgppdndpnflkeaaDoor
open Go.RowKit Go.Rv

/-- A part of a path. -/
def Seg (l : List UInt8) : Prop := l ≠ [] ∧ l ≠ [46] ∧ l ≠ [46, 46] ∧ ∀ x ∈ l, x ≠ 47
def pathP (ws : List (List UInt8)) : List UInt8 := ws.flatMap (47 :: ·)
theorem pathP_snoc (ws : List (List UInt8)) (w : List UInt8) : pathP (ws ++ [w]) = pathP ws ++ [47] ++ w := by simp [pathP]
theorem okSeg_of {l : List UInt8} (h : Seg l) : okSeg (mkS l) = true := by
  obtain ⟨h1, h2, h3, _⟩ := h
  simp [okSeg, Lib.toList_data, data_mkS, h1, h2, h3]
theorem split_path (w : List UInt8) (ws : List (List UInt8)) (hw : ∀ x ∈ w, x ≠ 47) (h : ∀ v ∈ ws, ∀ x ∈ v, x ≠ (47 : UInt8)) : splitB 47 (w ++ pathP ws) = w :: ws := by
  induction ws generalizing w with
  | nil => simpa [pathP] using splitB_none hw
  | cons v ws ih =>
    rw [show pathP (v :: ws) = 47 :: (v ++ pathP ws) from by simp [pathP], splitB_at _ _ hw, ih v (h v (by simp)) fun y hy => h y (by simp [hy])]
/-- The path's last byte is no stroke. -/
theorem path_last (w : List UInt8) (ws : List (List UInt8)) (hw : Seg w) (h : ∀ v ∈ ws, Seg v) : ∃ a c, w ++ pathP ws = a ++ [c] ∧ c ≠ 47 := by
  have key : ∀ v : List UInt8, Seg v → ∃ a c, v = a ++ [c] ∧ c ≠ 47 := by
    intro v hv
    obtain ⟨a, c, rfl⟩ : ∃ a c, v = a ++ [c] := ⟨v.dropLast, v.getLast hv.1, (List.dropLast_concat_getLast hv.1).symm⟩
    exact ⟨a, c, rfl, hv.2.2.2 c (by simp)⟩
  obtain ⟨vs, hvs⟩ : ∃ vs, ws.reverse = vs := ⟨_, rfl⟩
  have hw' : ws = vs.reverse := by rw [← hvs, List.reverse_reverse]
  subst hw'
  cases vs with
  | nil =>
    obtain ⟨a, c, h1, h2⟩ := key w hw
    exact ⟨a, c, by rw [← h1]; simp [pathP], h2⟩
  | cons v vs =>
    obtain ⟨a, c, h1, h2⟩ := key v (h v (by simp))
    refine ⟨w ++ pathP vs.reverse ++ [47] ++ a, c, ?_, h2⟩
    rw [List.reverse_cons, pathP_snoc, h1]; simp
theorem suffix_no {l : List UInt8} (h : ∃ a c, l = a ++ [c] ∧ c ≠ (47 : UInt8)) : Lib.trimSuffix l [47] = l := by
  obtain ⟨a, c, rfl, hc⟩ := h
  unfold Lib.trimSuffix
  rw [if_neg]
  intro hs
  rw [Lib.hasSuffix, List.isSuffixOf_iff_suffix] at hs
  obtain ⟨t, ht⟩ := hs
  have := (List.append_inj' ht (by simp)).2
  cases this
  exact hc rfl
theorem suffix_yes (l : List UInt8) : Lib.trimSuffix (l ++ [47]) [47] = l := by
  unfold Lib.trimSuffix
  rw [if_pos]
  · simp
  · rw [Lib.hasSuffix, List.isSuffixOf_iff_suffix]; exact ⟨l, rfl⟩
theorem prefix_yes (l : List UInt8) : Lib.hasPrefix (47 :: l) [47] = true ∧ Lib.trimPrefix (47 :: l) [47] = l := by
  have h : Lib.hasPrefix (47 :: l) [47] = true := by simp [Lib.hasPrefix]
  exact ⟨h, by rw [Lib.trimPrefix, if_pos h]; rfl⟩
theorem path_name (w : List UInt8) (ws : List (List UInt8)) (hw : Seg w) (h : ∀ v ∈ ws, Seg v) :
    ofPathL (pathP (w :: ws)) = (escL (w ++ pathP ws), 0) ∧ ofPathL (pathP (w :: ws) ++ [47]) = (escL (w ++ pathP ws), 0) ∧ ofPathL (120 :: pathP (w :: ws)) = ([], 41) := by
  have hl := path_last w ws hw h
  have hs := split_path w ws hw.2.2.2 fun v hv => (h v hv).2.2.2
  have hne : w ++ pathP ws ≠ [] := by
    intro e
    exact hw.1 (List.append_eq_nil_iff.1 e).1
  have hall : (splitS 47 (mkS (w ++ pathP ws))).all okSeg = true := by
    rw [splitS, data_mkS, hs, List.all_map, List.all_eq_true]
    intro v hv
    rcases List.mem_cons.1 hv with rfl | hv
    · exact okSeg_of hw
    · exact okSeg_of (h v hv)
  have e : pathP (w :: ws) = 47 :: (w ++ pathP ws) := by simp [pathP]
  refine ⟨?_, ?_, ?_⟩
  · rw [e, ofPathL, (prefix_yes _).1, (prefix_yes _).2, if_neg (by simp), if_neg (by simpa using hne), suffix_no hl, if_pos hall]
  · rw [e, List.cons_append, ofPathL, (prefix_yes _).1, (prefix_yes _).2, if_neg (by simp), if_neg (by simp), suffix_yes, if_pos hall]
  · rw [ofPathL, if_pos]
    simp [Lib.hasPrefix, List.isPrefixOf]
end Go.Proofs.YtgppdndpnflkeaaDoor
