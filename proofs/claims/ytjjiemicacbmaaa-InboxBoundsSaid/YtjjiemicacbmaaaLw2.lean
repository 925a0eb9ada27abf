/- Plain law of ranges: what Add does. -/
import Derived.Test.YtjjiemicacbmaaaLw1
namespace Go.Proofs.Ytjjiemicacbmaaa
open Go.RowKit Go.Shelf

theorem getD_in (l : List (Int × Int)) (k : Nat) (h : k < l.length) : l.getD k (0, 0) = l[k] := by simp [h]
/-- In rows that rise, places rise. -/
theorem WF.rise {l : List (Int × Int)} (h : WF l) {i j : Nat} (hi : i < l.length) (hj : j < l.length) (hij : i < j) : l[i].2 < l[j].1 := List.pairwise_iff_getElem.1 h.1 i j hi hj hij
theorem WF.at' {l : List (Int × Int)} (h : WF l) {i : Nat} (hi : i < l.length) : 0 ≤ l[i].1 ∧ l[i].1 < l[i].2 ∧ l[i].2 ≤ 4611686018427387904 := h.2 _ (List.getElem_mem hi)
theorem lo_before {l : List (Int × Int)} (h : WF l) (f : Int) : ∀ x ∈ l.take (tLo l f), x.2 < f := by
  intro x hx
  obtain ⟨k, hk, rfl⟩ := List.mem_take_iff_getElem.1 hx
  have hl := tLo_le l f
  have hs := (bs_spec (pLo l f) l.length).2.2 (show 0 < tLo l f by omega)
  change pLo l f (tLo l f - 1) = false at hs
  simp only [pLo, decide_eq_false_iff_not, getD_in l (tLo l f - 1) (by omega)] at hs
  by_cases he : k = tLo l f - 1
  · subst he; omega
  · have h1 := h.rise (i := k) (j := tLo l f - 1) (by omega) (by omega) (by omega)
    have := h.at' (i := tLo l f - 1) (by omega)
    omega
theorem lo_from {l : List (Int × Int)} (h : WF l) (f : Int) : ∀ x ∈ l.drop (tLo l f), f ≤ x.2 := by
  intro x hx
  obtain ⟨k, hk, rfl⟩ := List.mem_drop_iff_getElem.1 hx
  have hs := (bs_spec (pLo l f) l.length).2.1 (show tLo l f < l.length by omega)
  change pLo l f (tLo l f) = true at hs
  simp only [pLo, decide_eq_true_eq, getD_in l (tLo l f) (by omega)] at hs
  by_cases he : k = 0
  · subst he; simpa using hs
  · have h1 := h.rise (i := tLo l f) (j := tLo l f + k) (by omega) (by omega) (by omega)
    have := h.at' (i := tLo l f + k) (by omega)
    omega
theorem hi_from {l : List (Int × Int)} (h : WF l) (f t : Int) : ∀ x ∈ l.drop (tHi l f t), t < x.1 := by
  intro x hx
  obtain ⟨k, hk, rfl⟩ := List.mem_drop_iff_getElem.1 hx
  have h0 : bs (pHi l t) l.length ≤ tHi l f t := Nat.le_max_right _ _
  have hs := (bs_spec (pHi l t) l.length).2.1 (by omega)
  simp only [pHi, decide_eq_true_eq, getD_in l (bs (pHi l t) l.length) (by omega)] at hs
  by_cases he : tHi l f t + k = bs (pHi l t) l.length
  · simp only [he]; exact hs
  · have h1 := h.rise (i := bs (pHi l t) l.length) (j := tHi l f t + k) (by omega) (by omega) (by omega)
    have := h.at' (i := bs (pHi l t) l.length) (by omega)
    omega
theorem hi_before {l : List (Int × Int)} (h : WF l) (f t : Int) (hft : f < t) : ∀ x ∈ l.take (tHi l f t), x.1 ≤ t := by
  intro x hx
  obtain ⟨k, hk, rfl⟩ := List.mem_take_iff_getElem.1 hx
  by_cases h0 : k < bs (pHi l t) l.length
  · have hb := (bs_spec (pHi l t) l.length).1
    have hs := (bs_spec (pHi l t) l.length).2.2 (by omega)
    simp only [pHi, decide_eq_false_iff_not, getD_in l (bs (pHi l t) l.length - 1) (by omega)] at hs
    by_cases he : k = bs (pHi l t) l.length - 1
    · subst he; omega
    · have h1 := h.rise (i := k) (j := bs (pHi l t) l.length - 1) (by omega) (by omega) (by omega)
      have := h.at' (i := k) (by omega)
      omega
  · have h1 : k < tLo l f := by have : k < tHi l f t := by omega
                                unfold tHi at this; omega
    have h2 := lo_before h f (l[k]) (List.mem_take_iff_getElem.2 ⟨k, by omega, rfl⟩)
    have := h.at' (i := k) (by omega)
    omega

/-- Rows and the piece of them that a call touches. -/
theorem split3 (l : List (Int × Int)) (i j : Nat) (h : i ≤ j) : l = l.take i ++ (l.take j).drop i ++ l.drop j := by
  have h1 : l.take i ++ (l.take j).drop i = l.take j := by
    have := List.take_append_drop i (l.take j)
    rw [List.take_take, Nat.min_eq_left h] at this
    exact this
  rw [h1, List.take_append_drop]

/-- A row laid between rows. -/
theorem wf_mid {A C : List (Int × Int)} {f t : Int} (hA : WF A) (hC : WF C) (h1 : ∀ x ∈ A, x.2 < f) (h2 : ∀ x ∈ C, t < x.1) (h3 : f < t) (h4 : 0 ≤ f) (h5 : t ≤ 4611686018427387904) : WF (A ++ [(f, t)] ++ C) := by
  constructor
  · rw [List.append_assoc, List.pairwise_append]
    refine ⟨hA.1, ?_, ?_⟩
    · rw [List.singleton_append, List.pairwise_cons]; exact ⟨h2, hC.1⟩
    · intro a ha b hb
      have := h1 a ha
      rcases List.mem_append.1 hb with hb | hb
      · simp at hb; subst hb; exact this
      · have := h2 b hb; omega
  · intro x hx
    simp only [List.mem_append, List.mem_singleton] at hx
    rcases hx with (hx | rfl) | hx
    · exact hA.2 x hx
    · exact ⟨h4, h3, h5⟩
    · exact hC.2 x hx

theorem addE_law {l : List (Int × Int)} (h : WF l) (f t : Int) (hft : f < t) (h0 : 0 ≤ f) (h9 : t ≤ 4611686018427387904) :
    WF (addE l f t (tLo l f) (tHi l f t)).2 ∧ (∀ n, InS (addE l f t (tLo l f) (tHi l f t)).2 n ↔ InS l n ∨ (f ≤ n ∧ n < t)) ∧ (addE l f t (tLo l f) (tHi l f t)).1 = tot (addE l f t (tLo l f) (tHi l f t)).2 - tot l ∧
      (addE l f t (tLo l f) (tHi l f t)).2.length ≤ l.length + 1 := by
  have hA1 := lo_before h f
  have hB1 := lo_from h f
  have hC2 := hi_from h f t
  have hB2 := hi_before h f t hft
  have hle := tLo_tHi l f t
  have hhl := tHi_le l f t
  generalize tLo l f = i at hA1 hB1 hle ⊢
  generalize tHi l f t = j at hC2 hB2 hle hhl ⊢
  have hsp := split3 l i j hle
  have hA := h.sub (List.take_sublist i l)
  have hC := h.sub (List.drop_sublist j l)
  have hM := h.sub ((List.drop_sublist i _).trans (List.take_sublist j l))
  have htot : tot l = tot (l.take i) + tot ((l.take j).drop i) + tot (l.drop j) := by rw [← tot_append, ← tot_append, ← hsp]
  have hin : ∀ n, InS l n ↔ InS (l.take i) n ∨ InS ((l.take j).drop i) n ∨ InS (l.drop j) n := by
    intro n; rw [hsp, inS_app, inS_app]; simp only [← hsp, or_assoc]
  have hmid : ∀ x ∈ (l.take j).drop i, f ≤ x.2 ∧ x.1 ≤ t := by
    intro x hx
    refine ⟨hB1 x ?_, hB2 x (List.mem_of_mem_drop hx)⟩
    rw [List.drop_take] at hx
    exact List.mem_of_mem_take hx
  have tb := h.tot
  have hbM := hM.tot
  obtain ⟨f1, t1, e1, e2, hf, ht, hfb, hAf, htC, hset⟩ : ∃ f1 t1, (if i < j then min f (l.getD i (0, 0)).1 else f) = f1 ∧ (if i < j then max t (l.getD (j - 1) (0, 0)).2 else t) = t1 ∧ f1 ≤ f ∧ t ≤ t1 ∧ 0 ≤ f1 ∧ (∀ x ∈ l.take i, x.2 < f1) ∧ (t1 ≤ 4611686018427387904 ∧ ∀ x ∈ l.drop j, t1 < x.1) ∧
      ∀ n, (f1 ≤ n ∧ n < t1) ↔ InS ((l.take j).drop i) n ∨ (f ≤ n ∧ n < t) := by
    by_cases hij : i < j
    · rw [if_pos hij, if_pos hij, getD_in l i (by omega), getD_in l (j - 1) (by omega)]
      have pi := h.at' (i := i) (by omega)
      have pj := h.at' (i := j - 1) (by omega)
      have mi : l[i] ∈ (l.take j).drop i := List.mem_drop_iff_getElem.2 ⟨0, by simp; omega, by simp⟩
      have mj : l[j - 1] ∈ (l.take j).drop i := List.mem_drop_iff_getElem.2 ⟨j - 1 - i, by simp; omega, by simp [show i + (j - 1 - i) = j - 1 by omega]⟩
      have hmi := hmid _ mi
      have hmj := hmid _ mj
      refine ⟨_, _, rfl, rfl, by omega, by omega, by omega, fun x hx => ?_, ⟨by omega, fun x hx => ?_⟩, fun n => ⟨fun hn => ?_, fun hn => ?_⟩⟩
      · have a1 := hA1 x hx
        obtain ⟨k, hk, rfl⟩ := List.mem_take_iff_getElem.1 hx
        have := h.rise (i := k) (j := i) (by omega) (by omega) (by omega)
        omega
      · have a1 := hC2 x hx
        obtain ⟨k, hk, rfl⟩ := List.mem_drop_iff_getElem.1 hx
        have := h.rise (i := j - 1) (j := j + k) (by omega) (by omega) (by omega)
        omega
      · by_cases c1 : f ≤ n ∧ n < t
        · exact .inr c1
        · refine .inl ?_
          by_cases c2 : n < f
          · exact ⟨_, mi, by omega, by omega⟩
          · exact ⟨_, mj, by omega, by omega⟩
      · rcases hn with ⟨x, hx, h1, h2⟩ | hn
        · rw [List.drop_take] at hx
          obtain ⟨k, hk, rfl⟩ := List.mem_take_iff_getElem.1 hx
          simp only [List.length_drop] at hk
          have q1 : l[i].1 ≤ (l.drop i)[k].1 := by
            rw [List.getElem_drop]
            by_cases e : k = 0
            · subst e; exact Int.le_refl _
            · have := h.rise (i := i) (j := i + k) (by omega) (by omega) (by omega)
              omega
          have q2 : (l.drop i)[k].2 ≤ l[j - 1].2 := by
            rw [List.getElem_drop]
            by_cases e : i + k = j - 1
            · simp only [e]; exact Int.le_refl _
            · have := h.rise (i := i + k) (j := j - 1) (by omega) (by omega) (by omega)
              omega
          omega
        · omega
    · obtain rfl : i = j := by omega
      rw [if_neg hij, if_neg hij]
      refine ⟨_, _, rfl, rfl, Int.le_refl _, Int.le_refl _, h0, hA1, ⟨h9, hC2⟩, fun n => ?_⟩
      have : (l.take i).drop i = [] := by simp
      rw [this]
      exact ⟨.inr, fun h => h.resolve_left InS.nil⟩
  have hW := wf_mid hA hC hAf htC.2 (by omega) hfb htC.1
  have hWt := hW.tot
  unfold addE
  simp only [e1, e2]
  refine ⟨hW, fun n => ?_, ?_, ?_⟩
  · rw [inS_app, inS_app, inS_cons, hset, hin]
    constructor
    · rintro ((h | ((h | h) | h)) | h)
      · exact .inl (.inl h)
      · exact .inl (.inr (.inl h))
      · exact .inr h
      · exact absurd h InS.nil
      · exact .inl (.inr (.inr h))
    · rintro ((h | h | h) | h)
      · exact .inl (.inl h)
      · exact .inl (.inr (.inl (.inl h)))
      · exact .inr h
      · exact .inl (.inr (.inl (.inr h)))
  · rw [hM.many, wrap64_in (t1 - f1) (by omega), wrap64_in _ (by omega), tot_append, tot_append, htot]
    simp only [tot]; omega
  · simp; omega

theorem add_law {l : List (Int × Int)} (h : WF l) (f t : Int) :
    WF (addL l f t).2 ∧ (∀ n, InS (addL l f t).2 n ↔ InS l n ∨ (max f 0 ≤ n ∧ n < min t 4611686018427387904)) ∧ (addL l f t).1 = tot (addL l f t).2 - tot l ∧ (addL l f t).2.length ≤ l.length + 1 := by
  unfold addL
  split
  · refine ⟨h, fun n => ⟨.inl, fun h => h.resolve_right (by omega)⟩, by simp, by simp⟩
  · exact addE_law h (max f 0) (min t 4611686018427387904) (by omega) (by omega) (by omega)
end Go.Proofs.Ytjjiemicacbmaaa
