/- Plain law of ranges: what Cut does, and what the questions tell. -/
import Derived.Test.YtjjiemicacbmaaaLw2
namespace Go.Proofs.Ytjjiemicacbmaaa
open Go.RowKit Go.Shelf

theorem mem_rest2 {f t : Int} {x p : Int × Int} : p ∈ rest2 f t x ↔ (p = (x.1, min x.2 f) ∨ p = (max x.1 t, x.2)) ∧ p.1 < p.2 := by
  simp [rest2, pieceB, List.mem_filter]
theorem mem_rests {f t : Int} {l : List (Int × Int)} {p : Int × Int} : p ∈ rests f t l ↔ ∃ x ∈ l, p ∈ rest2 f t x := by simp [rests, List.mem_flatMap]
theorem rest2_in {f t : Int} (hft : f < t) (x : Int × Int) (n : Int) : InS (rest2 f t x) n ↔ (x.1 ≤ n ∧ n < x.2) ∧ ¬ (f ≤ n ∧ n < t) := by
  constructor
  · rintro ⟨p, hp, h1, h2⟩
    obtain ⟨rfl | rfl, h3⟩ := mem_rest2.1 hp <;> simp only at h1 h2 h3 <;> omega
  · rintro ⟨⟨h1, h2⟩, h3⟩
    by_cases h4 : n < f
    · exact ⟨(x.1, min x.2 f), mem_rest2.2 ⟨.inl rfl, by simp only; omega⟩, by simp only; omega, by simp only; omega⟩
    · exact ⟨(max x.1 t, x.2), mem_rest2.2 ⟨.inr rfl, by simp only; omega⟩, by simp only; omega, by simp only; omega⟩
theorem rests_cons (f t : Int) (x : Int × Int) (l : List (Int × Int)) : rests f t (x :: l) = rest2 f t x ++ rests f t l := rfl
theorem rests_app (f t : Int) (l m : List (Int × Int)) : rests f t (l ++ m) = rests f t l ++ rests f t m := by simp [rests]
theorem rests_in {f t : Int} (hft : f < t) (l : List (Int × Int)) (n : Int) : InS (rests f t l) n ↔ InS l n ∧ ¬ (f ≤ n ∧ n < t) := by
  induction l with
  | nil => exact ⟨fun h => absurd h InS.nil, fun h => absurd h.1 InS.nil⟩
  | cons x l ih =>
    rw [rests_cons, inS_app, rest2_in hft, ih, inS_cons]
    constructor
    · rintro (h | h)
      · exact ⟨.inl h.1, h.2⟩
      · exact ⟨.inr h.1, h.2⟩
    · rintro ⟨h | h, h2⟩
      · exact .inl ⟨h, h2⟩
      · exact .inr ⟨h, h2⟩
theorem rest2_pair {f t : Int} (hft : f < t) (x : Int × Int) : (rest2 f t x).Pairwise (fun x y => x.2 < y.1) := by
  unfold rest2
  refine List.Pairwise.filter _ ?_
  simp only [List.pairwise_cons, List.mem_singleton, forall_eq, List.not_mem_nil, false_implies, implies_true, List.Pairwise.nil, and_true]
  omega
theorem rest2_sub {f t : Int} {x p : Int × Int} (h : p ∈ rest2 f t x) : x.1 ≤ p.1 ∧ p.1 < p.2 ∧ p.2 ≤ x.2 := by
  obtain ⟨rfl | rfl, h3⟩ := mem_rest2.1 h <;> simp only at h3 ⊢ <;> omega
theorem WF.rests {l : List (Int × Int)} (h : WF l) {f t : Int} (hft : f < t) : WF (rests f t l) := by
  induction l with
  | nil => exact WF.nil
  | cons x l ih =>
    obtain ⟨h1, h2, h3, h4, h5⟩ := h.tail
    have hl := ih h1
    rw [rests_cons]
    refine ⟨List.pairwise_append.2 ⟨rest2_pair hft x, hl.1, fun p hp q hq => ?_⟩, fun p hp => ?_⟩
    · obtain ⟨y, hy, hq⟩ := mem_rests.1 hq
      have a1 := rest2_sub hp
      have a2 := rest2_sub hq
      have a3 := h2 y hy
      omega
    · rcases List.mem_append.1 hp with hp | hp
      · have := rest2_sub hp; omega
      · exact hl.2 p hp
theorem rest2_len1 {f t : Int} (hft : f < t) (x : Int × Int) (h : x.2 ≤ t ∨ f ≤ x.1) : (rest2 f t x).length ≤ 1 := by
  unfold rest2
  simp only [List.filter_cons, pieceB, List.filter_nil, decide_eq_true_eq]
  split <;> split <;> simp <;> omega
theorem rest2_left {f t : Int} (x : Int × Int) (h : x.2 < f) (hft : f < t) (h1 : x.1 < x.2) : rest2 f t x = [x] := by
  have e1 : min x.2 f = x.2 := by omega
  have e2 : ¬ max x.1 t < x.2 := by omega
  simp [rest2, pieceB, e1, h1, List.filter_cons]
  omega
theorem rest2_right {f t : Int} (x : Int × Int) (h : t < x.1) (hft : f < t) (h1 : x.1 < x.2) : rest2 f t x = [x] := by
  have e1 : max x.1 t = x.1 := by omega
  simp [rest2, pieceB, e1, h1, List.filter_cons]
  omega
theorem rests_same {f t : Int} (l : List (Int × Int)) (h : ∀ x ∈ l, rest2 f t x = [x]) : rests f t l = l := by
  induction l with
  | nil => rfl
  | cons x l ih => rw [rests_cons, h x (List.mem_cons_self ..), ih fun y hy => h y (List.mem_cons_of_mem _ hy)]; rfl
theorem rests_len' {l : List (Int × Int)} (h : WF l) {f t : Int} (hft : f < t) : (rests f t l).length ≤ l.length + 1 := by
  induction l with
  | nil => simp [Proofs.Ytjjiemicacbmaaa.rests]
  | cons x l ih =>
    obtain ⟨h1, h2, h3, h4, h5⟩ := h.tail
    rw [rests_cons, List.length_append, List.length_cons]
    by_cases hx : x.2 ≤ t
    · have := rest2_len1 hft x (.inl hx); have := ih h1; omega
    · rw [rests_same l fun y hy => rest2_right y (by have := h2 y hy; omega) hft (h1.2 y hy).2.1]
      have := rest2_len f t x
      omega

theorem cutE_law {l : List (Int × Int)} (h : WF l) (f t : Int) (hft : f < t) : (cutE l f t (tLo l f) (tHi l f t)).2 = rests f t l ∧ (cutE l f t (tLo l f) (tHi l f t)).1 = tot l - tot (rests f t l) := by
  have hA1 := lo_before h f
  have hC2 := hi_from h f t
  have hle := tLo_tHi l f t
  generalize tLo l f = i at hA1 hle ⊢
  generalize tHi l f t = j at hC2 hle ⊢
  have hsp := split3 l i j hle
  have hA := h.sub (List.take_sublist i l)
  have hC := h.sub (List.drop_sublist j l)
  have hM := h.sub ((List.drop_sublist i _).trans (List.take_sublist j l))
  have hMr := hM.rests hft
  have e1 : rests f t (l.take i) = l.take i := rests_same _ fun y hy => rest2_left y (hA1 y hy) hft (hA.2 y hy).2.1
  have e2 : rests f t (l.drop j) = l.drop j := rests_same _ fun y hy => rest2_right y (hC2 y hy) hft (hC.2 y hy).2.1
  have e3 : rests f t l = l.take i ++ rests f t ((l.take j).drop i) ++ l.drop j := by
    have := congrArg (rests f t) hsp
    rw [rests_app, rests_app, e1, e2] at this
    exact this
  have htot : tot l = tot (l.take i) + tot ((l.take j).drop i) + tot (l.drop j) := by rw [← tot_append, ← tot_append, ← hsp]
  have b1 := hM.tot
  have b2 := hMr.tot
  refine ⟨e3.symm, ?_⟩
  unfold cutE
  simp only
  rw [hM.many, hMr.many, wrap64_in _ (by omega), e3, tot_append, tot_append, htot]
  omega

theorem cut_law {l : List (Int × Int)} (h : WF l) (f t : Int) :
    WF (cutL l f t).2 ∧ (∀ n, InS (cutL l f t).2 n ↔ InS l n ∧ ¬ (max f 0 ≤ n ∧ n < min t 4611686018427387904)) ∧ (cutL l f t).1 = tot l - tot (cutL l f t).2 ∧ (cutL l f t).2.length ≤ l.length + 1 ∧
      (cutL l f t).2 = if min t 4611686018427387904 ≤ max f 0 then l else rests (max f 0) (min t 4611686018427387904) l := by
  unfold cutL
  by_cases hc : min t 4611686018427387904 ≤ max f 0
  · rw [if_pos hc, if_pos hc]
    exact ⟨h, fun n => ⟨fun h => ⟨h, by omega⟩, fun h => h.1⟩, by simp, by simp, rfl⟩
  · rw [if_neg hc, if_neg hc]
    have hft : max f 0 < min t 4611686018427387904 := by omega
    obtain ⟨e1, e2⟩ := cutE_law h _ _ hft
    rw [e2, e1]
    exact ⟨h.rests hft, rests_in hft l, rfl, rests_len' h hft, rfl⟩

/-- The row that has a number. -/
theorem at_law {l : List (Int × Int)} (h : WF l) (n : Int) : ((atL l n).2 = true → (atL l n).1 ∈ l ∧ (atL l n).1.1 ≤ n ∧ n < (atL l n).1.2) ∧ ((atL l n).2 = false → ¬ InS l n) := by
  obtain ⟨s1, s2, s3⟩ := bs_spec (pAt l n) l.length
  unfold atL atR
  generalize bs (pAt l n) l.length = k at s1 s2 s3 ⊢
  have hno : ∀ m, m < l.length → (hm : m < l.length) → (k ≤ m → n < l[m].1) → ¬ (l[m].1 ≤ n ∧ n < l[m].2) := by
    intro m hm _ h1 h2
    by_cases hk : k ≤ m
    · have := h1 hk; omega
    · have h3 := s3 (by omega)
      simp only [pAt, decide_eq_false_iff_not, getD_in l (k - 1) (by omega)] at h3
      by_cases he : m = k - 1
      · subst he; omega
      · have h4 := h.rise (i := m) (j := k - 1) (by omega) (by omega) (by omega)
        have := h.at' (i := k - 1) (by omega)
        omega
  by_cases hk : k < l.length
  · rw [if_pos hk]
    have h2 := s2 hk
    simp only [pAt, decide_eq_true_eq, getD_in l k hk] at h2
    rw [getD_in l k hk]
    by_cases hf : l[k].1 ≤ n
    · rw [if_pos hf]
      exact ⟨fun _ => ⟨List.getElem_mem hk, hf, h2⟩, fun h => by simp at h⟩
    · rw [if_neg hf]
      refine ⟨fun h => by simp at h, fun _ => ?_⟩
      rintro ⟨x, hx, e1, e2⟩
      obtain ⟨m, hm, rfl⟩ := List.mem_iff_getElem.1 hx
      refine hno m hm hm (fun hkm => ?_) ⟨e1, e2⟩
      by_cases he : m = k
      · subst he; omega
      · have h4 := h.rise (i := k) (j := m) (by omega) (by omega) (by omega)
        have := h.at' hk
        omega
  · rw [if_neg hk]
    refine ⟨fun h => by simp at h, fun _ => ?_⟩
    rintro ⟨x, hx, e1, e2⟩
    obtain ⟨m, hm, rfl⟩ := List.mem_iff_getElem.1 hx
    exact hno m hm hm (fun hkm => by omega) ⟨e1, e2⟩
theorem has_law {l : List (Int × Int)} (h : WF l) (n : Int) : hasL l n = true ↔ InS l n := by
  obtain ⟨h1, h2⟩ := at_law h n
  unfold hasL
  cases e : (atL l n).2
  · simp; exact h2 e
  · simp; exact ⟨_, (h1 e).1, (h1 e).2⟩
/-- Next is the first number, from n on, that is not there; and all before it are. -/
theorem next_law {l : List (Int × Int)} (h : WF l) (n : Int) : max n 0 ≤ nextL l n ∧ ¬ InS l (nextL l n) ∧ (∀ m, max n 0 ≤ m → m < nextL l n → InS l m) ∧ (nextL l n = max n 0 ∨ nextL l n ≤ 4611686018427387904) := by
  obtain ⟨h1, h2⟩ := at_law h (max n 0)
  unfold nextL
  cases e : (atL l (max n 0)).2
  · simp only [Bool.false_eq_true, if_false]
    exact ⟨Int.le_refl _, h2 e, fun m _ _ => by omega, .inl trivial⟩
  · simp only [if_true]
    obtain ⟨a1, a2, a3⟩ := h1 e
    refine ⟨by omega, ?_, fun m b1 b2 => ⟨_, a1, by omega, b2⟩, .inr (h.2 _ a1).2.2⟩
    rintro ⟨x, hx, e1, e2⟩
    obtain ⟨p, hp, hpe⟩ := List.mem_iff_getElem.1 a1
    obtain ⟨m, hm, rfl⟩ := List.mem_iff_getElem.1 hx
    rw [← hpe] at e1 e2
    rcases Nat.lt_trichotomy m p with c | c | c
    · have h4 := h.rise hm hp c
      have := h.at' hp
      omega
    · subst c; omega
    · have h4 := h.rise hp hm c
      omega
/-- Gap is the first gap from from to to. -/
theorem gap_law {l : List (Int × Int)} (h : WF l) (f t : Int) :
    ((gapL l f t).2 = true → max f 0 ≤ (gapL l f t).1.1 ∧ (gapL l f t).1.1 < (gapL l f t).1.2 ∧ (gapL l f t).1.2 ≤ min t 4611686018427387904 ∧ (∀ m, max f 0 ≤ m → m < (gapL l f t).1.1 → InS l m) ∧
      (∀ m, (gapL l f t).1.1 ≤ m → m < (gapL l f t).1.2 → ¬ InS l m) ∧ ((gapL l f t).1.2 = min t 4611686018427387904 ∨ InS l (gapL l f t).1.2)) ∧
    ((gapL l f t).2 = false → (gapL l f t).1 = (0, 0) ∧ ∀ m, max f 0 ≤ m → m < min t 4611686018427387904 → InS l m) := by
  obtain ⟨n1, n2, n3, n4⟩ := next_law h (max f 0)
  unfold gapL gapE
  generalize nextL l (max f 0) = a at n1 n2 n3 n4 ⊢
  generalize min t 4611686018427387904 = t0
  obtain ⟨s1, s2, s3⟩ := bs_spec (pHi l a) l.length
  generalize bs (pHi l a) l.length = k at s1 s2 s3 ⊢
  by_cases hc : t0 ≤ a
  · rw [if_pos hc]
    exact ⟨fun h => by simp at h, fun _ => ⟨rfl, fun m h1 h2 => n3 m (by omega) (by omega)⟩⟩
  · rw [if_neg hc]
    refine ⟨fun _ => ?_, fun h => by simp at h⟩
    have hbef : ∀ m, (hm : m < l.length) → m < k → l[m].2 ≤ a := by
      intro m hm hmk
      have h3 := s3 (by omega)
      simp only [pHi, decide_eq_false_iff_not, getD_in l (k - 1) (by omega)] at h3
      have h5 : l[m].1 ≤ a := by
        by_cases he : m = k - 1
        · subst he; omega
        · have h4 := h.rise (i := m) (j := k - 1) (by omega) (by omega) (by omega)
          have := h.at' hm
          omega
      by_cases h6 : l[m].2 ≤ a
      · exact h6
      · exact absurd ⟨_, List.getElem_mem hm, h5, by omega⟩ n2
    by_cases hk : k < l.length
    · rw [if_pos hk, getD_in l k hk]
      have h2 := s2 hk
      simp only [pHi, decide_eq_true_eq, getD_in l k hk] at h2
      have hatk := h.at' hk
      refine ⟨by simp only; omega, by simp only; omega, by simp only; omega, fun m h1 h2 => n3 m (by omega) h2, fun m b1 b2 => ?_, ?_⟩
      · simp only at b1 b2
        rintro ⟨x, hx, e1, e2⟩
        obtain ⟨q, hq, rfl⟩ := List.mem_iff_getElem.1 hx
        by_cases hqk : q < k
        · have := hbef q hq hqk; omega
        · by_cases he : q = k
          · subst he; omega
          · have h4 := h.rise hk hq (by omega)
            omega
      · simp only
        by_cases h7 : t0 ≤ l[k].1
        · left; omega
        · right
          rw [show min t0 l[k].1 = l[k].1 by omega]
          exact ⟨_, List.getElem_mem hk, Int.le_refl _, hatk.2.1⟩
    · rw [if_neg hk]
      refine ⟨by simp only; omega, by simp only; omega, by simp only; omega, fun m h1 h2 => n3 m (by omega) h2, fun m b1 b2 => ?_, .inl rfl⟩
      rintro ⟨x, hx, e1, e2⟩
      obtain ⟨q, hq, rfl⟩ := List.mem_iff_getElem.1 hx
      have := hbef q hq (by omega)
      simp only at b1
      omega
end Go.Proofs.Ytjjiemicacbmaaa
