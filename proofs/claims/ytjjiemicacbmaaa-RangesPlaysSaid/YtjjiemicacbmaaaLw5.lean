/- Plain law of the document's Add: a row is laid among rows that avoid it, and neighbours that touch are joined. -/
import Derived.Test.YtjjiemicacbmaaaRq5
namespace Go.Proofs.Ytjjiemicacbmaaa
open Go.RowKit Go.Shelf

/-- Rows that rise and may touch. -/
def WK (l : List (Int × Int)) : Prop := l.Pairwise (fun x y => x.2 ≤ y.1) ∧ ∀ x ∈ l, 0 ≤ x.1 ∧ x.1 < x.2 ∧ x.2 ≤ 4611686018427387904
theorem inS_take {l : List (Int × Int)} {k : Nat} (hk : k < l.length) (n : Int) : InS (l.take (k + 1)) n ↔ InS (l.take k) n ∨ (l[k].1 ≤ n ∧ n < l[k].2) := by
  rw [List.take_succ_eq_append_getElem hk, inS_app, inS_cons]
  exact ⟨fun h => h.elim .inl (fun h => h.elim .inr (fun h => absurd h InS.nil)), fun h => h.elim .inl (fun h => .inr (.inl h))⟩
theorem WK.snoc {l : List (Int × Int)} (h : WK l) {x : Int × Int} (hx : 0 ≤ x.1 ∧ x.1 < x.2 ∧ x.2 ≤ 4611686018427387904) (hl : ∀ y ∈ l, y.2 ≤ x.1) : WK (l ++ [x]) := by
  refine ⟨List.pairwise_append.2 ⟨h.1, List.pairwise_singleton _ _, fun a ha b hb => ?_⟩, fun y hy => ?_⟩
  · simp at hb; subst hb; exact hl a ha
  · rcases List.mem_append.1 hy with hy | hy
    · exact h.2 y hy
    · simp at hy; subst hy; exact hx
theorem WF.snoc {l : List (Int × Int)} (h : WF l) {x : Int × Int} (hx : 0 ≤ x.1 ∧ x.1 < x.2 ∧ x.2 ≤ 4611686018427387904) (hl : ∀ y ∈ l, y.2 < x.1) : WF (l ++ [x]) := by
  refine ⟨List.pairwise_append.2 ⟨h.1, List.pairwise_singleton _ _, fun a ha b hb => ?_⟩, fun y hy => ?_⟩
  · simp at hb; subst hb; exact hl a ha
  · rcases List.mem_append.1 hy with hy | hy
    · exact h.2 y hy
    · simp at hy; subst hy; exact hx

/-- Of the rows R the first k have been taken; the row (f, t) has been laid, or not. -/
structure Ins (f t : Int) (R : List (Int × Int)) (k : Nat) (dn : Bool) (Z : List (Int × Int)) : Prop where
  wk : WK Z
  num : ∀ n, InS Z n ↔ InS (R.take k) n ∨ (dn = true ∧ f ≤ n ∧ n < t)
  ahead : ∀ z ∈ Z, ∀ m, (hm : m < R.length) → k ≤ m → z.2 ≤ R[m].1
  low : dn = false → ∀ z ∈ Z, z.2 ≤ f
  len : Z.length ≤ k + if dn then 1 else 0
theorem Ins.start (f t : Int) (R : List (Int × Int)) : Ins f t R 0 false [] :=
  ⟨⟨.nil, fun _ h => nomatch h⟩, fun n => ⟨fun h => absurd h InS.nil, fun h => h.elim (fun h => absurd h InS.nil) (fun h => nomatch h.1)⟩, fun _ h => (nomatch h), fun _ _ h => (nomatch h), Nat.le_refl _⟩
/-- Rows that avoid the row's numbers lie before it or behind it. -/
theorem avoid {f t : Int} {R : List (Int × Int)} (hR : WF R) (hav : ∀ n, f ≤ n → n < t → ¬ InS R n) (hft : f < t) {k : Nat} (hk : k < R.length) : (R[k].1 ≤ f → R[k].2 ≤ f) ∧ (f < R[k].1 → t ≤ R[k].1) := by
  have h := hR.at' hk
  constructor
  · intro h1
    by_cases h2 : R[k].2 ≤ f
    · exact h2
    · exact absurd ⟨_, List.getElem_mem hk, h1, by omega⟩ (hav f (Int.le_refl _) hft)
  · intro h1
    by_cases h2 : t ≤ R[k].1
    · exact h2
    · exact absurd ⟨_, List.getElem_mem hk, Int.le_refl _, h.2.1⟩ (hav R[k].1 (by omega) (by omega))
theorem Ins.lay {f t : Int} {R Z : List (Int × Int)} {k : Nat} (h : Ins f t R k false Z) (hf : 0 ≤ f) (hft : f < t) (ht : t ≤ 4611686018427387904) (hb : ∀ m, (hm : m < R.length) → k ≤ m → t ≤ R[m].1) : Ins f t R k true (Z ++ [(f, t)]) where
  wk := h.wk.snoc ⟨hf, hft, ht⟩ (h.low rfl)
  num n := by
    rw [inS_app, h.num n, inS_cons]
    constructor
    · rintro ((h | h) | (h | h))
      · exact .inl h
      · exact nomatch h.1
      · exact .inr ⟨rfl, h⟩
      · exact absurd h InS.nil
    · rintro (h | h)
      · exact .inl (.inl h)
      · exact .inr (.inl h.2)
  ahead z hz m hm hkm := by
    rcases List.mem_append.1 hz with hz | hz
    · exact h.ahead z hz m hm hkm
    · simp at hz; subst hz; exact hb m hm hkm
  low h := nomatch h
  len := by have := h.len; simp at this ⊢; omega
theorem Ins.take {f t : Int} {R Z : List (Int × Int)} {k : Nat} {dn : Bool} (h : Ins f t R k dn Z) (hR : WF R) (hk : k < R.length) (hlow : dn = false → R[k].2 ≤ f) : Ins f t R (k + 1) dn (Z ++ [R[k]]) where
  wk := h.wk.snoc (hR.at' hk) (fun z hz => h.ahead z hz k hk (Nat.le_refl _))
  num n := by
    rw [inS_app, h.num n, inS_cons, inS_take hk]
    constructor
    · rintro ((h | h) | (h | h))
      · exact .inl (.inl h)
      · exact .inr h
      · exact .inl (.inr h)
      · exact absurd h InS.nil
    · rintro ((h | h) | h)
      · exact .inl (.inl h)
      · exact .inr (.inl h)
      · exact .inl (.inr h)
  ahead z hz m hm hkm := by
    rcases List.mem_append.1 hz with hz | hz
    · exact h.ahead z hz m hm (by omega)
    · simp at hz; subst hz
      have := hR.rise hk hm (by omega)
      omega
  low hd z hz := by
    rcases List.mem_append.1 hz with hz | hz
    · exact h.low hd z hz
    · simp at hz; subst hz; exact hlow hd
  len := by have := h.len; simp; omega

/-- Of the rows Z the first k have been joined to Y. -/
structure Joins (Z : List (Int × Int)) (k : Nat) (Y : List (Int × Int)) : Prop where
  wf : WF Y
  num : ∀ n, InS Y n ↔ InS (Z.take k) n
  ahead : ∀ y ∈ Y, ∀ m, (hm : m < Z.length) → k ≤ m → y.2 ≤ Z[m].1
  len : Y.length ≤ k
theorem Joins.start (Z : List (Int × Int)) : Joins Z 0 [] := ⟨WF.nil, fun n => Iff.rfl, fun _ h => (nomatch h), Nat.le_refl _⟩
theorem WK.rise {l : List (Int × Int)} (h : WK l) {i j : Nat} (hi : i < l.length) (hj : j < l.length) (hij : i < j) : l[i].2 ≤ l[j].1 := List.pairwise_iff_getElem.1 h.1 i j hi hj hij
theorem Joins.app {Z Y : List (Int × Int)} {k : Nat} (h : Joins Z k Y) (hZ : WK Z) (hk : k < Z.length) (hne : Y.length = 0 ∨ (Y.getD (Y.length - 1) (0, 0)).2 ≠ Z[k].1) : Joins Z (k + 1) (Y ++ [Z[k]]) where
  wf := by
    have hz := hZ.2 _ (List.getElem_mem hk)
    refine h.wf.snoc hz fun y hy => ?_
    obtain ⟨i, hi, rfl⟩ := List.mem_iff_getElem.1 hy
    have hl : Y.length - 1 < Y.length := by omega
    have h1 := h.ahead _ (List.getElem_mem hl) k hk (Nat.le_refl _)
    have h2 := hne.resolve_left (by omega)
    rw [getD_in Y _ hl] at h2
    by_cases e : i = Y.length - 1
    · subst e; omega
    · have h3 := h.wf.rise hi hl (by omega)
      have := h.wf.at' hl
      omega
  num n := by
    rw [inS_app, h.num n, inS_cons, inS_take hk]
    exact ⟨fun h => h.elim .inl (fun h => h.elim .inr (fun h => absurd h InS.nil)), fun h => h.elim .inl (fun h => .inr (.inl h))⟩
  ahead y hy m hm hkm := by
    rcases List.mem_append.1 hy with hy | hy
    · exact h.ahead y hy m hm (by omega)
    · simp at hy; subst hy
      exact hZ.rise hk hm (by omega)
  len := by have := h.len; simp; omega
theorem Joins.join {Z Y : List (Int × Int)} {k : Nat} {x : Int × Int} (h : Joins Z k (Y ++ [x])) (hZ : WK Z) (hk : k < Z.length) (he : x.2 = Z[k].1) : Joins Z (k + 1) (Y ++ [(x.1, Z[k].2)]) where
  wf := by
    have hz := hZ.2 _ (List.getElem_mem hk)
    have hx := h.wf.2 x (by simp)
    obtain ⟨hp1, -, hp2⟩ := List.pairwise_append.1 h.wf.1
    refine WF.snoc ⟨hp1, fun y hy => h.wf.2 y (List.mem_append_left _ hy)⟩ ⟨hx.1, by simp only; omega, by simp only; omega⟩ fun y hy => hp2 y hy x (by simp)
  num n := by
    have hz := hZ.2 _ (List.getElem_mem hk)
    have hx := h.wf.2 x (by simp)
    have hn := h.num n
    rw [inS_app, inS_cons] at hn
    rw [inS_take hk, ← hn, inS_app, inS_cons]
    have : (x.1 ≤ n ∧ n < Z[k].2) ↔ (x.1 ≤ n ∧ n < x.2) ∨ (Z[k].1 ≤ n ∧ n < Z[k].2) := by omega
    simp only [this]
    constructor
    · rintro (h | ((h | h) | h))
      · exact .inl (.inl h)
      · exact .inl (.inr (.inl h))
      · exact .inr h
      · exact .inl (.inr (.inr h))
    · rintro ((h | (h | h)) | h)
      · exact .inl h
      · exact .inr (.inl (.inl h))
      · exact .inr (.inr h)
      · exact .inr (.inl (.inr h))
  ahead y hy m hm hkm := by
    rcases List.mem_append.1 hy with hy | hy
    · exact h.ahead y (List.mem_append_left _ hy) m hm (by omega)
    · simp at hy; subst hy
      exact hZ.rise hk hm (by omega)
  len := by have := h.len; simp at this ⊢; omega
end Go.Proofs.Ytjjiemicacbmaaa
