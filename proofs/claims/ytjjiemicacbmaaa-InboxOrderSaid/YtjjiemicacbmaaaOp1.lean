/- The arguments of the laws: calls as rows of three numbers, and rows of numbers. -/
import Derived.Test.YtjjiemicacbmaaaRg14
import Derived.Deep.Slices
import Derived.ProofKit
namespace Go.Proofs.Ytjjiemicacbmaaa
open Go.ChangeShapes Go.WideShapes Go.ChangeAt Go.RowKit Go.Deep

theorem list_of {α : Type} (p : Nat → α → Prop) : ∀ n : Nat, (∀ i, i < n → ∃ x, p i x) → ∃ L : List α, L.length = n ∧ ∀ i x, L[i]? = some x → p i x := by
  intro n
  induction n with
  | zero => intro _; exact ⟨[], rfl, fun i x h => by simp at h⟩
  | succ n ih =>
    intro h
    obtain ⟨L, h1, h2⟩ := ih fun i hi => h i (by omega)
    obtain ⟨x, hx⟩ := h n (by omega)
    refine ⟨L ++ [x], by simp [h1], fun i y hy => ?_⟩
    by_cases hi : i < L.length
    · rw [List.getElem?_append_left hi] at hy; exact h2 i y hy
    · have : i < (L ++ [x]).length := (List.getElem?_eq_some_iff.1 hy).1
      have : i = L.length := by simp at this; omega
      subst this
      simp at hy
      subst hy
      rw [h1]; exact hx

/-- Calls, as cells. -/
def flat3 (L : List (Int × Int × Int)) : List Value := L.flatMap fun x => [.int .i64 x.1, .int .i64 x.2.1, .int .i64 x.2.2]
theorem flat3_length (L : List (Int × Int × Int)) : (flat3 L).length = L.length * 3 := by
  induction L with
  | nil => rfl
  | cons x l ih => simp only [flat3, List.flatMap_cons, List.length_append, List.length_cons, List.length_nil] at ih ⊢; omega
theorem flat3_get (L : List (Int × Int × Int)) : ∀ k, k < L.length → (flat3 L)[k * 3]? = some (.int .i64 (L.getD k (0, 0, 0)).1) ∧ (flat3 L)[k * 3 + 1]? = some (.int .i64 (L.getD k (0, 0, 0)).2.1) ∧ (flat3 L)[k * 3 + 2]? = some (.int .i64 (L.getD k (0, 0, 0)).2.2) := by
  induction L with
  | nil => intro k hk; simp at hk
  | cons x l ih =>
    intro k hk
    cases k with
    | zero => exact ⟨rfl, rfl, rfl⟩
    | succ k =>
      have h := ih k (by simpa using hk)
      have e1 : (k + 1) * 3 = k * 3 + 3 := by omega
      have e2 : flat3 (x :: l) = [.int .i64 x.1, .int .i64 x.2.1, .int .i64 x.2.2] ++ flat3 l := rfl
      rw [e1, e2]
      refine ⟨?_, ?_, ?_⟩
      · rw [List.getElem?_append_right (by simp)]; simpa using h.1
      · rw [List.getElem?_append_right (by simp)]; simpa using h.2.1
      · rw [List.getElem?_append_right (by simp)]; simpa using h.2.2
/-- A number fits an int. -/
def I64 (n : Int) : Prop := -9223372036854775808 ≤ n ∧ n ≤ 9223372036854775807
theorem i64_of {n : Int} (h : (Lit.int .i64 n).wf = true) : I64 n := by
  have : IntKind.i64.min ≤ n ∧ n ≤ IntKind.i64.max := by simpa [Lit.wf] using h
  exact this

variable {H : Type} {enc : TypeId × Value → H} {P : Program} {w : World} {sp : Nat → Bool} {held : Bool}
/-- A slice of numbers, down to cells. -/
theorem open_nums {r : Reach} {b0 : Nat} {t e : TypeId} {v : Value} {d : DataW H} {p : List MemPlace} (ht : P.underlying t = some (.slice e)) (he : P.underlying e = some (.int .i64)) (hc : P.cellsOf e = 1)
    (hval : Value.okWide P w r b0 t v) (h : DataW.Trod enc P w 0 sp held t v d p) :
    ∃ (a : Option Addr) (c : Nat) (M : List Int), v = .slice a M.length c ∧ Rd (fun _ => True) w a M.length 1 (M.map (Value.int .i64)) ∧ M.length ≤ 9223372036854775807 ∧ ∀ x ∈ M, I64 x := by
  obtain ⟨a, n, c, rfl⟩ := okWide_slice ht hval
  obtain ⟨fuel, hf⟩ := h
  rcases open_ints ht he hc hf with ⟨hcs, -⟩ | ⟨a', len, cap, zs, hcs, -, hl, hm, hz, -, hcell, hwz⟩
  · simp [Value.cells] at hcs
    obtain ⟨rfl, rfl, rfl⟩ := hcs
    exact ⟨none, 0, [], rfl, ⟨rfl, .inl rfl⟩, by decide, fun x hx => nomatch hx⟩
  · simp [Value.cells] at hcs
    obtain ⟨rfl, rfl, rfl⟩ := hcs
    have hml : maxLen = 9223372036854775807 := rfl
    have hlen : n ≤ zs.length := by rw [hz]; split <;> omega
    have htl : (zs.take n).length = n := by simp; omega
    refine ⟨some a', c, zs.take n, by rw [htl], ?_, by omega, fun x hx => i64_of (hwz x (List.mem_of_mem_take hx))⟩
    rw [htl]
    refine ⟨by simp; omega, ?_⟩
    by_cases h0 : n = 0
    · exact .inl h0
    · obtain ⟨b, off, spot⟩ := a'
      have hspot : spot = none := by simpa [Addr.add] using World.cell?_spot (hcell 0 (by omega))
      subst hspot
      refine .inr ⟨b, off, rfl, trivial, fun j u hj => ?_⟩
      rw [List.getElem?_map, List.getElem?_take] at hj
      split at hj
      · rw [← addr_add, hcell j (by omega)]
        have : j < zs.length := by omega
        simpa [this] using hj
      · simp at hj
/-- A slice of rows of three numbers, down to cells. -/
theorem open_rows3 {r : Reach} {b0 : Nat} {t e ti : TypeId} {f0 f1 f2 : Field} {v : Value} {d : DataW H} {p : List MemPlace} (ht : P.underlying t = some (.slice e)) (he : P.underlying e = some (.struct #[f0, f1, f2]))
    (hi : P.underlying ti = some (.int .i64)) (hc : P.cellsOf e = 3) (hci : P.cellsOf ti = 1) (h0 : f0.type = ti ∧ f0.offset = 0) (h1 : f1.type = ti ∧ f1.offset = 1) (h2 : f2.type = ti ∧ f2.offset = 2)
    (hval : Value.okWide P w r b0 t v) (h : DataW.Trod enc P w 0 sp held t v d p) :
    ∃ (a : Option Addr) (c : Nat) (L : List (Int × Int × Int)), v = .slice a L.length c ∧ Rd (fun _ => True) w a L.length 3 (flat3 L) ∧ L.length ≤ 9223372036854775807 ∧ ∀ x ∈ L, I64 x.1 ∧ I64 x.2.1 ∧ I64 x.2.2 := by
  obtain ⟨a, n, c, rfl⟩ := okWide_slice ht hval
  obtain ⟨fuel, hf⟩ := h
  rcases open_slice ht hf with ⟨hcs, -⟩ | ⟨a', len, cap, m, q, D, Pl, hcs, -, hl, hm, hmm, -, hel⟩
  · simp [Value.cells] at hcs
    obtain ⟨rfl, rfl, rfl⟩ := hcs
    exact ⟨none, 0, [], rfl, ⟨rfl, .inl rfl⟩, by decide, fun x hx => nomatch hx⟩
  · simp [Value.cells] at hcs
    obtain ⟨rfl, rfl, rfl⟩ := hcs
    have hml : maxLen = 9223372036854775807 := rfl
    have hnm : n ≤ m := by rw [hmm]; split <;> omega
    have hex : ∀ i, i < n → ∃ x : Int × Int × Int, (w.cell? ((a'.add (i * 3)).add 0) = some (.int .i64 x.1) ∧ w.cell? ((a'.add (i * 3)).add 1) = some (.int .i64 x.2.1) ∧ w.cell? ((a'.add (i * 3)).add 2) = some (.int .i64 x.2.2)) ∧ I64 x.1 ∧ I64 x.2.1 ∧ I64 x.2.2 := by
      intro i hin
      obtain ⟨cs, hcs, htr⟩ := hel i (by omega)
      rw [hc] at hcs
      obtain ⟨-, hlen, hat⟩ := World.cells?_some hcs
      obtain ⟨xs, k, -, -, -, hxl, hfl⟩ := DataW.trod_struct he htr
      match cs, hlen with
      | [c0, c1, c2], _ =>
        have g0 := hfl 0 f0 rfl
        have g1 := hfl 1 f1 rfl
        have g2 := hfl 2 f2 rfl
        rw [h0.1, h0.2, hci] at g0
        rw [h1.1, h1.2, hci] at g1
        rw [h2.1, h2.2, hci] at g2
        match xs, hxl with
        | [y0, y1, y2], _ =>
          obtain ⟨z0, e0, -, w0⟩ := DataW.trod_int hi g0
          obtain ⟨z1, e1, -, w1⟩ := DataW.trod_int hi g1
          obtain ⟨z2, e2, -, w2⟩ := DataW.trod_int hi g2
          simp at e0 e1 e2
          subst e0 e1 e2
          exact ⟨(z0, z1, z2), ⟨hat 0 (by omega), hat 1 (by omega), hat 2 (by omega)⟩, i64_of w0, i64_of w1, i64_of w2⟩
    obtain ⟨L, hL, hLp⟩ := list_of _ n hex
    subst hL
    refine ⟨some a', c, L, rfl, ⟨flat3_length L, ?_⟩, by omega, fun x hx => ?_⟩
    · by_cases hn0 : L.length = 0
      · exact .inl hn0
      · have hk := (hLp 0 _ (List.getElem?_eq_getElem (by omega))).1.1
        obtain ⟨b, off, spot⟩ := a'
        have hspot : spot = none := by simpa [Addr.add] using World.cell?_spot hk
        subst hspot
        refine .inr ⟨b, off, rfl, trivial, fun j u hj => ?_⟩
        have hjl : j < (flat3 L).length := (List.getElem?_eq_some_iff.1 hj).1
        rw [flat3_length] at hjl
        have hq : j / 3 < L.length := by omega
        obtain ⟨⟨k0, k1, k2⟩, -⟩ := hLp (j / 3) _ (List.getElem?_eq_getElem hq)
        obtain ⟨m0, m1, m2⟩ := flat3_get L (j / 3) hq
        have hgd : L.getD (j / 3) (0, 0, 0) = L[j / 3] := by simp [hq]
        rw [hgd] at m0 m1 m2
        simp only [addr_add] at k0 k1 k2
        have hcase : j % 3 = 0 ∨ j % 3 = 1 ∨ j % 3 = 2 := by omega
        rcases hcase with e | e | e
        · rw [show off + j = off + j / 3 * 3 + 0 by omega, k0, ← hj, ← m0]; congr 1; omega
        · rw [show off + j = off + j / 3 * 3 + 1 by omega, k1, ← hj, ← m1]; congr 1; omega
        · rw [show off + j = off + j / 3 * 3 + 2 by omega, k2, ← hj, ← m2]; congr 1; omega
    · obtain ⟨i, hi', hx'⟩ := List.mem_iff_getElem.1 hx
      exact (hLp i x (by rw [List.getElem?_eq_getElem hi', hx'])).2
end Go.Proofs.Ytjjiemicacbmaaa
