/- Plain law of ranges: rows that rise, and the numbers in them. -/
import Derived.Test.YtjjiemicacbmaaaRg12
namespace Go.Proofs.Ytjjiemicacbmaaa
open Go.RowKit Go.Shelf

/-- Rows that rise and touch not. -/
def WF (l : List (Int × Int)) : Prop := l.Pairwise (fun x y => x.2 < y.1) ∧ ∀ x ∈ l, 0 ≤ x.1 ∧ x.1 < x.2 ∧ x.2 ≤ 4611686018427387904
/-- A number is in rows. -/
def InS (l : List (Int × Int)) (n : Int) : Prop := ∃ x ∈ l, x.1 ≤ n ∧ n < x.2
theorem WF.nil : WF [] := ⟨.nil, fun _ h => nomatch h⟩
theorem InS.nil {n : Int} : ¬ InS [] n := fun ⟨_, h, _⟩ => nomatch h
theorem inS_cons {x : Int × Int} {l : List (Int × Int)} {n : Int} : InS (x :: l) n ↔ (x.1 ≤ n ∧ n < x.2) ∨ InS l n := by
  simp [InS]
theorem inS_app {l m : List (Int × Int)} {n : Int} : InS (l ++ m) n ↔ InS l n ∨ InS m n := by
  simp only [InS, List.mem_append]
  constructor
  · rintro ⟨x, h | h, e⟩
    · exact .inl ⟨x, h, e⟩
    · exact .inr ⟨x, h, e⟩
  · rintro (⟨x, h, e⟩ | ⟨x, h, e⟩)
    · exact ⟨x, .inl h, e⟩
    · exact ⟨x, .inr h, e⟩
theorem WF.tail {x : Int × Int} {l : List (Int × Int)} (h : WF (x :: l)) : WF l ∧ (∀ y ∈ l, x.2 < y.1) ∧ 0 ≤ x.1 ∧ x.1 < x.2 ∧ x.2 ≤ 4611686018427387904 :=
  ⟨⟨(List.pairwise_cons.1 h.1).2, fun y hy => h.2 y (List.mem_cons_of_mem _ hy)⟩, (List.pairwise_cons.1 h.1).1, h.2 x (List.mem_cons_self ..)⟩

/-- Rows that have the same numbers are the same. -/
theorem WF.eq {l : List (Int × Int)} : ∀ {m : List (Int × Int)}, WF l → WF m → (∀ n, InS l n ↔ InS m n) → l = m := by
  induction l with
  | nil =>
    intro m _ hm h
    cases m with
    | nil => rfl
    | cons y m =>
      have := hm.tail
      exact absurd ((h y.1).2 (inS_cons.2 (.inl ⟨Int.le_refl _, this.2.2.2.1⟩))) InS.nil
  | cons x l ih =>
    intro m hl hm h
    obtain ⟨hl1, hl2, hl3, hl4, -⟩ := hl.tail
    cases m with
    | nil => exact absurd ((h x.1).1 (inS_cons.2 (.inl ⟨Int.le_refl _, hl4⟩))) InS.nil
    | cons y m =>
      obtain ⟨hm1, hm2, hm3, hm4, -⟩ := hm.tail
      have lowl : ∀ n, InS l n → x.2 < n := fun n ⟨z, hz, h1, _⟩ => by have := hl2 z hz; omega
      have lowm : ∀ n, InS m n → y.2 < n := fun n ⟨z, hz, h1, _⟩ => by have := hm2 z hz; omega
      have h1 := (h x.1).1 (inS_cons.2 (.inl ⟨Int.le_refl _, hl4⟩))
      have h2 := (h y.1).2 (inS_cons.2 (.inl ⟨Int.le_refl _, hm4⟩))
      have e1 : x.1 = y.1 := by
        rcases inS_cons.1 h1 with h1 | h1 <;> rcases inS_cons.1 h2 with h2 | h2
        · omega
        · have := lowl _ h2; omega
        · have := lowm _ h1; omega
        · have := lowl _ h2; have := lowm _ h1; omega
      have e2 : x.2 = y.2 := by
        rcases Int.lt_trichotomy x.2 y.2 with h3 | h3 | h3
        · rcases inS_cons.1 ((h x.2).2 (inS_cons.2 (.inl ⟨by omega, h3⟩))) with h4 | h4
          · omega
          · have := lowl _ h4; omega
        · exact h3
        · rcases inS_cons.1 ((h y.2).1 (inS_cons.2 (.inl ⟨by omega, h3⟩))) with h4 | h4
          · omega
          · have := lowm _ h4; omega
      have e3 : x = y := Prod.ext e1 e2
      subst e3
      rw [ih hl1 hm1 fun n => ⟨fun hn => ?_, fun hn => ?_⟩]
      · rcases inS_cons.1 ((h n).1 (inS_cons.2 (.inr hn))) with h4 | h4
        · have := lowl _ hn; omega
        · exact h4
      · rcases inS_cons.1 ((h n).2 (inS_cons.2 (.inr hn))) with h4 | h4
        · have := lowm _ hn; omega
        · exact h4

/-- How many numbers there are. -/
def tot : List (Int × Int) → Int
  | [] => 0
  | x :: l => (x.2 - x.1) + tot l
theorem tot_append (l m : List (Int × Int)) : tot (l ++ m) = tot l + tot m := by
  induction l with
  | nil => simp [tot]
  | cons x l ih => simp only [List.cons_append, tot, ih]; omega
theorem tot_bound (l : List (Int × Int)) : ∀ lo : Int, lo ≤ 4611686018427387904 → l.Pairwise (fun x y => x.2 < y.1) → (∀ x ∈ l, lo ≤ x.1 ∧ x.1 < x.2 ∧ x.2 ≤ 4611686018427387904) → 0 ≤ tot l ∧ tot l ≤ 4611686018427387904 - lo := by
  induction l with
  | nil => intro lo h _ _; simp only [tot]; omega
  | cons x l ih =>
    intro lo hlo hp hx
    obtain ⟨hp1, hp2⟩ := List.pairwise_cons.1 hp
    have h0 := hx x (List.mem_cons_self ..)
    have := ih x.2 (by omega) hp2 (fun y hy => ⟨by have := hp1 y hy; omega, (hx y (List.mem_cons_of_mem _ hy)).2⟩)
    simp only [tot]; omega
theorem WF.tot {l : List (Int × Int)} (h : WF l) : 0 ≤ tot l ∧ tot l ≤ 4611686018427387904 := by
  have := tot_bound l 0 (by omega) h.1 h.2
  omega
theorem wrap64_in (x : Int) (h : -9223372036854775808 ≤ x ∧ x ≤ 9223372036854775807) : wrap64 x = x := by unfold wrap64; omega
theorem many_tot (l : List (Int × Int)) : ∀ n : Int, 0 ≤ n → (∀ x ∈ l, 0 ≤ x.1 ∧ x.1 < x.2 ∧ x.2 ≤ 4611686018427387904) → n + tot l ≤ 9223372036854775807 → 0 ≤ tot l → manyW l n = n + tot l := by
  induction l with
  | nil => intro n _ _ _ _; simp [manyW, tot]
  | cons x l ih =>
    intro n hn hx h1 h2
    have h0 := hx x (List.mem_cons_self ..)
    have hx' := fun y hy => hx y (List.mem_cons_of_mem x hy)
    have hpos : ∀ m : List (Int × Int), (∀ x ∈ m, 0 ≤ x.1 ∧ x.1 < x.2 ∧ x.2 ≤ 4611686018427387904) → 0 ≤ tot m := by
      intro m
      induction m with
      | nil => intro _; exact Int.le_refl _
      | cons y m ih => intro h; have := ih (fun z hz => h z (List.mem_cons_of_mem _ hz)); have := h y (List.mem_cons_self ..); simp only [tot]; omega
    have h3 := hpos l hx'
    simp only [tot] at h1 h2 ⊢
    simp only [manyW]
    rw [wrap64_in (x.2 - x.1) (by omega), wrap64_in _ (by omega), ih _ (by omega) hx' (by omega) h3]
    omega
theorem WF.many {l : List (Int × Int)} (h : WF l) : manyW l 0 = Proofs.Ytjjiemicacbmaaa.tot l := by
  have := h.tot
  rw [many_tot l 0 (by omega) h.2 (by omega) this.1]
  omega
theorem WF.sub {l m : List (Int × Int)} (h : WF l) (hs : m.Sublist l) : WF m := ⟨h.1.sublist hs, fun x hx => h.2 x (hs.subset hx)⟩
end Go.Proofs.Ytjjiemicacbmaaa
