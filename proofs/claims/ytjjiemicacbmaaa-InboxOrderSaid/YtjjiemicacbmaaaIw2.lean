/- How many numbers rows have: counting. -/
import Derived.Test.YtjjiemicacbmaaaIw1
namespace Go.Proofs.Ytjjiemicacbmaaa

/-- How many of the first k numbers meet p. -/
def cb (p : Int → Bool) : Nat → Nat
  | 0 => 0
  | k + 1 => cb p k + if p (k : Int) then 1 else 0
theorem cb_congr {p q : Int → Bool} (k : Nat) (h : ∀ n : Int, 0 ≤ n → n < k → p n = q n) : cb p k = cb q k := by
  induction k with
  | zero => rfl
  | succ k ih => unfold cb; rw [ih (fun n h1 h2 => h n h1 (by omega)), h k (by omega) (by omega)]
theorem cb_mono {p q : Int → Bool} (k : Nat) (h : ∀ n : Int, 0 ≤ n → n < k → p n = true → q n = true) : cb p k ≤ cb q k := by
  induction k with
  | zero => exact Nat.le_refl _
  | succ k ih =>
    unfold cb
    have h1 := ih (fun n h1 h2 => h n h1 (by omega))
    have h2 := h k (by omega) (by omega)
    cases hp : p k
    · simp; split <;> omega
    · rw [h2 hp]; simp; omega
theorem cb_or {p q : Int → Bool} (k : Nat) : cb (fun n => p n || q n) k ≤ cb p k + cb q k := by
  induction k with
  | zero => exact Nat.le_refl _
  | succ k ih =>
    unfold cb
    cases p k <;> cases q k <;> simp <;> omega
theorem cb_disj {p q : Int → Bool} (k : Nat) (h : ∀ n : Int, 0 ≤ n → n < k → p n = true → q n = false) : cb (fun n => p n || q n) k = cb p k + cb q k := by
  induction k with
  | zero => rfl
  | succ k ih =>
    unfold cb
    have h1 := ih (fun n h1 h2 => h n h1 (by omega))
    have h2 := h k (by omega) (by omega)
    cases hp : p k <;> cases hq : q k <;> simp <;> first | omega | (rw [h2 hp] at hq; cases hq)
theorem cb_none {p : Int → Bool} (k : Nat) (h : ∀ n : Int, 0 ≤ n → n < k → p n = false) : cb p k = 0 := by
  induction k with
  | zero => rfl
  | succ k ih => unfold cb; rw [ih (fun n h1 h2 => h n h1 (by omega)), h k (by omega) (by omega)]; rfl
/-- A row's numbers. -/
def inr (f t n : Int) : Bool := decide (f ≤ n) && decide (n < t)
theorem inr_iff {f t n : Int} : inr f t n = true ↔ f ≤ n ∧ n < t := by simp [inr]
theorem cb_row (f t : Int) (k : Nat) (h0 : 0 ≤ f) : (cb (inr f t) k : Int) = max 0 (min t k - f) := by
  induction k with
  | zero => simp [cb]; omega
  | succ k ih =>
    unfold cb
    by_cases h : f ≤ (k : Int) ∧ (k : Int) < t
    · rw [if_pos (inr_iff.2 h)]; push_cast; omega
    · have : inr f t k = false := by
        cases e : inr f t k
        · rfl
        · exact absurd (inr_iff.1 e) h
      rw [this]
      simp
      omega
/-- Whether rows have a number. -/
def inb (l : List (Int × Int)) (n : Int) : Bool := l.any fun x => inr x.1 x.2 n
theorem inb_iff {l : List (Int × Int)} {n : Int} : inb l n = true ↔ InS l n := by
  unfold inb InS
  simp [inr]
theorem tot_cb {l : List (Int × Int)} (h : WF l) (N : Nat) (hN : ∀ x ∈ l, x.2 ≤ N) : tot l = cb (inb l) N := by
  induction l with
  | nil => rw [cb_none (p := inb []) N (fun n _ _ => rfl)]; rfl
  | cons x l ih =>
    obtain ⟨h1, h2, h3, h4, h5⟩ := h.tail
    have e : cb (inb (x :: l)) N = cb (fun n => inr x.1 x.2 n || inb l n) N := cb_congr N fun n _ _ => rfl
    have hd : cb (fun n => inr x.1 x.2 n || inb l n) N = cb (inr x.1 x.2) N + cb (inb l) N := cb_disj N fun n _ _ hn => by
      cases e : inb l n
      · rfl
      · obtain ⟨y, hy, h6⟩ := inb_iff.1 e
        have := h2 y hy
        have := inr_iff.1 hn
        omega
    have hr := cb_row x.1 x.2 N h3
    have hx := hN x (List.mem_cons_self)
    rw [e, hd]
    have := ih h1 (fun y hy => hN y (List.mem_cons_of_mem _ hy))
    unfold tot
    push_cast
    omega
theorem WF.ends {l : List (Int × Int)} (h : WF l) {N : Nat} (hN : (N : Int) = 4611686018427387904) : ∀ x ∈ l, x.2 ≤ N := fun x hx => by have := (h.2 x hx).2.2; omega
theorem tot_mono {l m : List (Int × Int)} (hl : WF l) (hm : WF m) (h : ∀ n, InS l n → InS m n) : tot l ≤ tot m := by
  obtain ⟨N, hN⟩ : ∃ N : Nat, (N : Int) = 4611686018427387904 := ⟨4611686018427387904, rfl⟩
  rw [tot_cb hl N (hl.ends hN), tot_cb hm N (hm.ends hN)]
  have := cb_mono (p := inb l) (q := inb m) N (fun n _ _ e => inb_iff.2 (h n (inb_iff.1 e)))
  omega
theorem tot_le_add {l m : List (Int × Int)} (hl : WF l) (hm : WF m) {f t : Int} (h0 : 0 ≤ f) (hft : f ≤ t) (h : ∀ n, InS m n → InS l n ∨ (f ≤ n ∧ n < t)) : tot m ≤ tot l + (t - f) := by
  obtain ⟨N, hN⟩ : ∃ N : Nat, (N : Int) = 4611686018427387904 := ⟨4611686018427387904, rfl⟩
  rw [tot_cb hl N (hl.ends hN), tot_cb hm N (hm.ends hN)]
  have h1 := cb_mono (p := inb m) (q := fun n => inb l n || inr f t n) N (fun n _ _ e => by
    rcases h n (inb_iff.1 e) with h1 | h1
    · rw [inb_iff.2 h1]; rfl
    · rw [inr_iff.2 h1]; simp)
  have h2 := cb_or (p := inb l) (q := inr f t) N
  have h3 := cb_row f t N h0
  omega
theorem tot_eq_add {l c : List (Int × Int)} (hl : WF l) (hc : WF c) {f t : Int} (h0 : 0 ≤ f) (hft : f ≤ t) (ht : t ≤ 4611686018427387904) (h : ∀ n, InS l n ↔ InS c n ∨ (f ≤ n ∧ n < t)) (hd : ∀ n, InS c n → ¬ (f ≤ n ∧ n < t)) : tot l = tot c + (t - f) := by
  obtain ⟨N, hN⟩ : ∃ N : Nat, (N : Int) = 4611686018427387904 := ⟨4611686018427387904, rfl⟩
  rw [tot_cb hl N (hl.ends hN), tot_cb hc N (hc.ends hN)]
  have h1 : cb (inb l) N = cb (fun n => inb c n || inr f t n) N := cb_congr N fun n _ _ => by
    rw [Bool.eq_iff_iff, inb_iff, Bool.or_eq_true, inb_iff, inr_iff]; exact h n
  have h2 := cb_disj (p := inb c) (q := inr f t) N fun n _ _ e => by
    cases e2 : inr f t n
    · rfl
    · exact absurd (inr_iff.1 e2) (hd n (inb_iff.1 e))
  have h3 := cb_row f t N h0
  omega
theorem tot_in {c : List (Int × Int)} (hc : WF c) {f t : Int} (h0 : 0 ≤ f) (hft : f ≤ t) (h : ∀ n, InS c n → f ≤ n ∧ n < t) : tot c ≤ t - f := by
  have := tot_le_add (l := []) WF.nil hc h0 hft (fun n hn => .inr (h n hn))
  simp [tot] at this
  omega

/-- What is held: what is there less what was read. -/
theorem IV.held {size done : Int} {buf : List UInt8} {l : List (Int × Int)} (hv : IV size done buf l) : tot (cutL l 0 done).2 = tot l - done ∧ tot l - done ≤ size ∧ 0 ≤ tot l - done := by
  obtain ⟨c1, c2, -, -, -⟩ := cut_law hv.wf 0 done
  have hd := hv.dn
  have hs := hv.sz
  rw [Int.max_self, Int.min_eq_left (by omega)] at c2
  have h1 : tot l = tot (cutL l 0 done).2 + (done - 0) := tot_eq_add hv.wf c1 (Int.le_refl _) hd.1 (by omega) (fun n => by
    rw [c2 n]
    constructor
    · intro h
      by_cases h' : 0 ≤ n ∧ n < done
      · exact .inr h'
      · exact .inl ⟨h, h'⟩
    · rintro (h | h)
      · exact h.1
      · exact hv.low n h.1 h.2) (fun n h => ((c2 n).1 h).2)
  have h2 : tot (cutL l 0 done).2 ≤ done + size - done := tot_in c1 hd.1 (by omega) fun n h => by
    obtain ⟨h3, h4⟩ := (c2 n).1 h
    have h5 := hv.top n h3
    obtain ⟨x, hx, h6, h7⟩ := h3
    have := (hv.wf.2 x hx).1
    omega
  have := c1.tot
  omega
/-- How many Take takes. -/
theorem take_bd {size done : Int} {buf : List UInt8} {l : List (Int × Int)} (hv : IV size done buf l) (at_ : Int) (m : Nat) : 0 ≤ (takeR size done at_ m l).1 ∧ (takeR size done at_ m l).1 ≤ m := by
  obtain ⟨t1, t2, t3, -⟩ := take_law hv at_ m
  have h1 := tot_mono hv.wf t1 (fun n h => (t2 n).2 (.inl h))
  have h2 : tot (takeR size done at_ m l).2 ≤ tot l + m := by
    have hd := hv.dn
    by_cases h : 0 ≤ at_
    · have := tot_le_add hv.wf t1 (f := at_) (t := at_ + m) h (by omega) (fun n hn => ((t2 n).1 hn).imp id (fun h => by omega))
      omega
    · have := tot_mono t1 hv.wf (fun n hn => ((t2 n).1 hn).resolve_right (by omega))
      omega
  omega
end Go.Proofs.Ytjjiemicacbmaaa
