/- Contracts of package ranges: the search, its closures, inside, many. -/
import Derived.Test.YtjjiemicacbmaaaRows
import Derived.Test.YtjjiemicacbmaaaOwn
import Derived.Shelf.Abstract
namespace Go.Proofs.Ytjjiemicacbmaaa
open Go.RowKit Go.Shelf

/-- Go's binary search. -/
def bsr (p : Nat → Bool) : Nat → Nat → Nat → Nat
  | 0, lo, _ => lo
  | k + 1, lo, hi => if lo < hi then (if p ((lo + hi) / 2) then bsr p k lo ((lo + hi) / 2) else bsr p k ((lo + hi) / 2 + 1) hi) else lo
def bs (p : Nat → Bool) (n : Nat) : Nat := bsr p n 0 n
theorem bsr_spec (p : Nat → Bool) (n : Nat) : ∀ k lo hi, lo ≤ hi → hi ≤ n → hi - lo ≤ k → (hi < n → p hi = true) → (0 < lo → p (lo - 1) = false) →
    bsr p k lo hi ≤ n ∧ (bsr p k lo hi < n → p (bsr p k lo hi) = true) ∧ (0 < bsr p k lo hi → p (bsr p k lo hi - 1) = false) := by
  intro k
  induction k with
  | zero =>
    intro lo hi h1 h2 h3 h4 h5
    obtain rfl : hi = lo := by omega
    exact ⟨h2, h4, h5⟩
  | succ k ih =>
    intro lo hi h1 h2 h3 h4 h5
    unfold bsr
    by_cases hlt : lo < hi
    · rw [if_pos hlt]
      cases hp : p ((lo + hi) / 2) with
      | true => rw [if_pos rfl]; exact ih _ _ (by omega) (by omega) (by omega) (fun _ => hp) h5
      | false => rw [if_neg (by simp)]; exact ih _ _ (by omega) h2 (by omega) h4 (fun _ => hp)
    · rw [if_neg hlt]
      obtain rfl : hi = lo := by omega
      exact ⟨h2, h4, h5⟩
/-- Where it ends: within, behind a no, at a yes. -/
theorem bs_spec (p : Nat → Bool) (n : Nat) : bs p n ≤ n ∧ (bs p n < n → p (bs p n) = true) ∧ (0 < bs p n → p (bs p n - 1) = false) :=
  bsr_spec p n n 0 n (Nat.zero_le _) (Nat.le_refl _) (by omega) (fun h => by omega) (fun h => by omega)

set_option maxHeartbeats 1000000 in
theorem search_any (g : Nat) (cb : Array Value) (n : Nat) (p : Nat → Bool) (w : World) (eg0 : Enters Try.prog g) (hsz : n < 4611686018427387904)
    (hf : ∀ (q i : Nat), i < n → Calls Try.prog g (#[.int .i64 i] ++ cb) (w.drewN q) fun e w' => e = .returned (.bool (p i)) ∧ ∃ q', (w.drewN q).drewN q' = w') :
    Calls Try.prog 77 #[.int .i64 n, .func (.func g) #[] cb] w fun e w' => e = .returned (.int .i64 (bs p n : Nat)) ∧ ∃ q, w.drewN q = w' := by
  have eg : ∀ args w, (callFunc g args).run Try.prog w = .ok (.enter g args) w := eg0
  clear eg0
  have HF : Hid _ := hf
  clear hf
  generalize hJ : bs p n = J
  have HJ := hide hJ
  clear hJ
  go_enter Try.func77, Try.ntmps77
  go_wp2
  go_loopg [5, 6] n (fun kx s5 s6 wr => ∃ (lo hi q : Nat), s5 = .int .i64 lo ∧ s6 = .int .i64 hi ∧ lo ≤ hi ∧ hi ≤ n ∧ hi - lo ≤ kx ∧ w.drewN q = wr ∧ Hid (bsr p kx lo hi = J))
  case atStart => exact ⟨0, n, 0, rfl, rfl, Nat.zero_le _, Nat.le_refl _, by omega, rfl, HJ⟩
  case round =>
    obtain ⟨lo, hi, q, rfl, rfl, hlh, hin, hg, rfl, I⟩ := hrel
    by_cases hlt : lo < hi
    · obtain ⟨gj, rfl⟩ : ∃ m, gk = m + 1 := ⟨gk - 1, by omega⟩
      have I2 := I.out
      unfold bsr at I2
      rw [if_pos hlt] at I2
      have hc := HF.out q ((lo + hi) / 2) (by omega)
      rw [show (((lo + hi) / 2 : Nat) : Int) = ((lo : Int) + (hi : Int)) / 2 by omega] at hc
      cases hp : p ((lo + hi) / 2) <;> rw [hp] at hc I2
      · have I3 := hide I2
        clear I2 hp I
        go_wp2_with (go_at_fn g; refine hc.mono ?_; rintro e w' ⟨rfl, nq, rfl⟩)
        go_roundg gj
        case measure => omega
        case rel => exact ⟨(lo + hi) / 2 + 1, hi, q + nq, by rw [show ((lo : Int) + (hi : Int)) / 2 + 1 = (((lo + hi) / 2 + 1 : Nat) : Int) by omega], rfl, by omega, hin, by omega, rfl, I3.out⟩
      · have I3 := hide I2
        clear I2 hp I
        go_wp2_with (go_at_fn g; refine hc.mono ?_; rintro e w' ⟨rfl, nq, rfl⟩)
        go_roundg gj
        case measure => omega
        case rel => exact ⟨lo, (lo + hi) / 2, q + nq, rfl, by rw [show ((lo : Int) + (hi : Int)) / 2 = (((lo + hi) / 2 : Nat) : Int) by omega], by omega, by omega, by omega, rfl, I3.out⟩
    · have hJ2 : lo = J := by
        have := I.out
        cases gk with
        | zero => exact this
        | succ k => unfold bsr at this; rw [if_neg hlt] at this; exact this
      have HJ2 := hide hJ2
      clear hJ2 I hg
      obtain rfl : hi = lo := by omega
      clear hlt hlh
      go_wp2
      go_ret
      exact ⟨by rw [HJ2.out]; rfl, q, rfl⟩

theorem inside_any (a b : Int) (w : World) :
    Calls Try.prog 72 #[.int .i64 a, .int .i64 b] w fun e w' => e = .returned (.tuple #[.int .i64 (max a 0), .int .i64 (min b 4611686018427387904)]) ∧ w = w' := by
  go_enter Try.func72, Try.ntmps72
  have hmx := run_max2 Try.prog
  have hmn := run_min2 Try.prog
  go_wp2
  go_ret2
  exact ⟨rfl, rfl⟩

/-- A list of ranges as cells. -/
def flat (l : List (Int × Int)) : List Value := l.flatMap fun r => [.int .i64 r.1, .int .i64 r.2]
theorem flat_length (l : List (Int × Int)) : (flat l).length = l.length * 2 := by
  induction l with
  | nil => rfl
  | cons x l ih => simp only [flat, List.flatMap_cons, List.length_append, List.length_cons, List.length_nil] at ih ⊢; omega
theorem flat_append (l m : List (Int × Int)) : flat (l ++ m) = flat l ++ flat m := by simp [flat]
theorem flat_get (l : List (Int × Int)) : ∀ k, k < l.length → (flat l)[k * 2]? = some (.int .i64 (l.getD k (0, 0)).1) ∧ (flat l)[k * 2 + 1]? = some (.int .i64 (l.getD k (0, 0)).2) := by
  induction l with
  | nil => intro k hk; simp at hk
  | cons x l ih =>
    intro k hk
    cases k with
    | zero => simp [flat]
    | succ k =>
      have := ih k (by simpa using hk)
      simp only [flat, List.flatMap_cons, List.cons_append, List.nil_append] at this ⊢
      rw [show (k + 1) * 2 = k * 2 + 1 + 1 by omega, show k * 2 + 1 + 1 + 1 = (k * 2 + 1) + 1 + 1 by omega]
      simp only [List.getElem?_cons_succ, List.getD_cons_succ]
      exact this
theorem flat_take (l : List (Int × Int)) (k : Nat) : (flat l).take (k * 2) = flat (l.take k) := by
  induction k generalizing l with
  | zero => simp [flat]
  | succ k ih =>
    cases l with
    | nil => simp [flat]
    | cons x l =>
      have := ih l
      simp only [flat, List.flatMap_cons, List.cons_append, List.nil_append, List.take_succ_cons] at this ⊢
      rw [show (k + 1) * 2 = k * 2 + 1 + 1 by omega]
      simp only [List.take_succ_cons, this]
theorem flat_drop (l : List (Int × Int)) (k : Nat) : (flat l).drop (k * 2) = flat (l.drop k) := by
  induction k generalizing l with
  | zero => simp [flat]
  | succ k ih =>
    cases l with
    | nil => simp [flat]
    | cons x l =>
      have := ih l
      simp only [flat, List.flatMap_cons, List.cons_append, List.nil_append, List.drop_succ_cons] at this ⊢
      rw [show (k + 1) * 2 = k * 2 + 1 + 1 by omega]
      simp only [List.drop_succ_cons, this]
theorem flat_one (l : List (Int × Int)) : ∀ v ∈ flat l, v.oneCell' = true := by
  intro v hv
  simp only [flat, List.mem_flatMap, List.mem_cons, List.not_mem_nil, or_false] at hv
  obtain ⟨x, _, rfl | rfl⟩ := hv <;> rfl

/-- Block b holds ranges l; their row is block o. -/
def RG (w : World) (b : Nat) (o : Option Nat) (l : List (Int × Int)) : Prop :=
  ∃ v, w.heap[b]? = some (.cells #[v] 89 (0, 0)) ∧ w.ownsRow 0 33 2 v l.length (flat l) ∧ v.ownBlock = o

set_option maxHeartbeats 400000 in
theorem touched1_any (k n c : Nat) (f x : Int) (b g br bf : Nat) (w : World)
   (h1 : w.cell? ⟨br, 0, none⟩ = some (.pointer (some ⟨b, 0, none⟩))) (h2 : w.cell? ⟨bf, 0, none⟩ = some (.int .i64 f))
   (h3 : w.cell? ⟨b, 0, none⟩ = some (.slice (some ⟨g, 0, none⟩) n c)) (hk : (k : Int) < (n : Int)) (h4 : w.cell? ⟨g, k * 2 + 1, none⟩ = some (.int .i64 x)) :
    Calls Try.prog 90 #[.int .i64 k, .pointer (some ⟨br, 0, none⟩), .pointer (some ⟨bf, 0, none⟩)] w fun e w' => e = .returned (.bool (decide (f ≤ x))) ∧ ∃ q, w.drewN q = w' := by
  go_enter Try.func90, Try.ntmps90
  go_wp2
  go_quiet (fail)
  go_wp2
  go_ret
  exact ⟨rfl, _, rfl⟩
set_option maxHeartbeats 400000 in
theorem touched2_any (k n c : Nat) (f x : Int) (b g br bf : Nat) (w : World)
   (h1 : w.cell? ⟨br, 0, none⟩ = some (.pointer (some ⟨b, 0, none⟩))) (h2 : w.cell? ⟨bf, 0, none⟩ = some (.int .i64 f))
   (h3 : w.cell? ⟨b, 0, none⟩ = some (.slice (some ⟨g, 0, none⟩) n c)) (hk : (k : Int) < (n : Int)) (h4 : w.cell? ⟨g, k * 2, none⟩ = some (.int .i64 x)) :
    Calls Try.prog 91 #[.int .i64 k, .pointer (some ⟨br, 0, none⟩), .pointer (some ⟨bf, 0, none⟩)] w fun e w' => e = .returned (.bool (decide (f < x))) ∧ ∃ q, w.drewN q = w' := by
  go_enter Try.func91, Try.ntmps91
  go_wp2
  go_quiet (fail)
  go_wp2
  go_ret
  exact ⟨rfl, _, rfl⟩
set_option maxHeartbeats 400000 in
theorem at1_any (k n c : Nat) (f x : Int) (b g br bf : Nat) (w : World)
   (h1 : w.cell? ⟨br, 0, none⟩ = some (.pointer (some ⟨b, 0, none⟩))) (h2 : w.cell? ⟨bf, 0, none⟩ = some (.int .i64 f))
   (h3 : w.cell? ⟨b, 0, none⟩ = some (.slice (some ⟨g, 0, none⟩) n c)) (hk : (k : Int) < (n : Int)) (h4 : w.cell? ⟨g, k * 2 + 1, none⟩ = some (.int .i64 x)) :
    Calls Try.prog 96 #[.int .i64 k, .pointer (some ⟨br, 0, none⟩), .pointer (some ⟨bf, 0, none⟩)] w fun e w' => e = .returned (.bool (decide (f < x))) ∧ ∃ q, w.drewN q = w' := by
  go_enter Try.func96, Try.ntmps96
  go_wp2
  go_quiet (fail)
  go_wp2
  go_ret
  exact ⟨rfl, _, rfl⟩
set_option maxHeartbeats 400000 in
theorem gap1_any (k n c : Nat) (f x : Int) (b g br bf : Nat) (w : World)
   (h1 : w.cell? ⟨br, 0, none⟩ = some (.pointer (some ⟨b, 0, none⟩))) (h2 : w.cell? ⟨bf, 0, none⟩ = some (.int .i64 f))
   (h3 : w.cell? ⟨b, 0, none⟩ = some (.slice (some ⟨g, 0, none⟩) n c)) (hk : (k : Int) < (n : Int)) (h4 : w.cell? ⟨g, k * 2, none⟩ = some (.int .i64 x)) :
    Calls Try.prog 78 #[.int .i64 k, .pointer (some ⟨br, 0, none⟩), .pointer (some ⟨bf, 0, none⟩)] w fun e w' => e = .returned (.bool (decide (f < x))) ∧ ∃ q, w.drewN q = w' := by
  go_enter Try.func78, Try.ntmps78
  go_wp2
  go_quiet (fail)
  go_wp2
  go_ret
  exact ⟨rfl, _, rfl⟩
end Go.Proofs.Ytjjiemicacbmaaa
