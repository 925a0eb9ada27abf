/- The document's ranges: Next, Gap, Covers. -/
import Derived.Test.YtjjiemicacbmaaaRq1
namespace Go.Proofs.Ytjjiemicacbmaaa
open Go.RowKit Go.Shelf

theorem next_in {l : List (Int × Int)} (h : WF l) (n : Int) {j : Nat} (hj : j < l.length) (h1 : l[j].1 ≤ max n 0) (h2 : max n 0 < l[j].2) : nextL l n = l[j].2 := by
  obtain ⟨n1, n2, n3, -⟩ := next_law h n
  rcases Int.lt_trichotomy (nextL l n) l[j].2 with e | e | e
  · exact absurd ⟨_, List.getElem_mem hj, by omega, e⟩ n2
  · exact e
  · obtain ⟨x, hx, e1, e2⟩ := n3 l[j].2 (by omega) e
    obtain ⟨q, hq, rfl⟩ := List.mem_iff_getElem.1 hx
    rcases Nat.lt_trichotomy q j with c | c | c
    · have := h.rise hq hj c
      have := h.at' hj
      omega
    · subst c; omega
    · have := h.rise hj hq c
      omega
theorem next_out {l : List (Int × Int)} (h : WF l) (n : Int) (hn : ¬ InS l (max n 0)) : nextL l n = max n 0 := by
  obtain ⟨n1, n2, n3, -⟩ := next_law h n
  by_cases e : nextL l n = max n 0
  · exact e
  · exact absurd (n3 (max n 0) (Int.le_refl _) (by omega)) hn
theorem hi_none {l : List (Int × Int)} (a : Int) (h : ∀ m, (hm : m < l.length) → l[m].1 ≤ a) : ¬ bs (pHi l a) l.length < l.length := by
  intro hb
  have hs := (bs_spec (pHi l a) l.length).2.1 hb
  simp only [pHi, decide_eq_true_eq, getD_in l _ hb] at hs
  have := h _ hb
  omega
theorem hi_first {l : List (Int × Int)} (hw : WF l) (a : Int) {j : Nat} (hj : j < l.length) (h1 : a < l[j].1) (h : ∀ m, (hm : m < l.length) → m < j → l[m].1 ≤ a) : bs (pHi l a) l.length = j := by
  obtain ⟨s1, s2, s3⟩ := bs_spec (pHi l a) l.length
  generalize bs (pHi l a) l.length = k at s1 s2 s3 ⊢
  rcases Nat.lt_trichotomy k j with c | c | c
  · have hs := s2 (by omega)
    simp only [pHi, decide_eq_true_eq, getD_in l k (by omega)] at hs
    have := h k (by omega) c
    omega
  · exact c
  · have hs := s3 (by omega)
    simp only [pHi, decide_eq_false_iff_not, getD_in l (k - 1) (by omega)] at hs
    by_cases e : k - 1 = j
    · simp only [e] at hs; exact absurd h1 hs
    · have := hw.rise hj (j := k - 1) (by omega) (by omega)
      have := hw.at' hj
      omega

set_option maxHeartbeats 2000000 in
theorem qnext_any (b : Nat) (o : Option Nat) (l : List (Int × Int)) (n : Int) (w : World) (h : RQ w b o l) (hw : WF l) (hn : l.length < 4611686018427387904) :
    Calls Try.prog 31 #[.pointer (some ⟨b, 0, none⟩), .int .i64 n] w fun e w' => e = .returned (.int .i64 (nextL l n)) ∧ Upd none_ w w' := by
  obtain ⟨a, cap, hc, hcap, -, -, -, hk⟩ := h.slice
  have hmx := run_max2 Try.prog
  have HC := hide hc
  have HK := hide hk
  have HN := hide (fun j hj => next_in hw n (j := j) hj)
  have HO := hide (next_out hw n)
  have HW := hide hw
  clear hc hk hw h
  generalize hn0 : max n 0 = n0 at HN HO
  have hmx0 : ∀ ats t W, (Builtin.max_ ats t #[.int .i64 n, .int .i64 0]).run Try.prog W = .ok (.int .i64 n0) W := fun ats t W => by rw [run_max2, hn0]
  clear hn0 hmx
  go_enter Try.func31, Try.ntmps31
  go_wp2_with fail
  go_loopw [1, 5] (fun s i wr => ∃ k : Nat, ∃ v : Int, k ≤ l.length ∧ i = .int .i64 k ∧ s = .int .i64 v ∧ Upd none_ w wr ∧
    ((v = n0 ∧ ∀ m, (hm : m < l.length) → m < k → ¬ (l[m].1 ≤ n0 ∧ n0 < l[m].2)) ∨ (v = nextL l n ∧ ∀ m, (hm : m < l.length) → k ≤ m → v < l[m].1))) (fun _ i _ => l.length - (intOf i).toNat)
  case atStart => exact ⟨0, n0, Nat.zero_le _, rfl, rfl, Upd.refl _ _, .inl ⟨rfl, fun m _ h => absurd h (Nat.not_lt_zero _)⟩⟩
  case round =>
    obtain ⟨k, v, hk, rfl, rfl, hu, hst⟩ := hrel
    have c0 := hu.cell HC.out id
    have HU := hide hu
    have HST := hide hst
    clear hu hst
    by_cases hlt : k < l.length
    · obtain ⟨g, rfl, -, e1, e2⟩ := HK.out k hlt
      have e3 := HU.out.cell e1 id
      have e4 := HU.out.cell e2 id
      clear e1 e2
      rw [getD_in l k hlt] at e3 e4
      have HI := hide (HN.out k hlt)
      generalize hx : l[k] = x at e3 e4 HI
      have HX := hide hx
      clear hx
      have f1 : (0 : Int) ≤ (k : Int) := by omega
      have f2 : (k : Int) < (l.length : Int) := by omega
      have f3 : (k : Int).toNat = k := by omega
      by_cases g1 : x.1 ≤ v
      · by_cases g2 : v < x.2
        · have hv : v = n0 := by
            rcases HST.out with h | h
            · exact h.1
            · have := h.2 k hlt (Nat.le_refl _); rw [HX.out] at this; omega
          have HE := hide (HI.out (hv ▸ g1) (hv ▸ g2))
          go_wp2_with fail
          go_roundw
          case rel => exact ⟨k + 1, x.2, by omega, by go_num, rfl, HU.out, .inr ⟨HE.out.symm, fun m hm hkm => by have := HW.out.rise hlt hm (by omega); rw [HX.out] at this; exact this⟩⟩
          case measure => simp [intOf]; omega
        · go_wp2_with fail
          go_roundw
          case rel => exact ⟨k + 1, v, by omega, by go_num, rfl, HU.out, by
            rcases HST.out with h | h
            · refine .inl ⟨h.1, fun m hm hmk => ?_⟩
              by_cases e : m = k
              · subst e; rw [HX.out]; omega
              · exact h.2 m hm (by omega)
            · exact .inr ⟨h.1, fun m hm hkm => h.2 m hm (by omega)⟩⟩
          case measure => simp [intOf]; omega
      · go_wp2_with fail
        go_roundw
        case rel => exact ⟨k + 1, v, by omega, by go_num, rfl, HU.out, by
          rcases HST.out with h | h
          · refine .inl ⟨h.1, fun m hm hmk => ?_⟩
            by_cases e : m = k
            · subst e; rw [HX.out]; omega
            · exact h.2 m hm (by omega)
          · exact .inr ⟨h.1, fun m hm hkm => h.2 m hm (by omega)⟩⟩
        case measure => simp [intOf]; omega
    · obtain rfl : k = l.length := by omega
      have hv : v = nextL l n := by
        rcases HST.out with h | h
        · rw [h.1]
          refine (HO.out ?_).symm
          rintro ⟨x, hx, e1, e2⟩
          obtain ⟨m, hm, rfl⟩ := List.mem_iff_getElem.1 hx
          exact h.2 m hm hm ⟨e1, e2⟩
        · exact h.1
      have HV := hide hv
      clear hv
      go_wp2_with fail
      go_ret
      exact ⟨by rw [← HV.out]; rfl, HU.out⟩
end Go.Proofs.Ytjjiemicacbmaaa
