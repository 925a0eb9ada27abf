/- Contract: slices.Replace at ranges: there is room. -/
import Derived.Test.YtjjiemicacbmaaaRg8
namespace Go.Proofs.Ytjjiemicacbmaaa
open Go.RowKit Go.Shelf

set_option maxHeartbeats 4000000 in
set_option maxRecDepth 20000 in
theorem replace_fit (g n c i j m cm : Nat) (ad : Option Addr) (L xs ys : List Value) (F : Nat → Prop) (w : World) (hg : w.heap[g]? = some (.cells L.toArray 33 (0, 0))) (hL : L.length = c * 2) (hT : L.take (n * 2) = xs)
    (hy : Rd F w ad m 2 ys) (hF : ∀ b, F b → b ≠ g) (hi : i < j) (hj : j < n) (hnc : n ≤ c) (hc : c ≤ 9223372036854775807) (hgr : i + m + (n - j) ≤ c) (hfit : i + m ≤ j) (hb : (n + m) * 16 ≤ 140737488355328)
    (hx1 : ∀ u ∈ xs, u.oneCell' = true) (hy1 : ∀ u ∈ ys, u.oneCell' = true) :
    Calls Try.prog 75 #[.slice (some ⟨g, 0, none⟩) n c, .int .i64 i, .int .i64 j, .slice ad m cm] w fun e w' => e = .returned (.slice (some ⟨g, 0, none⟩) (i + m + (n - j)) c) ∧
      ∃ L', w'.heap[g]? = some (.cells (List.toArray L') 33 (0, 0)) ∧ L'.length = c * 2 ∧ L'.take ((i + m + (n - j)) * 2) = xs.take (i * 2) ++ ys ++ xs.drop (j * 2) ∧ Upd (fun k => k = g) w w' := by
  have hi1 : ((i : Int) == (j : Int)) = false := by simp; omega
  have hj1 : ((j : Int) == (n : Int)) = false := by simp; omega
  obtain ⟨ad0, -, hr0⟩ : ∃ ad', True ∧ ∀ W, (Instr.sliceAt 30 (.slice (some ⟨g, 0, none⟩) n c) (some (.int .i64 i)) (some (.int .i64 j)) none).run Try.prog W = .ok (.slice ad' (j - i) (c - i)) W :=
    ⟨_, trivial, fun W => run_slice_rd 30 33 Try.underlying30 2 elem_rng.size _ n c i j (by omega) (by omega) .i64 .i64⟩
  have hr1 := cut_to (P := Try.prog) 30 33 Try.underlying30 2 elem_rng.size g 0 n c i (by omega) .i64 (i : Int) rfl
  obtain ⟨adj, hadj, hr2⟩ := cut_from (P := Try.prog) 30 33 Try.underlying30 2 elem_rng.size g 0 n c j (by omega) .i64 (j : Int) rfl
  rw [Nat.zero_add] at hadj
  obtain rfl := hadj (by omega)
  clear hadj
  have hrt := cut_to (P := Try.prog) 30 33 Try.underlying30 2 elem_rng.size g 0 n c (i + m + (n - j)) (by omega) .i64 ((i : Int) + (m : Int) + ((n - j : Nat) : Int)) (by omega)
  obtain ⟨ad1, had1, hrf⟩ := cut_from (P := Try.prog) 30 33 Try.underlying30 2 elem_rng.size g 0 (i + m + (n - j)) c i (by omega) .i64 (i : Int) rfl
  rw [Nat.zero_add] at had1
  obtain rfl := had1 (by omega)
  clear had1
  obtain ⟨ad2, had2, hrg⟩ := cut_from (P := Try.prog) 30 33 Try.underlying30 2 elem_rng.size g 0 (i + m + (n - j)) c (i + m) (by omega) .i64 ((i : Int) + (m : Int)) (by omega)
  rw [Nat.zero_add] at had2
  obtain rfl := had2 (by omega)
  clear had2
  have f1 : IntKind.i64.wrap ((i : Int) + (m : Int)) = (i : Int) + (m : Int) := IntWalk.i64_in _ (by omega)
  have f2 : IntKind.i64.wrap ((i : Int) + (m : Int) + ((n - j : Nat) : Int)) = (i : Int) + (m : Int) + ((n - j : Nat) : Int) := IntWalk.i64_in _ (by omega)
  have f6 : (i : Int) + (m : Int) ≤ (j : Int) := by omega
  have f7 : (i : Int) + (m : Int) + ((n - j : Nat) : Int) ≤ (c : Int) := by omega
  obtain ⟨ad5, had5, hrh⟩ := cut_from (P := Try.prog) 30 33 Try.underlying30 2 elem_rng.size g 0 n c (i + m + (n - j)) (by omega) .i64 ((i : Int) + (m : Int) + ((n - j : Nat) : Int)) (by omega)
  rw [Nat.zero_add] at had5
  have HAD := hide had5
  have HY := hide hy
  have HX1 := hide hx1
  have HY1 := hide hy1
  have HG := hide hg
  have HL := hide hL
  have HT := hide hT
  have HF := hide hF
  clear hy hy1 hg hL hT hF hx1 had5
  go_enter Try.func75, Try.ntmps75
  go_wp2_with fail
  go_quiet (fail)
  have hUd : Upd (fun k => k = g) w (w.drewN nq) := (Upd.refl _ w).drewN _
  have hGd : (w.drewN nq).heap[g]? = some (.cells (List.toArray L) 33 (0, 0)) := HG.out
  have hyd : Rd F (w.drewN nq) ad m 2 ys := HY.out
  generalize w.drewN nq = wd at hUd hGd hyd
  have HYD := hide hyd
  clear hyd
  go_wp2_with (refine wpL_copy rfl _ _ _ rfl 33 Try.underlying30 2 elem_rng.size _ _ _ ad m cm rfl rfl ys HYD.out m (by omega) (fun u hu => HY1.out u (List.mem_of_mem_take hu)) g (i * 2) L 33 hGd (.inr rfl) (by rw [HL.out]; omega) ?_; intro w3 hL3 hU3)
  go_still_tail 9, (by kernel_rfl)
  change wpList _ _ _ _ _ w3.drew
  clear f1 f2 f6 f7 hr0 hr1 hr2 hrt hrf hrg
  have hyt : ys.take (m * 2) = ys := by rw [← HY.out.1, List.take_length]
  rw [hyt] at hL3
  have hll : (lay L (i * 2) ys).length = c * 2 := by rw [lay_length _ _ _ (by rw [HY.out.1, HL.out]; omega), HL.out]
  have hG3 : w3.drew.heap[g]? = some (.cells (lay L (i * 2) ys).toArray 33 (0, 0)) := hL3
  have hR3 := Rd.row hG3 (j * 2) (n - j) 2 (by rw [hll]; omega)
  have hk1 : ((lay L (i * 2) ys).drop (j * 2)).take ((n - j) * 2) = xs.drop (j * 2) := by
    rw [lay_drop _ _ _ _ (by rw [HL.out]; omega) (by rw [HY.out.1]; omega), ← HT.out, List.drop_take]; congr 1; omega
  rw [hk1] at hR3
  have hk2 : (xs.drop (j * 2)).length = (n - j) * 2 := hR3.1
  have hk3 : (xs.drop (j * 2)).take ((n - j) * 2) = xs.drop (j * 2) := by rw [← hk2, List.take_length]
  have hl4 : (lay (lay L (i * 2) ys) ((i + m) * 2) (xs.drop (j * 2))).length = c * 2 := by rw [lay_length _ _ _ (by rw [hll, hk2]; omega), hll]
  have hU4 : Upd (fun k => k = g) w w3.drew := (hUd.trans hU3).drew
  have HK := hide (And.intro hk1 (And.intro hk2 (And.intro hk3 (And.intro hll (And.intro hyt hl4)))))
  clear hk1 hk2 hk3 hll hyt hl4 hL3 hU3
  generalize w3.drew = w4 at hR3 hG3 hU4
  go_wp2_with (first | (refine wpL_copy rfl _ _ _ rfl 33 Try.underlying30 2 elem_rng.size _ _ _ _ (n - j) (c - j) rfl rfl (xs.drop (j * 2)) hR3 (n - j) (by omega) (fun u hu => HX1.out u (List.mem_of_mem_drop (List.mem_of_mem_take hu))) g ((i + m) * 2) _ 33 hG3 (.inr rfl) (by rw [HK.out.2.2.2.1]; omega) ?_; intro w5 hL5 hU5; rw [HK.out.2.2.1] at hL5) | (refine wpL_clear rfl _ _ rfl 33 _ 2 16 Try.underlying30 elem_rng rng_cells _ (n - (i + m + (n - j))) _ rfl g ((i + m + (n - j)) * 2) _ 33 hL5 (by by_cases hz : i + m + (n - j) < c; exact .inr (HAD.out hz); exact .inl (by omega)) (by rw [HK.out.2.2.2.2.2]; omega) ?_; intro w6 hG6 hU6))
  go_ret
  obtain ⟨hk1, hk2, hk3, hll, hyt, hl4⟩ := HK.out
  have hzl := zeros_length (elem_rng) (n - (i + m + (n - j)))
  refine ⟨rfl, _, hG6, by rw [lay_length, hl4]; rw [hzl, hl4]; omega, ?_, (hU4.trans hU5).trans hU6⟩
  rw [lay_take_le _ _ _ _ (by rw [hl4]; omega) (Nat.le_refl _)]
  have h2 := lay_two L (xs.take (i * 2)) ys (xs.drop (j * 2)) (i * 2) ?_ ?_ ?_
  · rw [hk2, HY.out.1] at h2
    rw [show (i + m + (n - j)) * 2 = i * 2 + m * 2 + (n - j) * 2 by omega, show (i + m) * 2 = i * 2 + m * 2 by omega]
    exact h2
  · rw [← HT.out, List.take_take]; congr 1; omega
  · rw [List.length_take, ← HT.out, List.length_take, HL.out]; omega
  · rw [hk2, HY.out.1, HL.out]; omega
end Go.Proofs.Ytjjiemicacbmaaa
