/- Contract: slices.Replace at ranges: no room. -/
import Derived.Test.YtjjiemicacbmaaaRg7
namespace Go.Proofs.Ytjjiemicacbmaaa
open Go.RowKit Go.Shelf

set_option maxHeartbeats 4000000 in
set_option maxRecDepth 20000 in
theorem replace_grow (g n c i j m cm : Nat) (ad : Option Addr) (L xs ys : List Value) (F : Nat → Prop) (w : World) (hg : w.heap[g]? = some (.cells L.toArray 33 (0, 0))) (hL : L.length = c * 2) (hT : L.take (n * 2) = xs)
    (hy : Rd F w ad m 2 ys) (hF : ∀ b, F b → b < w.heap.size) (hi : i < j) (hj : j < n) (hnc : n ≤ c) (hc : c ≤ 9223372036854775807) (hgr : c < i + m + (n - j)) (hb : (n + m) * 16 ≤ 140737488355328)
    (hx1 : ∀ u ∈ xs, u.oneCell' = true) (hy1 : ∀ u ∈ ys, u.oneCell' = true) :
    Calls Try.prog 75 #[.slice (some ⟨g, 0, none⟩) n c, .int .i64 i, .int .i64 j, .slice ad m cm] w fun e w' => ∃ a' c', e = .returned (.slice a' (i + m + (n - j)) c') ∧
      w'.ownsRow 0 33 2 (.slice a' (i + m + (n - j)) c') (i + m + (n - j)) (xs.take (i * 2) ++ ys ++ xs.drop (j * 2)) ∧ Upd none_ w w' ∧ Fresh w (Value.slice a' (i + m + (n - j)) c').ownBlock := by
  have hi1 : ((i : Int) == (j : Int)) = false := by simp; omega
  have hj1 : ((j : Int) == (n : Int)) = false := by simp; omega
  obtain ⟨ad0, -, hr0⟩ : ∃ ad', True ∧ ∀ W, (Instr.sliceAt 30 (.slice (some ⟨g, 0, none⟩) n c) (some (.int .i64 i)) (some (.int .i64 j)) none).run Try.prog W = .ok (.slice ad' (j - i) (c - i)) W :=
    ⟨_, trivial, fun W => run_slice_rd 30 33 Try.underlying30 2 elem_rng.size _ n c i j (by omega) (by omega) .i64 .i64⟩
  have hr1 := cut_to (P := Try.prog) 30 33 Try.underlying30 2 elem_rng.size g 0 n c i (by omega) .i64 (i : Int) rfl
  obtain ⟨adj, hadj, hr2⟩ := cut_from (P := Try.prog) 30 33 Try.underlying30 2 elem_rng.size g 0 n c j (by omega) .i64 (j : Int) rfl
  rw [Nat.zero_add] at hadj
  obtain rfl := hadj (by omega)
  clear hadj
  have hown : w.ownsRow 0 33 2 (.slice (some ⟨g, 0, none⟩) i c) i (xs.take (i * 2)) := own_mk 0 (Nat.zero_le _) (by omega) (by show c ≤ 9223372036854775807; exact hc) hg hL (by rw [← hT, List.take_take]; congr 1; omega)
  have f1 : IntKind.i64.wrap ((i : Int) + (m : Int)) = (i : Int) + (m : Int) := IntWalk.i64_in _ (by omega)
  have f2 : IntKind.i64.wrap ((i : Int) + (m : Int) + ((n - j : Nat) : Int)) = (i : Int) + (m : Int) + ((n - j : Nat) : Int) := IntWalk.i64_in _ (by omega)
  have HO := hide hown
  have HY := hide hy
  have HX1 := hide hx1
  have HY1 := hide hy1
  have HG := hide hg
  have HL := hide hL
  have HT := hide hT
  have HF := hide hF
  clear hown hy hy1 hg hL hT hF hx1
  go_enter Try.func75, Try.ntmps75
  go_wp2_with fail
  go_quiet (fail)
  have hUd : Upd none_ w (w.drewN nq) := (Upd.refl _ w).drewN _
  have hOd : (w.drewN nq).ownsRow 0 33 2 (.slice (some ⟨g, 0, none⟩) i c) i (xs.take (i * 2)) := HO.out
  have hGd : (w.drewN nq).heap[g]? = some (.cells (List.toArray L) 33 (0, 0)) := HG.out
  have hsd : (w.drewN nq).heap.size = w.heap.size := rfl
  have HOD := hide hOd
  clear hOd
  generalize w.drewN nq = wd at hUd HOD hGd hsd
  have HSD := hide hsd
  clear hsd
  go_wp2_with (first | (at_builtin; refine wpL_appz rfl _ _ _ _ rfl 0 33 _ 2 16 .i64 Try.underlying30 Try.underlying3 elem_rng rng_cells _ i (xs.take (i * 2)) rfl HOD.out _ (m + (n - j)) rfl (by omega) (by omega) (by omega) (by omega) ?_; intro v' w1 hown hu hmv hnil hgr; obtain ⟨hG, hU⟩ := (hgr _ _ rfl).1 (by omega); rw [HSD.out] at hG; obtain ⟨c2, L2, rfl, hnc2, hcm2, hb2, hG1, hLl, hLt⟩ := own_row hown hG; have HL2 := hide (And.intro hLl hLt); clear hown hu hmv hnil hgr hG hLt hLl) | (refine wpL_from rfl _ _ _ rfl 33 Try.underlying30 2 elem_rng.size w.heap.size 0 (i + (m + (n - j))) c2 rfl _ i rfl rfl (by omega) ?_; intro ad1 had1) | (refine wpL_copy rfl _ _ _ rfl 33 Try.underlying30 2 elem_rng.size _ _ _ ad m cm rfl rfl ys ((HY.out.upd hUd (fun _ _ => id)).upd hU (fun _ _ => id)) m (by omega) (fun u hu => HY1.out u (List.mem_of_mem_take hu)) w.heap.size (0 + i * 2) L2 33 hG1 (.inr (had1 (by omega))) (by rw [HL2.out.1]; omega) ?_; intro w3 hL3 hU3))
  have f4 : IntKind.i64.wrap ((i : Int) + (m : Int)) = (i : Int) + (m : Int) := IntWalk.i64_in _ (by omega)
  obtain ⟨ad2, had2, hr3⟩ := cut_from (P := Try.prog) 30 33 Try.underlying30 2 elem_rng.size w.heap.size 0 (i + (m + (n - j))) c2 (i + m) (by omega) .i64 ((i : Int) + (m : Int)) (by omega)
  rw [Nat.zero_add] at had2
  obtain rfl := had2 (by omega)
  go_still_tail 9, (by kernel_rfl)
  clear f1 f2 f4 hr0 hr1 hr2 hr3 had1 had2
  change wpList _ _ _ _ _ w3.drew
  have hgl : g < w.heap.size := lt_of_block HG.out
  have hG3 := (hU3.drew).heap ((hU).heap hGd id) (by omega)
  have hR3 := Rd.row hG3 (j * 2) (n - j) 2 (by rw [HL.out]; omega)
  have hk1 : (L.drop (j * 2)).take ((n - j) * 2) = xs.drop (j * 2) := by rw [← HT.out, List.drop_take]; congr 1; omega
  rw [hk1] at hR3
  have hk2 : (xs.drop (j * 2)).length = (n - j) * 2 := hR3.1
  have hk3 : (xs.drop (j * 2)).take ((n - j) * 2) = xs.drop (j * 2) := by rw [← hk2, List.take_length]
  have hyt : ys.take (m * 2) = ys := by rw [← HY.out.1, List.take_length]
  rw [hyt, Nat.zero_add] at hL3
  have hll : (lay L2 (i * 2) ys).length = c2 * 2 := by rw [lay_length _ _ _ (by rw [HY.out.1, HL2.out.1]; omega), HL2.out.1]
  have hL4 : w3.drew.heap[w.heap.size]? = some (.cells (lay L2 (i * 2) ys).toArray 33 (0, 0)) := hL3
  have hU4 : Upd (fun k => k = w.heap.size) w w3.drew := (Upd.trans' (S := fun k => k = w.heap.size) ((hUd.trans hU).mono (fun _ _ h => h.elim)) hU3 (fun _ _ => id)).drew
  have HK := hide (And.intro hk1 (And.intro hk2 (And.intro hk3 (And.intro hll hyt))))
  clear hk1 hk2 hk3 hll hyt hL3 hU3
  generalize w3.drew = w4 at hR3 hL4 hU4
  go_wp2_with (refine wpL_copy rfl _ _ _ rfl 33 Try.underlying30 2 elem_rng.size _ _ _ _ (n - j) (c - j) rfl rfl (xs.drop (j * 2)) hR3 (n - j) (by omega) (fun u hu => HX1.out u (List.mem_of_mem_drop (List.mem_of_mem_take hu))) w.heap.size ((i + m) * 2) _ 33 hL4 (.inr rfl) (by rw [HK.out.2.2.2.1]; omega) ?_; intro w5 hL5 hU5)
  go_ret
  obtain ⟨hk1, hk2, hk3, hll, hyt⟩ := HK.out
  rw [hk3] at hL5
  have e1 : i + (m + (n - j)) = i + m + (n - j) := by omega
  rw [e1] at hnc2
  refine ⟨some ⟨w.heap.size, 0, none⟩, c2, by show Ending.returned (.slice (some ⟨w.heap.size, 0, none⟩) (i + (m + (n - j))) c2) = _; rw [e1], own_mk 0 (Nat.zero_le _) hnc2 hcm2 hL5 ?_ ?_, Upd.trans' (S := none_) (hU4.mono (fun k hk e => by omega)) hU5 (fun k hk e => by omega), fun g' e => by have e2 : some w.heap.size = some g' := e; injection e2 with e3; omega⟩
  · rw [lay_length, hll]; rw [hll, hk2]; omega
  · have h2 := lay_two L2 (xs.take (i * 2)) ys (xs.drop (j * 2)) (i * 2) ?_ ?_ ?_
    · rw [hk2, HY.out.1] at h2
      rw [show (i + m + (n - j)) * 2 = i * 2 + m * 2 + (n - j) * 2 by omega, show (i + m) * 2 = i * 2 + m * 2 by omega]
      exact h2
    · have h3 := congrArg (List.take (i * 2)) HL2.out.2
      rw [List.take_take, Nat.min_eq_left (by omega)] at h3
      rw [h3]
      have h4 : (xs.take (i * 2)).length = i * 2 := by rw [List.length_take, ← HT.out, List.length_take, HL.out]; omega
      generalize xs.take (i * 2) = p at h4 ⊢
      rw [← h4]; exact List.take_left
    · rw [List.length_take, ← HT.out, List.length_take, HL.out]; omega
    · rw [hk2, HY.out.1, HL2.out.1]; omega
end Go.Proofs.Ytjjiemicacbmaaa
