/- Contract: slices.Replace at ranges: the end is replaced. -/
import Derived.Test.YtjjiemicacbmaaaRg6
namespace Go.Proofs.Ytjjiemicacbmaaa
open Go.RowKit Go.Shelf

set_option maxHeartbeats 4000000 in
set_option maxRecDepth 20000 in
theorem replace_end (g n c i m cm : Nat) (ad : Option Addr) (L xs ys : List Value) (F : Nat → Prop) (w : World) (hg : w.heap[g]? = some (.cells L.toArray 33 (0, 0))) (hL : L.length = c * 2) (hT : L.take (n * 2) = xs)
    (hy : Rd F w ad m 2 ys) (hF : ∀ b, F b → b ≠ g) (hi : i < n) (hnc : n ≤ c) (hc : c ≤ 9223372036854775807) (hb : (n + m) * 16 ≤ 140737488355328)
    (hy1 : ∀ u ∈ ys, u.oneCell' = true) :
    Calls Try.prog 75 #[.slice (some ⟨g, 0, none⟩) n c, .int .i64 i, .int .i64 n, .slice ad m cm] w fun e w' => ∃ a' c', e = .returned (.slice a' (i + m) c') ∧
      w'.ownsRow 0 33 2 (.slice a' (i + m) c') (i + m) (xs.take (i * 2) ++ ys) ∧ Upd (fun k => k = g) w w' ∧ ((Value.slice a' (i + m) c').ownBlock = some g ∨ Fresh w (Value.slice a' (i + m) c').ownBlock) := by
  have hi1 : ((i : Int) == (n : Int)) = false := by simp; omega
  obtain ⟨ad0, -, hr0⟩ : ∃ ad', True ∧ ∀ W, (Instr.sliceAt 30 (.slice (some ⟨g, 0, none⟩) n c) (some (.int .i64 i)) (some (.int .i64 n)) none).run Try.prog W = .ok (.slice ad' (n - i) (c - i)) W :=
    ⟨_, trivial, fun W => run_slice_rd 30 33 Try.underlying30 2 elem_rng.size _ n c i n (by omega) hnc .i64 .i64⟩
  have hr1 := cut_to (P := Try.prog) 30 33 Try.underlying30 2 elem_rng.size g 0 n c i (by omega) .i64 (i : Int) rfl
  have hown : w.ownsRow 0 33 2 (.slice (some ⟨g, 0, none⟩) i c) i (xs.take (i * 2)) := own_mk 0 (Nat.zero_le _) (by omega) (by show c ≤ 9223372036854775807; exact hc) hg hL (by rw [← hT, List.take_take]; congr 1; omega)
  have HO := hide hown
  have HY := hide hy
  have HY1 := hide hy1
  have HG := hide hg
  have HL := hide hL
  have HT := hide hT
  have HF := hide hF
  clear hown hy hy1 hg hL hT hF
  by_cases hlt : i + m < n
  · have hltz : (i : Int) + (m : Int) < (n : Int) := by omega
    obtain ⟨ad2, had2, hr2⟩ := cut_from (P := Try.prog) 30 33 Try.underlying30 2 elem_rng.size g 0 n c (i + m) (by omega) .i64 ((i : Int) + (m : Int)) (by omega)
    rw [Nat.zero_add] at had2
    obtain rfl := had2 (by omega)
    clear had2
    go_enter Try.func75, Try.ntmps75
    go_wp2_with (first | (at_builtin; refine wpL_app rfl _ _ _ rfl 0 33 _ 2 16 Try.underlying30 elem_rng _ i _ rfl HO.out ad m cm ys rfl HY.out HY1.out (by omega) (by omega) (Nat.zero_le _) ?_; intro v' w1 hown hu hmv _ hgr; obtain rfl := (hgr _ _ rfl).2 (by omega); obtain ⟨c1, L1, he1, -, hcm1, -, hG1, hL1, hT1⟩ := own_row (G := g) hown rfl; obtain rfl : c = c1 := (by injection he1); have HX := hide (And.intro hL1 (And.intro hT1 hcm1)); have HU := hide hu; clear hown hu hmv hgr he1 hL1 hT1 hcm1) | (refine wpL_clear rfl _ _ rfl 33 _ 2 16 Try.underlying30 elem_rng rng_cells _ (n - (i + m)) _ rfl g ((i + m) * 2) _ 33 hG1 (.inr rfl) (by rw [HX.out.1]; omega) ?_; intro w2 hG2 hU2))
    go_ret
    obtain ⟨hL1, hT1, hcm1⟩ := HX.out
    have hzl := zeros_length (elem_rng) (n - (i + m))
    refine ⟨_, c, rfl, own_mk 0 (Nat.zero_le _) (by omega) hcm1 hG2 ?_ ?_, ?_, .inl rfl⟩
    · rw [lay_length, hL1]; rw [hzl, hL1]; omega
    · rw [← hT1]; unfold lay
      rw [List.take_append_of_le_length (by rw [List.length_take, hL1]; omega), List.take_take, Nat.min_self]
    · exact Upd.trans (HU.out.mono (fun k _ e => by have e2 : some g = some k := e; injection e2 with e3; exact e3.symm)) hU2
  · have hge : (n : Int) ≤ (i : Int) + (m : Int) := by omega
    go_enter Try.func75, Try.ntmps75
    go_wp2_with (at_builtin; refine wpL_app rfl _ _ _ rfl 0 33 _ 2 16 Try.underlying30 elem_rng _ i _ rfl HO.out ad m cm ys rfl HY.out HY1.out (by omega) (by omega) (Nat.zero_le _) ?_; intro v' w1 hown hu hmv _ _; obtain ⟨a1, c1, rfl⟩ := own_shape hown; have HOW := hide hown; have HU := hide hu; have HM := hide hmv; clear hown hu hmv)
    go_ret
    exact ⟨_, _, rfl, HOW.out, HU.out.mono (fun k _ e => by have e2 : some g = some k := e; injection e2 with e3; exact e3.symm), HM.out.imp id (fun h g' hg' => by rw [h] at hg'; injection hg' with e3; omega)⟩
end Go.Proofs.Ytjjiemicacbmaaa
