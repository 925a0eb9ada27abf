/- Contract: slices.Insert at ranges. -/
import Derived.Test.YtjjiemicacbmaaaRg6a
namespace Go.Proofs.Ytjjiemicacbmaaa
open Go.RowKit Go.Shelf

theorem rng_cells : ∀ u ∈ (Value.agg #[.int .i64 0, .int .i64 0]).cells.toList, u.oneCell' = true := by
  intro u hu; simp [Value.cells] at hu; subst hu; rfl

set_option maxHeartbeats 2000000 in
set_option maxRecDepth 20000 in
theorem insert_any (base : Nat) (a : Option Addr) (n c i : Nat) (xs : List Value) (ad : Option Addr) (m cm : Nat) (ys : List Value) (w : World)
    (hv : w.ownsRow base 33 2 (.slice a n c) n xs) (hi : i ≤ n) (hys : w.ownsRow 0 33 2 (.slice ad m cm) m ys) (hx1 : ∀ u ∈ xs, u.oneCell' = true) (hy1 : ∀ u ∈ ys, u.oneCell' = true)
    (hne : ∀ b, (Value.slice a n c).ownBlock = some b → (Value.slice ad m cm).ownBlock ≠ some b) (hb : (n + m) * 16 ≤ 140737488355328) (hbase : base ≤ w.heap.size) :
    Calls Try.prog 92 #[.slice a n c, .int .i64 i, .slice ad m cm] w fun e w' => ∃ a' c', e = .returned (.slice a' (n + m) c') ∧
      w'.ownsRow base 33 2 (.slice a' (n + m) c') (n + m) (xs.take (i * 2) ++ ys ++ xs.drop (i * 2)) ∧ Upd (fun k => (Value.slice a n c).ownBlock = some k) w w' ∧
      ((Value.slice a' (n + m) c').ownBlock = (Value.slice a n c).ownBlock ∨ Fresh w (Value.slice a' (n + m) c').ownBlock) := by
  obtain ⟨hncap, hrv⟩ := rd_own' hv
  obtain ⟨hmcap, hry⟩ := rd_own' hys
  by_cases hm0 : m = 0
  · subst hm0
    obtain rfl : ys = [] := List.eq_nil_of_length_eq_zero (by simpa using hys.1)
    have hV := hide hv
    clear hv hys hry hrv hne hx1 hy1
    cases a with
    | none =>
      obtain ⟨rfl, rfl⟩ : n = 0 ∧ c = 0 := by
        rcases hV.out.2 with ⟨h, _⟩ | ⟨g, cap, cur, h, _⟩
        · injection h with h1 h2 h3; exact ⟨h2, h3⟩
        · injection h with h1; cases h1
      obtain rfl : i = 0 := by omega
      go_enter Try.func92, Try.ntmps92
      go_wp2
      go_ret
      exact ⟨none, 0, rfl, by simpa using hV.out, Upd.refl _ _, .inl rfl⟩
    | some ad0 =>
      obtain ⟨g, rfl⟩ : ∃ g, ad0 = ⟨g, 0, none⟩ := by
        rcases hV.out.2 with ⟨h, _⟩ | ⟨g, cap, cur, h, _⟩
        · injection h with h1; cases h1
        · injection h with h1; exact ⟨g, by injection h1⟩
      go_enter Try.func92, Try.ntmps92
      go_wp2_with (refine wpL_from rfl _ _ _ rfl 33 Try.underlying30 2 elem_rng.size g 0 n c rfl _ i rfl rfl hi ?_; intro _ _)
      go_ret
      exact ⟨_, c, rfl, by simpa using hV.out, Upd.refl _ _, .inl rfl⟩
  · by_cases hin : i = n
    · subst hin
      have hm1 : ((m : Int) == 0) = false := by simp; omega
      have hV := hide hv
      have HY := hide hry
      have HY1 := hide hy1
      have hx : xs.take (i * 2) = xs := by rw [← hv.1, List.take_length]
      have hx' : xs.drop (i * 2) = [] := by rw [← hv.1, List.drop_length]
      rw [hx, hx']
      clear hv hys hry hrv hne hx1 hy1 hx hx' hm0
      cases a with
      | none =>
        obtain ⟨rfl, rfl⟩ : i = 0 ∧ c = 0 := by
          rcases hV.out.2 with ⟨h, _⟩ | ⟨g, cap, cur, h, _⟩
          · injection h with h1 h2 h3; exact ⟨h2, h3⟩
          · injection h with h1; cases h1
        go_enter Try.func92, Try.ntmps92
        go_wp2_with (at_builtin; refine wpL_app rfl _ _ _ rfl base 33 _ 2 16 Try.underlying30 elem_rng _ _ xs rfl hV.out ad m cm ys rfl HY.out HY1.out hb (by omega) hbase ?_; intro v' w' hown hu hmv _ _)
        go_ret
        obtain ⟨a', c', rfl⟩ := own_shape hown
        exact ⟨a', c', rfl, by simpa using hown, hu, hmv.imp id (fun h g hg => by rw [h] at hg; injection hg with e; omega)⟩
      | some ad0 =>
        obtain ⟨g, rfl⟩ : ∃ g, ad0 = ⟨g, 0, none⟩ := by
          rcases hV.out.2 with ⟨h, _⟩ | ⟨g, cap, cur, h, _⟩
          · injection h with h1; cases h1
          · injection h with h1; exact ⟨g, by injection h1⟩
        go_enter Try.func92, Try.ntmps92
        go_wp2_with (first | (at_builtin; refine wpL_app rfl _ _ _ rfl base 33 _ 2 16 Try.underlying30 elem_rng _ _ xs rfl hV.out ad m cm ys rfl HY.out HY1.out hb (by omega) hbase ?_; intro v' w' hown hu hmv _ _) | (refine wpL_from rfl _ _ _ rfl 33 Try.underlying30 2 elem_rng.size g 0 i c rfl _ i rfl rfl hi ?_; intro _ _))
        go_ret
        obtain ⟨a', c', rfl⟩ := own_shape hown
        exact ⟨a', c', rfl, by simpa using hown, hu, hmv.imp id (fun h g hg => by rw [h] at hg; injection hg with e; omega)⟩
    · have hlt : i < n := by omega
      have hm1 : ((m : Int) == 0) = false := by simp; omega
      have hi1 : ((i : Int) == (n : Int)) = false := by simp; omega
      rcases hv.2 with ⟨_, h0⟩ | ⟨g, cap, cur, he, hbg, hg, hnc, hcm, hcs, htake⟩
      · omega
      injection he with e1 _ e3
      subst e1 e3
      have hml : maxLen = 9223372036854775807 := rfl
      have hci : ¬ (c = i) := by omega
      by_cases hroom : n + m ≤ c
      · have hle : (n : Int) + (m : Int) ≤ (c : Int) := by omega
        obtain ⟨gv, hgv⟩ : ∃ gv, (Value.slice ad m cm).ownBlock = some gv := by
          rcases hys.2 with ⟨_, h0⟩ | ⟨gv, _, _, he, _⟩
          · omega
          · exact ⟨gv, by rw [he]; rfl⟩
        obtain ⟨cv, LV, he, hmc, -, -, hLV, hLVl, hLVt⟩ := own_row hys hgv
        injection he with e1 _ e3
        subst e1 e3
        have hgne : gv ≠ g := fun e => hne g rfl (by rw [← e]; exact hgv)
        have hg' : w.heap[g]? = some (.cells (List.toArray cur.toList) 33 (0, 0)) := by simpa using hg
        have hcl : cur.toList.length = c * 2 := by simpa using hcs
        refine (insert_room g n c i m cm gv cur.toList LV xs ys _ w hg' hcl htake hLV hLVt (by rw [hLVl]; omega) hgne hlt (by omega) hroom (by omega) hx1 hy1).mono ?_
        rintro e w' ⟨rfl, L', hg2, hl2, ht2, hu⟩
        exact ⟨_, _, rfl, own_mk base hbg hroom hcm hg2 hl2 ht2, hu.mono (fun k _ e => by rw [e]; rfl), .inl rfl⟩
      · have hgt : (c : Int) < (n : Int) + (m : Int) := by omega
        have HV := hide hv
        have HRV := hide hrv
        have HRY := hide hry
        have HX1 := hide hx1
        have HY1 := hide hy1
        clear hv hys hrv hry hne hx1 hy1 htake
        go_enter Try.func92, Try.ntmps92
        go_wp2_with (first | (refine wpL_to rfl _ _ _ rfl 33 Try.underlying30 2 elem_rng.size g 0 n c rfl _ i rfl rfl (by omega) ?_) | (refine wpL_from rfl _ _ _ rfl 33 Try.underlying30 2 elem_rng.size g 0 n c rfl _ i rfl rfl hi ?_; intro _ _) | (refine wpL_from rfl _ _ _ rfl 33 Try.underlying30 2 elem_rng.size w.heap.size 0 (i + (n + m - i)) c2 rfl _ i rfl rfl (by omega) ?_; intro ad1 had1) | (at_builtin; refine wpL_appz rfl _ _ _ _ rfl base 33 _ 2 16 .i64 Try.underlying30 Try.underlying3 elem_rng rng_cells _ i (xs.take (i * 2)) rfl (own_take HV.out i hi) _ (n + m - i) rfl (by omega) (by omega) (by omega) hbase ?_; intro v' w' hown hu hmv hnil hgr; obtain ⟨hG, hU⟩ := (hgr _ _ rfl).1 (by omega); obtain ⟨c2, L, rfl, hnc2, hcm2, hb2, hL, hLl, hLt⟩ := own_row hown hG; have HL := hide hLt; clear hown hu hmv hnil hgr hG hLt) | (refine wpL_copy rfl _ _ _ rfl 33 Try.underlying30 2 elem_rng.size _ _ _ ad m cm rfl rfl ys (HRY.out.upd hU (fun _ _ => id)) m (by omega) (fun u hu => HY1.out u (List.mem_of_mem_take hu)) w.heap.size (0 + i * 2) L 33 hL (.inr (had1 (by omega))) (by omega) ?_; intro w3 hL3 hU3))
        have f3 : IntKind.i64.wrap ((i : Int) + (m : Int)) = (i : Int) + (m : Int) := IntWalk.i64_in _ (by omega)
        obtain ⟨ad2, had2, hr2⟩ := cut_from (P := Try.prog) 30 33 Try.underlying30 2 elem_rng.size w.heap.size 0 (i + (n + m - i)) c2 (i + m) (by omega) .i64 ((i : Int) + (m : Int)) (by omega)
        obtain ⟨ad3, had3, hr3⟩ := cut_from (P := Try.prog) 30 33 Try.underlying30 2 elem_rng.size g 0 n c i hi .i64 (i : Int) rfl
        go_still_tail 8, (by kernel_rfl)
        clear f3 hr2 hr3
        change wpList _ _ _ _ _ w3.drew
        have hgl : g < w.heap.size := lt_of_block hg
        have hR3 : Rd (fun k => (Value.slice (some ⟨g, 0, none⟩) n c).ownBlock = some k) w3.drew ad3 (n - i) 2 (xs.drop (i * 2)) :=
          ((HRV.out.from i hi ad3 (fun h => had3 (by omega))).upd hU (fun _ _ => id)).upd hU3.drew (fun b e => by
            have e2 : some g = some b := e
            injection e2 with e3
            omega)
        have hd1 : ∀ u ∈ xs.drop (i * 2), u.oneCell' = true := fun u hu => HX1.out u (List.mem_of_mem_drop hu)
        have hyl : (ys.take (m * 2)) = ys := by rw [← HRY.out.1, List.take_length]
        have HYL := hide hyl
        have hL4 : w3.drew.heap[w.heap.size]? = some (.cells (lay L (0 + i * 2) ys).toArray 33 (0, 0)) := by rw [← hyl]; exact hL3
        have hll : (lay L (0 + i * 2) ys).length = c2 * 2 := by rw [lay_length _ _ _ (by rw [HRY.out.1]; omega), hLl]
        have hdl : ((xs.drop (i * 2)).take ((n - i) * 2)) = xs.drop (i * 2) := by rw [← hR3.1, List.take_length]
        have HDL := hide hdl
        clear hyl hdl hL3
        generalize hw4 : w3.drew = w4 at hR3 hL4
        have hU4 : Upd (fun k => k = w.heap.size) w w4 := by rw [← hw4]; exact (Upd.trans' (S := fun k => k = w.heap.size) (hU.mono (fun _ _ h => h.elim)) hU3 (fun _ _ => id)).drew
        clear hw4
        go_wp2_with (refine wpL_copy rfl _ _ _ rfl 33 Try.underlying30 2 elem_rng.size _ _ _ ad3 (n - i) (c - i) rfl rfl (xs.drop (i * 2)) hR3 (n - i) (by omega) (fun u hu => hd1 u (List.mem_of_mem_take hu)) w.heap.size (0 + (i + m) * 2) _ 33 hL4 (.inr (had2 (by omega))) (by rw [hll]; omega) ?_; intro w5 hL5 hU5)
        go_ret
        rw [HDL.out] at hL5
        have e1 : i + (n + m - i) = n + m := by omega
        rw [e1] at hnc2
        refine ⟨some ⟨w.heap.size, 0, none⟩, c2, by show Ending.returned (.slice (some ⟨w.heap.size, 0, none⟩) (i + (n + m - i)) c2) = _; rw [e1], own_mk base hb2 hnc2 hcm2 hL5 ?_ ?_, Upd.trans' (S := fun k => (Value.slice (some ⟨g, 0, none⟩) n c).ownBlock = some k) (hU4.mono (fun k hk e => by omega)) hU5 (fun k hk e => by omega), .inr (fun g' e => by have e2 : some w.heap.size = some g' := e; injection e2 with e3; omega)⟩
        · rw [lay_length, hll]; rw [hll, hR3.1]; omega
        · have h2 := lay_two L (xs.take (i * 2)) ys (xs.drop (i * 2)) (i * 2) ?_ ?_ ?_
          · rw [hR3.1, HRY.out.1] at h2
            rw [show (n + m) * 2 = i * 2 + m * 2 + (n - i) * 2 by omega, Nat.zero_add, show (0 + (i + m) * 2) = i * 2 + m * 2 by omega]
            exact h2
          · have := HL.out
            have h3 := congrArg (List.take (i * 2)) this
            rw [List.take_take, Nat.min_eq_left (by omega)] at h3
            rw [h3]
            have h4 : (xs.take (i * 2)).length = i * 2 := by rw [List.length_take, HRV.out.1]; omega
            generalize xs.take (i * 2) = p at h4 ⊢
            rw [← h4]; exact List.take_left
          · rw [List.length_take, HRV.out.1]; omega
          · rw [hR3.1, HRY.out.1, hLl]; omega
end Go.Proofs.Ytjjiemicacbmaaa
