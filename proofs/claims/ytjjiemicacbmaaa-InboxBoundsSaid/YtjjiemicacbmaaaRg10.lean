/- Contract: slices.Replace at ranges: there is room, and what is laid is longer; the whole. -/
import Derived.Test.YtjjiemicacbmaaaRg9
namespace Go.Proofs.Ytjjiemicacbmaaa
open Go.RowKit Go.Shelf

set_option maxHeartbeats 4000000 in
set_option maxRecDepth 20000 in
theorem replace_wide (g n c i j m cm gv : Nat) (L LV xs ys : List Value) (T : TypeId) (w : World) (hg : w.heap[g]? = some (.cells L.toArray 33 (0, 0))) (hL : L.length = c * 2) (hT : L.take (n * 2) = xs)
    (hv : w.heap[gv]? = some (.cells LV.toArray T (0, 0))) (hLV : LV.take (m * 2) = ys) (hcm : m * 2 ≤ LV.length) (hne : gv ≠ g) (hi : i < j) (hj : j < n) (hnc : n ≤ c) (hc : c ≤ 9223372036854775807) (hgr : i + m + (n - j) ≤ c) (hfit : j < i + m)
    (hx1 : ∀ u ∈ xs, u.oneCell' = true) (hy1 : ∀ u ∈ ys, u.oneCell' = true) :
    Calls Try.prog 75 #[.slice (some ⟨g, 0, none⟩) n c, .int .i64 i, .int .i64 j, .slice (some ⟨gv, 0, none⟩) m cm] w fun e w' => e = .returned (.slice (some ⟨g, 0, none⟩) (i + m + (n - j)) c) ∧
      ∃ L', w'.heap[g]? = some (.cells (List.toArray L') 33 (0, 0)) ∧ L'.length = c * 2 ∧ L'.take ((i + m + (n - j)) * 2) = xs.take (i * 2) ++ ys ++ xs.drop (j * 2) ∧ Upd (fun k => k = g) w w' := by
  have hb : True := trivial
  have hi1 : ((i : Int) == (j : Int)) = false := by simp; omega
  have hj1 : ((j : Int) == (n : Int)) = false := by simp; omega
  obtain ⟨ad0, -, hr0⟩ : ∃ ad', True ∧ ∀ W, (Instr.sliceAt 30 (.slice (some ⟨g, 0, none⟩) n c) (some (.int .i64 i)) (some (.int .i64 j)) none).run Try.prog W = .ok (.slice ad' (j - i) (c - i)) W :=
    ⟨_, trivial, fun W => run_slice_rd 30 33 Try.underlying30 2 elem_rng.size _ n c i j (by omega) (by omega) .i64 .i64⟩
  have hr1 := cut_to (P := Try.prog) 30 33 Try.underlying30 2 elem_rng.size g 0 n c i (by omega) .i64 (i : Int) rfl
  obtain ⟨adj, hadj, hr2⟩ := cut_from (P := Try.prog) 30 33 Try.underlying30 2 elem_rng.size g 0 n c j (by omega) .i64 (j : Int) rfl
  rw [Nat.zero_add] at hadj
  obtain rfl := hadj (by omega)
  clear hadj
  have hrt := cut_to (P := Try.prog) 30 33 Try.underlying30 2 elem_rng.size g 0 n c (i + m + (n - j)) (by omega) .i64 ((i : Int) + (m : Int) + ((n - j : Nat) : Int)) (by omega)
  obtain ⟨ad1, had1, hrf⟩ := cut_from (P := Try.prog) 30 33 Try.underlying30 2 elem_rng.size g 0 (i + m + (n - j)) c i (by omega) .i64 (i : Int) rfl
  rw [Nat.zero_add] at had1
  obtain rfl := had1 (by omega)
  clear had1
  obtain ⟨ad2, had2, hrg⟩ := cut_from (P := Try.prog) 30 33 Try.underlying30 2 elem_rng.size g 0 (i + m + (n - j)) c (i + m) (by omega) .i64 ((i : Int) + (m : Int)) (by omega)
  rw [Nat.zero_add] at had2
  obtain rfl := had2 (by omega)
  clear had2
  have f1 : IntKind.i64.wrap ((i : Int) + (m : Int)) = (i : Int) + (m : Int) := IntWalk.i64_in _ (by omega)
  have f2 : IntKind.i64.wrap ((i : Int) + (m : Int) + ((n - j : Nat) : Int)) = (i : Int) + (m : Int) + ((n - j : Nat) : Int) := IntWalk.i64_in _ (by omega)
  have f6 : (j : Int) < (i : Int) + (m : Int) := by omega
  have f7 : (i : Int) + (m : Int) + ((n - j : Nat) : Int) ≤ (c : Int) := by omega
  have HG := hide hg
  have HV := hide hv
  have HX1 := hide hx1
  have HY1 := hide hy1
  have HL := hide hL
  have HT := hide hT
  have HLV := hide hLV
  have HNE := hide hne
  have HCM := hide hcm
  clear hy1 hg hL hT hx1 hv hLV hcm hne hb
  go_enter Try.func75, Try.ntmps75
  go_wp2_with fail
  go_quiet (fail)
  have hUd : Upd (fun k => k = g) w (w.drewN nq) := (Upd.refl _ w).drewN _
  have hGd : (w.drewN nq).heap[g]? = some (.cells (List.toArray L) 33 (0, 0)) := HG.out
  have hVd : (w.drewN nq).heap[gv]? = some (.cells (List.toArray LV) T (0, 0)) := HV.out
  generalize w.drewN nq = wd at hUd hGd hVd
  have hov := run_ov wd g gv ((i + m) * 2) 0 (n - j) (c - (i + m)) m cm L LV _ _ hGd hVd (fun e => HNE.out e.symm) (by have := HCM.out; omega)
  go_wp2_with fail
  go_still_tail 9, (by kernel_rfl)
  change wpList _ _ _ _ _ wd.drew
  clear f1 f2 f6 f7 hr0 hr1 hr2 hrt hrf hrg hov
  have hR := Rd.row (show wd.drew.heap[g]? = some (.cells (List.toArray L) 33 (0, 0)) from hGd) (j * 2) (n - j) 2 (by rw [HL.out]; omega)
  have hk1 : (L.drop (j * 2)).take ((n - j) * 2) = xs.drop (j * 2) := by rw [← HT.out, List.drop_take]; congr 1; omega
  rw [hk1] at hR
  have hk2 : (xs.drop (j * 2)).length = (n - j) * 2 := hR.1
  have hk3 : (xs.drop (j * 2)).take ((n - j) * 2) = xs.drop (j * 2) := by rw [← hk2, List.take_length]
  have hl3 : (lay L ((i + m) * 2) (xs.drop (j * 2))).length = c * 2 := by rw [lay_length _ _ _ (by rw [HL.out, hk2]; omega), HL.out]
  have hGd2 : wd.drew.heap[g]? = some (.cells (List.toArray L) 33 (0, 0)) := hGd
  have hVd2 : wd.drew.heap[gv]? = some (.cells (List.toArray LV) T (0, 0)) := hVd
  have hUd2 : Upd (fun k => k = g) w wd.drew := hUd.drew
  have HK := hide (And.intro hk1 (And.intro hk2 (And.intro hk3 hl3)))
  clear hk1 hk2 hk3 hl3 hGd hVd hUd
  generalize wd.drew = w2 at hR hGd2 hVd2 hUd2
  refine wpL_copy rfl _ _ _ rfl 33 Try.underlying30 2 elem_rng.size _ _ _ _ (n - j) _ rfl rfl _ hR (n - j) (by omega) (fun u hu => HX1.out u (List.mem_of_mem_drop (List.mem_of_mem_take hu))) g ((i + m) * 2) L 33 hGd2 (.inr rfl) (by rw [HL.out]; omega) ?_
  intro w3 hG3 hU3
  rw [HK.out.2.2.1] at hG3
  have hV3 := hU3.heap hVd2 HNE.out
  have hRv := (Rd.row hV3 0 m 2 (by have := HCM.out; omega))
  rw [List.drop_zero, HLV.out] at hRv
  have hyl : ys.length = m * 2 := hRv.1
  have hyt : ys.take (m * 2) = ys := by rw [← hyl, List.take_length]
  have HK2 := hide (And.intro hyl hyt)
  clear hyl hyt
  obtain ⟨ad1, had1, hrf⟩ := cut_from (P := Try.prog) 30 33 Try.underlying30 2 elem_rng.size g 0 (i + m + (n - j)) c i (by omega) .i64 (i : Int) rfl
  rw [Nat.zero_add] at had1
  obtain rfl := had1 (by omega)
  clear had1
  go_wp2_with (refine wpL_copy rfl _ _ _ rfl 33 Try.underlying30 2 elem_rng.size _ _ _ _ m _ rfl rfl _ hRv m (by omega) (by rw [HK2.out.2]; exact HY1.out) g (i * 2) _ 33 hG3 (.inr rfl) (by rw [HK.out.2.2.2]; omega) ?_; intro w4 hG4 hU4)
  go_ret
  obtain ⟨hk1, hk2, hk3, hl3⟩ := HK.out
  obtain ⟨hyl, hyt⟩ := HK2.out
  rw [hyt] at hG4
  refine ⟨rfl, _, hG4, by rw [lay_length, hl3]; rw [hyl, hl3]; omega, ?_, (hUd2.trans hU3).trans hU4⟩
  have e1 : (lay L ((i + m) * 2) (xs.drop (j * 2))).take (i * 2) = xs.take (i * 2) := by
    rw [lay_take_le _ _ _ _ (by rw [HL.out]; omega) (by omega), ← HT.out, List.take_take]; congr 1; omega
  have e2 : (lay L ((i + m) * 2) (xs.drop (j * 2))).drop (i * 2 + m * 2) = xs.drop (j * 2) ++ L.drop ((i + m) * 2 + (n - j) * 2) := by
    unfold lay
    rw [hk2, List.drop_append, List.length_take, HL.out, List.drop_eq_nil_of_le (by rw [List.length_take, HL.out]; omega)]
    rw [show i * 2 + m * 2 - min ((i + m) * 2) (c * 2) = 0 by omega]
    rfl
  have e5 := lay_take (lay L ((i + m) * 2) (xs.drop (j * 2))) ys (i * 2) ((n - j) * 2) (by rw [hl3]; omega)
  rw [hyl, e1, e2] at e5
  rw [show (i + m + (n - j)) * 2 = i * 2 + m * 2 + (n - j) * 2 by omega, e5]
  congr 1
  rw [← hk2]; exact List.take_left

set_option maxHeartbeats 4000000 in
set_option maxRecDepth 20000 in
theorem replace_same (a : Option Addr) (n c i : Nat) (xs : List Value) (ad : Option Addr) (m cm : Nat) (ys : List Value) (w : World)
    (hv : w.ownsRow 0 33 2 (.slice a n c) n xs) (hi : i ≤ n) (hys : w.ownsRow 0 33 2 (.slice ad m cm) m ys) (hx1 : ∀ u ∈ xs, u.oneCell' = true) (hy1 : ∀ u ∈ ys, u.oneCell' = true)
    (hne : ∀ b, (Value.slice a n c).ownBlock = some b → (Value.slice ad m cm).ownBlock ≠ some b) (hb : (n + m) * 16 ≤ 140737488355328) :
    Calls Try.prog 75 #[.slice a n c, .int .i64 i, .int .i64 i, .slice ad m cm] w fun e w' => ∃ a' c', e = .returned (.slice a' (n + m) c') ∧
      w'.ownsRow 0 33 2 (.slice a' (n + m) c') (n + m) (xs.take (i * 2) ++ ys ++ xs.drop (i * 2)) ∧ Upd (fun k => (Value.slice a n c).ownBlock = some k) w w' ∧
      ((Value.slice a' (n + m) c').ownBlock = (Value.slice a n c).ownBlock ∨ Fresh w (Value.slice a' (n + m) c').ownBlock) := by
  have hins := insert_any 0 a n c i xs ad m cm ys w hv hi hys hx1 hy1 hne hb (Nat.zero_le _)
  obtain ⟨hnc, -⟩ := rd_own' hv
  obtain ⟨ad0, hr0⟩ : ∃ ad', ∀ W, (Instr.sliceAt 30 (.slice a n c) (some (.int .i64 i)) (some (.int .i64 i)) none).run Try.prog W = .ok (.slice ad' (i - i) (c - i)) W :=
    ⟨_, fun W => run_slice_rd 30 33 Try.underlying30 2 elem_rng.size _ n c i i (by omega) (by omega) .i64 .i64⟩
  clear hv hys hx1 hy1 hne
  go_enter Try.func75, Try.ntmps75
  go_wp2_with (go_at_call 92; refine hins.mono ?_; rintro e w' ⟨a', c', rfl, h1, h2, h3⟩)
  go_ret
  exact ⟨a', c', rfl, h1, h2, h3⟩

/-- slices.Replace, the whole. -/
theorem replace_any (a : Option Addr) (n c i j : Nat) (xs : List Value) (ad : Option Addr) (m cm : Nat) (ys : List Value) (w : World)
    (hv : w.ownsRow 0 33 2 (.slice a n c) n xs) (hi : i ≤ j) (hj : j ≤ n) (hys : w.ownsRow 0 33 2 (.slice ad m cm) m ys) (hx1 : ∀ u ∈ xs, u.oneCell' = true) (hy1 : ∀ u ∈ ys, u.oneCell' = true)
    (hne : ∀ b, (Value.slice a n c).ownBlock = some b → (Value.slice ad m cm).ownBlock ≠ some b) (hb : (n + m) * 16 ≤ 140737488355328) :
    Calls Try.prog 75 #[.slice a n c, .int .i64 i, .int .i64 j, .slice ad m cm] w fun e w' => ∃ a' c', e = .returned (.slice a' (i + m + (n - j)) c') ∧
      w'.ownsRow 0 33 2 (.slice a' (i + m + (n - j)) c') (i + m + (n - j)) (xs.take (i * 2) ++ ys ++ xs.drop (j * 2)) ∧ Upd (fun k => (Value.slice a n c).ownBlock = some k) w w' ∧
      ((Value.slice a' (i + m + (n - j)) c').ownBlock = (Value.slice a n c).ownBlock ∨ Fresh w (Value.slice a' (i + m + (n - j)) c').ownBlock) := by
  by_cases hij : i = j
  · subst hij
    rw [show i + m + (n - i) = n + m by omega]
    exact replace_same a n c i xs ad m cm ys w hv hj hys hx1 hy1 hne hb
  · have hys' := hys
    obtain ⟨hmcap, hry⟩ := rd_own' hys
    rcases hv.2 with ⟨_, h0⟩ | ⟨g, cap, cur, he, hbg, hg, hnc, hcm, hcs, htake⟩
    · omega
    injection he with e1 _ e3
    subst e1 e3
    have hml : maxLen = 9223372036854775807 := rfl
    have hg' : w.heap[g]? = some (.cells (List.toArray cur.toList) 33 (0, 0)) := by simpa using hg
    have hcl : cur.toList.length = c * 2 := by simpa using hcs
    have hF1 : ∀ b, (Value.slice ad m cm).ownBlock = some b → b ≠ g := fun b hb2 e => hne g rfl (by rw [← e]; exact hb2)
    have hF2 : ∀ b, (Value.slice ad m cm).ownBlock = some b → b < w.heap.size := own_lt hys
    by_cases hjn : j = n
    · subst hjn
      rw [show i + m + (j - j) = i + m by omega]
      have hx : xs.drop (j * 2) = [] := by rw [← hv.1, List.drop_length]
      rw [hx, List.append_nil]
      refine (replace_end g j c i m cm ad cur.toList xs ys _ w hg' hcl htake hry hF1 (by omega) hnc (by omega) hb hy1).mono ?_
      rintro e w' ⟨a', c', rfl, h1, h2, h3⟩
      exact ⟨a', c', rfl, h1, h2.mono (fun k _ e => by rw [e]; rfl), h3⟩
    · by_cases hroom : i + m + (n - j) ≤ c
      · by_cases hfit : i + m ≤ j
        · refine (replace_fit g n c i j m cm ad cur.toList xs ys _ w hg' hcl htake hry hF1 (by omega) (by omega) hnc (by omega) hroom hfit hb hx1 hy1).mono ?_
          rintro e w' ⟨rfl, L', h1, h2, h3, h4⟩
          exact ⟨_, c, rfl, own_mk 0 (Nat.zero_le _) hroom hcm h1 h2 h3, h4.mono (fun k _ e => by rw [e]; rfl), .inl rfl⟩
        · obtain ⟨gv, hgv⟩ : ∃ gv, (Value.slice ad m cm).ownBlock = some gv := by
            rcases hys.2 with ⟨_, h0⟩ | ⟨gv, _, _, he2, _⟩
            · omega
            · exact ⟨gv, by rw [he2]; rfl⟩
          obtain ⟨cv, LV, he2, hmc, -, -, hLV, hLVl, hLVt⟩ := own_row hys hgv
          injection he2 with e1 _ e3
          subst e1 e3
          refine (replace_wide g n c i j m cm gv cur.toList LV xs ys _ w hg' hcl htake hLV hLVt (by rw [hLVl]; omega) (hF1 gv rfl) (by omega) (by omega) hnc (by omega) hroom (by omega) hx1 hy1).mono ?_
          rintro e w' ⟨rfl, L', h1, h2, h3, h4⟩
          exact ⟨_, c, rfl, own_mk 0 (Nat.zero_le _) hroom hcm h1 h2 h3, h4.mono (fun k _ e => by rw [e]; rfl), .inl rfl⟩
      · refine (replace_grow g n c i j m cm ad cur.toList xs ys _ w hg' hcl htake hry hF2 (by omega) (by omega) hnc (by omega) (by omega) hb hx1 hy1).mono ?_
        rintro e w' ⟨a', c', rfl, h1, h2, h3⟩
        exact ⟨a', c', rfl, h1, h2.mono (fun k _ h => h.elim), .inr h3⟩
#print axioms replace_any
end Go.Proofs.Ytjjiemicacbmaaa
