/- Contract: slices.Insert at ranges, in place. -/
import Derived.Test.YtjjiemicacbmaaaRg5
import Derived.Test.YtjjiemicacbmaaaOwn2
import Derived.StillTailTactics
namespace Go.Proofs.Ytjjiemicacbmaaa
open Go.RowKit Go.Shelf

theorem size_rng (w : World) : (Go.sizeOf 33).run Try.prog w = .ok 2 w := by kernel_rfl

/-- slices.overlaps at two rows in two blocks: no. -/
theorem run_ov (w : World) (G1 G2 o1 o2 n1 c1 n2 c2 : Nat) (L1 L2 : List Value) (T1 T2 : TypeId) (h1 : w.heap[G1]? = some (.cells L1.toArray T1 (0, 0))) (h2 : w.heap[G2]? = some (.cells L2.toArray T2 (0, 0))) (hne : G1 ≠ G2) (hL : L2.length ≠ 0) :
    (callFunc 93 #[.slice (some ⟨G1, o1, none⟩) n1 c1, .slice (some ⟨G2, o2, none⟩) n2 c2]).run Try.prog w = .ok (.value (.bool false)) w := by
  rw [run_callFunc_extern Try.func93 (by kernel_rfl) (by kernel_rfl) (by kernel_rfl) (e := Extern.SlicesOverlaps.overlaps #[30, 30] #[4]) (by kernel_rfl),
    Lib.run_overlaps_apart w 30 4 33 Try.underlying30 2 size_rng ⟨G1, o1, none⟩ ⟨G2, o2, none⟩ n1 c1 n2 c2 hne T1 T2 L1.length L2.length (by simp [World.shape?, h1]) (by simp [World.shape?, h2]) hL (frozen_of_row w G1 o1 _ _ h1) (frozen_of_row w G1 L1.length _ _ h1)]
  rfl

theorem Rd.row {w : World} {g : Nat} {L : List Value} {T : TypeId} (hg : w.heap[g]? = some (.cells L.toArray T (0, 0))) (off n sz : Nat) (h : off + n * sz ≤ L.length) : Rd (fun k => k = g) w (some ⟨g, off, none⟩) n sz ((L.drop off).take (n * sz)) :=
  ⟨by rw [List.length_take, List.length_drop]; omega, .inr ⟨g, off, rfl, rfl, fun j u hu => by
    rw [cell_of_row w g _ _ _ _ hg]
    rw [List.getElem?_take] at hu
    split at hu
    · simpa using hu
    · cases hu⟩⟩

theorem lay_take (M ys : List Value) (k r : Nat) (hk : k ≤ M.length) : (lay M k ys).take (k + ys.length + r) = M.take k ++ ys ++ (M.drop (k + ys.length)).take r := by
  unfold lay
  have h1 : (M.take k ++ ys).length = k + ys.length := by rw [List.length_append, List.length_take]; omega
  rw [← List.append_assoc, List.take_append, h1, List.take_of_length_le (by omega)]
  congr 2; omega
set_option maxHeartbeats 2000000 in
set_option maxRecDepth 20000 in
theorem insert_room (g n c i m cm gv : Nat) (L LV xs ys : List Value) (T : TypeId) (w : World) (hg : w.heap[g]? = some (.cells L.toArray 33 (0, 0))) (hL : L.length = c * 2) (hT : L.take (n * 2) = xs)
    (hv : w.heap[gv]? = some (.cells LV.toArray T (0, 0))) (hLV : LV.take (m * 2) = ys) (hcm : m * 2 ≤ LV.length) (hne : gv ≠ g) (hi : i < n) (hm : 0 < m) (hroom : n + m ≤ c) (hc : c ≤ 9223372036854775807)
    (hx1 : ∀ u ∈ xs, u.oneCell' = true) (hy1 : ∀ u ∈ ys, u.oneCell' = true) :
    Calls Try.prog 92 #[.slice (some ⟨g, 0, none⟩) n c, .int .i64 i, .slice (some ⟨gv, 0, none⟩) m cm] w fun e w' => e = .returned (.slice (some ⟨g, 0, none⟩) (n + m) c) ∧
      ∃ L', w'.heap[g]? = some (.cells (List.toArray L') 33 (0, 0)) ∧ L'.length = c * 2 ∧ L'.take ((n + m) * 2) = xs.take (i * 2) ++ ys ++ xs.drop (i * 2) ∧ Upd (fun k => k = g) w w' := by
  have hm1 : ((m : Int) == 0) = false := by simp; omega
  have hi1 : ((i : Int) == (n : Int)) = false := by simp; omega
  have hle : (n : Int) + (m : Int) ≤ (c : Int) := by omega
  have f3 : IntKind.i64.wrap ((i : Int) + (m : Int)) = (i : Int) + (m : Int) := IntWalk.i64_in _ (by omega)
  obtain ⟨ad0, -, hr0⟩ := cut_from (P := Try.prog) 30 33 Try.underlying30 2 elem_rng.size g 0 n c i (by omega) .i64 (i : Int) rfl
  have hr1 := cut_to (P := Try.prog) 30 33 Try.underlying30 2 elem_rng.size g 0 n c (n + m) hroom .i64 ((n : Int) + (m : Int)) (by omega)
  obtain ⟨ad2, had2, hr2⟩ := cut_from (P := Try.prog) 30 33 Try.underlying30 2 elem_rng.size g 0 (n + m) c (i + m) (by omega) .i64 ((i : Int) + (m : Int)) (by omega)
  rw [Nat.zero_add] at had2
  obtain rfl := had2 (by omega)
  obtain ⟨ad3, had3, hr3⟩ := cut_from (P := Try.prog) 30 33 Try.underlying30 2 elem_rng.size g 0 (n + m) c i (by omega) .i64 (i : Int) rfl
  rw [Nat.zero_add] at had3
  obtain rfl := had3 (by omega)
  clear had2 had3
  have hov := (run_ov w gv g 0 ((i + m) * 2) m cm (n + m - (i + m)) (c - (i + m)) LV L _ _ hv hg hne (by omega))
  have HG := hide hg
  have HV := hide hv
  have HT := hide hT
  have HLV := hide hLV
  have HX1 := hide hx1
  have HY1 := hide hy1
  have HL := hide hL
  have HNE := hide hne
  have HCM := hide hcm
  clear hg hv hT hLV hx1 hy1 hL hne hcm
  go_enter Try.func92, Try.ntmps92
  go_wp2_with fail
  go_still_tail 8, (by kernel_rfl)
  clear f3 hr0 hr1 hr2 hr3 hov
  change wpList _ _ _ _ _ w.drew
  have hR := Rd.row HG.out (i * 2) (n + m - i) 2 (by rw [HL.out]; omega)
  have hk1 : ((L.drop (i * 2)).take ((n + m - i) * 2)).take ((n - i) * 2) = xs.drop (i * 2) := by
    rw [List.take_take, Nat.min_eq_left (by omega), ← HT.out, List.drop_take]
    congr 1; omega
  have hk2 : (xs.drop (i * 2)).length = (n - i) * 2 := by rw [← HT.out, List.length_drop, List.length_take, HL.out]; omega
  have hk3 : ∀ u ∈ xs.drop (i * 2), u.oneCell' = true := fun u hu => HX1.out u (List.mem_of_mem_drop hu)
  have hRd := hR.upd (Upd.refl none_ w).drew (fun _ _ => id)
  have hGd : w.drew.heap[g]? = some (.cells (List.toArray L) 33 (0, 0)) := HG.out
  have hVd : w.drew.heap[gv]? = some (.cells (List.toArray LV) T (0, 0)) := HV.out
  have hUd : Upd (fun k => k = g) w w.drew := (Upd.refl _ w).drew
  clear hR
  generalize w.drew = w2 at hRd hGd hVd hUd
  refine wpL_copy rfl _ _ _ rfl 33 Try.underlying30 2 elem_rng.size _ _ _ _ (n + m - i) _ rfl rfl _ hRd (n - i) (by omega) (by rw [hk1]; exact hk3) g ((i + m) * 2) L 33 hGd (.inr rfl) (by rw [HL.out]; omega) ?_
  intro w3 hG3 hU3
  rw [hk1] at hG3
  have hV3 := hU3.heap hVd HNE.out
  have hRv := (Rd.row hV3 0 m 2 (by have := HCM.out; omega))
  rw [List.drop_zero, HLV.out] at hRv
  have hyl : ys.length = m * 2 := hRv.1
  have hyt : ys.take (m * 2) = ys := by rw [← hyl, List.take_length]
  have hl3 : (lay L ((i + m) * 2) (xs.drop (i * 2))).length = c * 2 := by rw [lay_length, HL.out]; rw [hk2, HL.out]; omega
  have HK := hide (And.intro hk1 (And.intro hk2 (And.intro hyl (And.intro hyt hl3))))
  clear hk1 hk2 hyl hyt hl3 hk3
  go_wp2_with (refine wpL_copy rfl _ _ _ rfl 33 Try.underlying30 2 elem_rng.size _ _ _ _ m _ rfl rfl _ hRv m (by omega) (by rw [HK.out.2.2.2.1]; exact HY1.out) g (i * 2) _ 33 hG3 (.inr rfl) (by rw [HK.out.2.2.2.2]; omega) ?_; intro w4 hG4 hU4)
  go_ret
  obtain ⟨hk1, hk2, hyl, hyt, hl3⟩ := HK.out
  rw [hyt] at hG4
  refine ⟨rfl, _, hG4, by rw [lay_length, hl3]; rw [hyl, hl3]; omega, ?_, (hUd.trans hU3).trans hU4⟩
  have e1 : (lay L ((i + m) * 2) (xs.drop (i * 2))).take (i * 2) = xs.take (i * 2) := by
    rw [← HT.out]
    unfold lay
    rw [List.take_append_of_le_length (by rw [List.length_take, HL.out]; omega), List.take_take, List.take_take]
    congr 1; omega
  have e2 : (lay L ((i + m) * 2) (xs.drop (i * 2))).drop (i * 2 + m * 2) = xs.drop (i * 2) ++ L.drop ((i + m) * 2 + (n - i) * 2) := by
    unfold lay
    rw [hk2, List.drop_append, List.length_take, HL.out, List.drop_eq_nil_of_le (by rw [List.length_take, HL.out]; omega)]
    rw [show i * 2 + m * 2 - min ((i + m) * 2) (c * 2) = 0 by omega]
    rfl
  have e3 : (xs.take (i * 2)).length = i * 2 := by rw [← HT.out, List.length_take, List.length_take, HL.out]; omega
  have e5 := lay_take (lay L ((i + m) * 2) (xs.drop (i * 2))) ys (i * 2) ((n - i) * 2) (by rw [hl3]; omega)
  rw [hyl, e1, e2] at e5
  rw [show (n + m) * 2 = i * 2 + m * 2 + (n - i) * 2 by omega, e5]
  congr 1
  rw [← hk2]; exact List.take_left
end Go.Proofs.Ytjjiemicacbmaaa
