/- The document's ranges: Add. -/
import Derived.Test.YtjjiemicacbmaaaStep
namespace Go.Proofs.Ytjjiemicacbmaaa
open Go.RowKit Go.Shelf

/-- An own row that is not empty: its block, its cells. -/
theorem own_at {w : World} {base e sz n c : Nat} {a : Option Addr} {xs : List Value} (h : w.ownsRow base e sz (.slice a n c) n xs) (hn : 0 < n) :
    ∃ g, a = some ⟨g, 0, none⟩ ∧ base ≤ g ∧ (∀ j u, xs[j]? = some u → w.cell? ⟨g, j, none⟩ = some u) ∧ (∀ j, w.frozen? ⟨g, j, none⟩ = false) := by
  obtain ⟨h1, h2⟩ := h
  rcases h2 with ⟨h2, -⟩ | ⟨g, cap, cur, he, hb, hg, h3, hm, hs, ht⟩
  · injection h2 with _ e2 _; omega
  · injection he with e1 _ e3
    subst e1 e3
    refine ⟨g, rfl, hb, fun j u hu => ?_, fun j => frozen_of_row w g j _ _ hg⟩
    rw [cell_of_row w g _ cur e (0, 0) hg]
    rw [← ht, List.getElem?_take] at hu
    split at hu
    · simpa using hu
    · cases hu

set_option maxRecDepth 20000 in
set_option maxHeartbeats 80000000 in
theorem qadd_any (b : Nat) (o : Option Nat) (l : List (Int × Int)) (f t : Int) (w : World) (h : RQ w b o l) (hw : WF l) (hn : l.length * 48 ≤ 70368744177664) :
    Calls Try.prog 22 #[.pointer (some ⟨b, 0, none⟩), .int .i64 f, .int .i64 t] w fun e w' =>
      ∃ o', e = .returned (.int .i64 (addL l f t).1) ∧ RQ w' b o' (addL l f t).2 ∧ RQmoved w w' b o o' := by
  obtain ⟨aw, an, a3, a4⟩ := add_law hw f t
  rw [a3]
  obtain ⟨f0, hf0⟩ : ∃ f0, max f 0 = f0 := ⟨_, rfl⟩
  obtain ⟨t0, ht0⟩ : ∃ t0, min t 4611686018427387904 = t0 := ⟨_, rfl⟩
  have hin : ∀ W, Calls Try.prog 80 #[.int .i64 f, .int .i64 t] W fun e w' => e = .returned (.tuple #[.int .i64 f0, .int .i64 t0]) ∧ W = w' := fun W => by rw [← ht0, ← hf0]; exact qinside_any f t W
  rw [ht0, hf0] at an
  by_cases hlt : t0 ≤ f0
  · have hsame : (addL l f t).2 = l := aw.eq hw fun n => by rw [an n]; exact ⟨fun h => h.resolve_right (by omega), .inl⟩
    rw [hsame]
    have HQ := hide h
    clear h hf0 ht0 aw an a3 a4 hsame
    go_enter Try.func22, Try.ntmps22
    go_wp2_with (go_at_call 80; refine (hin _).mono ?_; rintro e w' ⟨rfl, rfl⟩)
    go_ret
    exact ⟨o, by rw [Int.sub_self]; rfl, HQ.out, Upd.refl _ _, .inl rfl⟩
  · have hf1 : 0 ≤ f0 := by omega
    have ht1 : t0 ≤ 4611686018427387904 := by omega
    have hft : f0 < t0 := by omega
    have hRW : WF (rests f0 t0 l) := hw.rests hft
    have hRn := rests_in hft l
    have hRl := rests_len' hw hft
    have hb1 := hw.tot
    have hb2 := aw.tot
    have HSUB := hide (show IntKind.i64.wrap (tot (addL l f t).2 - tot l) = tot (addL l f t).2 - tot l from IntWalk.i64_in _ (by omega))
    have HAN := hide (show ∀ n, InS (addL l f t).2 n ↔ InS (rests f0 t0 l) n ∨ (f0 ≤ n ∧ n < t0) from fun n => by
      rw [an n, hRn n]
      constructor
      · rintro (h | h)
        · by_cases h2 : f0 ≤ n ∧ n < t0
          · exact .inr h2
          · exact .inl ⟨h, h2⟩
        · exact .inr h
      · rintro (h | h)
        · exact .inl h.1
        · exact .inr h)
    have HAV := hide (show ∀ n, f0 ≤ n → n < t0 → ¬ InS (rests f0 t0 l) n from fun n e1 e2 e3 => ((hRn n).1 e3).2 ⟨e1, e2⟩)
    have HAW := hide aw
    have HA4 := hide a4
    obtain ⟨a, cap, hc, hcap, hb, hown, hob, hk⟩ := h.slice
    have hblt : b < w.heap.size := h.lt
    obtain ⟨-, hrd⟩ := rd_own' hown
    have hqt : ∀ W, Upd none_ w W → Calls Try.prog 28 #[.pointer (some ⟨b, 0, none⟩)] W fun e w' => e = .returned (.int .i64 (tot l)) ∧ Upd none_ W w' := fun W hu => qtotal_any b o l W (h.keep hu) hw (by omega)
    have hwo : ∀ W, Upd none_ w W → Calls Try.prog 81 #[.slice a l.length cap, .int .i64 f0, .int .i64 t0] W fun e w' =>
      ∃ a' c' k, e = .returned (.slice a' k c') ∧ k = (rests f0 t0 l).length ∧ w'.ownsRow W.heap.size 33 2 (.slice a' k c') k (flat (rests f0 t0 l)) ∧ Upd none_ W w' := fun W hu => without_any _ a cap l f0 t0 W (hrd.upd hu (fun _ _ => id)) (by omega)
    have HB := hide hb
    have HC := hide hc
    have HQT := hide hqt
    have HWO := hide hwo
    have HRW := hide hRW
    have HRL := hide hRl
    clear hb hc hqt hwo aw an a3 a4 hRW hRn hRl hb1 hb2 h hk hown hrd hob hf0 ht0 hlt
    generalize rests f0 t0 l = R at HWO HAN HAV HRW HRL
    generalize (addL l f t).2 = RES at HSUB HAN HAW HA4 ⊢
    go_enter Try.func22, Try.ntmps22
    go_wp2_with (go_at_call 80; refine (hin _).mono ?_; rintro e w' ⟨rfl, rfl⟩)
    refine (HQT.out w (Upd.refl _ _)).mono ?_
    rintro e w1 ⟨rfl, hu1⟩
    have d1 := hu1.cell HC.out id
    go_wp2_with fail
    refine (HWO.out w1 hu1).mono ?_
    rintro e w2 ⟨aR, cR, k, rfl, hk, hownR, hu2⟩
    subst hk
    have HU2 := hide (hu1.trans hu2)
    have HRD := hide (rd_own' hownR).2
    clear d1 hu1 hu2 hownR
    go_wp2_with fail
    go_loopw [9, 10, 11] (fun s9 s10 s11 wr => ∃ k dn a1 c1 Z, k ≤ R.length ∧ s11 = Value.int .i64 ((k : Nat) : Int) ∧ s10 = Value.bool dn ∧ s9 = Value.slice a1 Z.length c1 ∧ wr.ownsRow w2.heap.size 33 2 (.slice a1 Z.length c1) Z.length (flat Z) ∧ Ins f0 t0 R k dn Z ∧ Upd none_ w2 wr) (fun _ _ s _ => R.length - (intOf s).toNat)
    case atStart => exact ⟨0, false, none, 0, [], Nat.zero_le _, rfl, rfl, rfl, World.ownsRow_nil _ _ _ _, Ins.start _ _ _, Upd.refl _ _⟩
    case round =>
      obtain ⟨k, dn, a1, c1, Z, hk, rfl, rfl, rfl, hown1, hins, hu⟩ := hrel
      have HU := hide hu
      have HO := hide hown1
      have HI := hide hins
      clear hu hown1 hins
      by_cases hkl : k < R.length
      · obtain ⟨g, off, rfl, -, hcc⟩ := HRD.out.2.resolve_left (by omega)
        have e1 := HU.out.cell (hcc _ _ (flat_get R k hkl).1) id
        have e2 := HU.out.cell (hcc _ _ (flat_get R k hkl).2) id
        clear hcc
        rw [← Nat.add_assoc] at e2
        have HX1 := hide (flat_get R k hkl).1
        have HX2 := hide (flat_get R k hkl).2
        have HLEN := hide (show (Z.length + 3) * 16 ≤ 140737488355328 by have h9 := HI.out.len; have := HRL.out; split at h9 <;> omega)
        have hrl := HRL.out
        rw [getD_in R k hkl] at e1 e2 HX1 HX2
        have HAVO := hide (avoid HRW.out HAV.out hft hkl)
        generalize hx : R[k] = x at e1 e2 HX1 HX2 HAVO
        have HX := hide hx
        clear hx
        obtain ⟨x1, x2⟩ := x
        have f1 : (0 : Int) ≤ (k : Int) := by omega
        have f2 : (k : Int) < (R.length : Int) := by omega
        have f3 : (k : Int).toNat = k := by omega
        cases dn with
        | true =>
          go_wp2_with (at_builtin; (refine wpL_app rfl _ _ _ rfl w2.heap.size 33 _ 2 16 Try.underlying30 elem_rng (.slice a1 (Z.length) c1) (Z.length) (flat Z) rfl (Upd.own (S := none_) ((Upd.refl none_ wr).alloc _) HO.out (fun _ _ => id)) (F := fun _ => True) (some ⟨wr.heap.size, 0, none⟩) 1 1 [.int .i64 x1, .int .i64 x2] rfl (rd_row1 (by repeat' first | assumption | (refine heapA_at _ _ _ ?_; first | rfl | (simp; done) | omega) | (refine (heapA_past _ _ _ ?_).trans ?_; · first | (simp; done) | (simp; omega)) | refine (heapN _ _ _).trans ?_ | refine (heapD _ _).trans ?_) trivial) (fun u hu => by simp at hu; rcases hu with rfl | rfl <;> rfl) (by have := HLEN.out; omega) (by have := HLEN.out; omega) (HU.out.alloc _).size ?_; intro v' w4 hown hu hmv _ _; obtain ⟨a3, c3, rfl⟩ := own_shape hown; obtain ⟨hu4, -⟩ := app_keep HU.out HO.out (Nat.le_refl _) hu; have HU4 := hide hu4; have HO4 := hide hown; clear hu hu4 hown hmv))
          go_roundw
          case rel =>
            have hi := HI.out.take HRW.out hkl (fun h => nomatch h)
            rw [HX.out] at hi
            refine ⟨k + 1, true, a3, c3, Z ++ [(x1, x2)], by omega, by go_num, rfl, by simp, ?_, hi, HU4.out⟩
            simpa [flat] using HO4.out
          case measure => simp [intOf]; omega
        | false =>
          by_cases hA : f0 < x1
          · go_wp2_with (first | (at_builtin; (refine wpL_app rfl _ _ _ rfl w2.heap.size 33 _ 2 16 Try.underlying30 elem_rng (.slice a1 (Z.length) c1) (Z.length) (flat Z) rfl (Upd.own (S := none_) ((Upd.refl none_ wr).alloc _) HO.out (fun _ _ => id)) (F := fun _ => True) (some ⟨wr.heap.size, 0, none⟩) 1 1 [.int .i64 f0, .int .i64 t0] rfl (rd_row1 (by repeat' first | assumption | (refine heapA_at _ _ _ ?_; first | rfl | (simp; done) | omega) | (refine (heapA_past _ _ _ ?_).trans ?_; · first | (simp; done) | (simp; omega)) | refine (heapN _ _ _).trans ?_ | refine (heapD _ _).trans ?_) trivial) (fun u hu => by simp at hu; rcases hu with rfl | rfl <;> rfl) (by have := HLEN.out; omega) (by have := HLEN.out; omega) (HU.out.alloc _).size ?_; intro v' w3 hown hu hmv _ _; obtain ⟨a2, c2, rfl⟩ := own_shape hown; obtain ⟨hu2, -⟩ := app_keep HU.out HO.out (Nat.le_refl _) hu; have hrd := HRD.out.upd hu2 (fun _ _ => id); have HU3 := hide hu2; have HO3 := hide hown; obtain ⟨gq, offq, hq0, -, hq1⟩ := hrd.2.resolve_left (by omega); obtain ⟨rfl, rfl⟩ : g = gq ∧ off = offq := (by injection hq0 with hq0; injection hq0 with hq2 hq3; exact ⟨hq2, hq3⟩); have d1 := hq1 _ _ HX1.out; have d2 := hq1 _ _ HX2.out; rw [← Nat.add_assoc] at d2; clear hrd hq0 hq1 hu hu2 hown hmv)) | (at_builtin; (refine wpL_app rfl _ _ _ rfl w2.heap.size 33 _ 2 16 Try.underlying30 elem_rng (.slice a2 (Z.length + 1) c2) (Z.length + 1) (flat Z ++ [.int .i64 f0, .int .i64 t0]) rfl (Upd.own (S := none_) ((Upd.refl none_ w3).alloc _) HO3.out (fun _ _ => id)) (F := fun _ => True) (some ⟨w3.heap.size, 0, none⟩) 1 1 [.int .i64 x1, .int .i64 x2] rfl (rd_row1 (by repeat' first | assumption | (refine heapA_at _ _ _ ?_; first | rfl | (simp; done) | omega) | (refine (heapA_past _ _ _ ?_).trans ?_; · first | (simp; done) | (simp; omega)) | refine (heapN _ _ _).trans ?_ | refine (heapD _ _).trans ?_) trivial) (fun u hu => by simp at hu; rcases hu with rfl | rfl <;> rfl) (by have := HLEN.out; omega) (by have := HLEN.out; omega) (HU3.out.alloc _).size ?_; intro v' w4 hown hu hmv _ _; obtain ⟨a3, c3, rfl⟩ := own_shape hown; obtain ⟨hu4, -⟩ := app_keep HU3.out HO3.out (Nat.le_refl _) hu; have HU4 := hide hu4; have HO4 := hide hown; clear hu hu4 hown hmv)))
            go_roundw
            case rel =>
              have hb3 : ∀ m, (hm : m < R.length) → k ≤ m → t0 ≤ R[m].1 := fun m hm hkm => by
                have h1 := HAVO.out.2 hA
                by_cases e : m = k
                · subst e; rw [HX.out]; exact h1
                · have := HRW.out.rise hkl hm (by omega)
                  have := HRW.out.at' hkl
                  rw [HX.out] at *
                  simp only at *
                  omega
              have hi := (HI.out.lay hf1 hft ht1 hb3).take HRW.out hkl (fun h => nomatch h)
              rw [HX.out] at hi
              refine ⟨k + 1, true, a3, c3, Z ++ [(f0, t0)] ++ [(x1, x2)], by omega, by go_num, rfl, by simp, ?_, hi, HU4.out⟩
              simpa [flat] using HO4.out
            case measure => simp [intOf]; omega
          · go_wp2_with (at_builtin; (refine wpL_app rfl _ _ _ rfl w2.heap.size 33 _ 2 16 Try.underlying30 elem_rng (.slice a1 (Z.length) c1) (Z.length) (flat Z) rfl (Upd.own (S := none_) ((Upd.refl none_ wr).alloc _) HO.out (fun _ _ => id)) (F := fun _ => True) (some ⟨wr.heap.size, 0, none⟩) 1 1 [.int .i64 x1, .int .i64 x2] rfl (rd_row1 (by repeat' first | assumption | (refine heapA_at _ _ _ ?_; first | rfl | (simp; done) | omega) | (refine (heapA_past _ _ _ ?_).trans ?_; · first | (simp; done) | (simp; omega)) | refine (heapN _ _ _).trans ?_ | refine (heapD _ _).trans ?_) trivial) (fun u hu => by simp at hu; rcases hu with rfl | rfl <;> rfl) (by have := HLEN.out; omega) (by have := HLEN.out; omega) (HU.out.alloc _).size ?_; intro v' w4 hown hu hmv _ _; obtain ⟨a3, c3, rfl⟩ := own_shape hown; obtain ⟨hu4, -⟩ := app_keep HU.out HO.out (Nat.le_refl _) hu; have HU4 := hide hu4; have HO4 := hide hown; clear hu hu4 hown hmv))
            go_roundw
            case rel =>
              have hi := HI.out.take HRW.out hkl (fun _ => by rw [HX.out]; exact HAVO.out.1 (by simp only; omega))
              rw [HX.out] at hi
              refine ⟨k + 1, false, a3, c3, Z ++ [(x1, x2)], by omega, by go_num, rfl, by simp, ?_, hi, HU4.out⟩
              simpa [flat] using HO4.out
            case measure => simp [intOf]; omega
      · obtain rfl : k = R.length := by omega
        have HLEN := hide (show (Z.length + 3) * 16 ≤ 140737488355328 by have h9 := HI.out.len; have := HRL.out; split at h9 <;> omega)
        cases dn
        case' true =>
          have hbz := (HU2.out.trans HU.out).heap HB.out id
          have dz := cell_of_one hbz
          have fz := free_of_one hbz
          have lz : b < wr.heap.size := lt_of_block hbz
          have HBZ := hide hbz
          clear hbz
          go_wp2_with fail
          clear dz fz lz
          obtain ⟨NZ, hNZ⟩ : ∃ NZ, NZ = Z.length := ⟨_, rfl⟩
          have HZI := HI
          have HUZ := hide (HU2.out.trans HU.out)
          have HOZ := HO
          rw [← hNZ] at HOZ ⊢
          have HNZ := hide hNZ
          clear hNZ HI HU HO HLEN
          generalize Z = Zf at HZI HOZ HNZ
          generalize a1 = az at HOZ ⊢
          generalize c1 = cz at HOZ ⊢
          generalize wr = wz at HBZ HUZ HOZ ⊢
        case' false =>
          go_wp2_with (at_builtin; (refine wpL_app rfl _ _ _ rfl w2.heap.size 33 _ 2 16 Try.underlying30 elem_rng (.slice a1 (Z.length) c1) (Z.length) (flat Z) rfl (Upd.own (S := none_) ((Upd.refl none_ wr).alloc _) HO.out (fun _ _ => id)) (F := fun _ => True) (some ⟨wr.heap.size, 0, none⟩) 1 1 [.int .i64 f0, .int .i64 t0] rfl (rd_row1 (by repeat' first | assumption | (refine heapA_at _ _ _ ?_; first | rfl | (simp; done) | omega) | (refine (heapA_past _ _ _ ?_).trans ?_; · first | (simp; done) | (simp; omega)) | refine (heapN _ _ _).trans ?_ | refine (heapD _ _).trans ?_) trivial) (fun u hu => by simp at hu; rcases hu with rfl | rfl <;> rfl) (by have := HLEN.out; omega) (by have := HLEN.out; omega) (HU.out.alloc _).size ?_; intro v' wz hown hu hmv _ _; obtain ⟨az, cz, rfl⟩ := own_shape hown; obtain ⟨hu4, -⟩ := app_keep HU.out HO.out (Nat.le_refl _) hu; have HUZ := hide (HU2.out.trans hu4); have HOZ := hide hown; have hbz := (HU2.out.trans hu4).heap HB.out id; have dz := cell_of_one hbz; have fz := free_of_one hbz; have lz : b < wz.heap.size := lt_of_block hbz; have HBZ := hide hbz; clear hu hu4 hown hmv hbz))
          clear dz fz lz
          have HZI := hide (HI.out.lay hf1 hft ht1 (fun m hm hkm => absurd hkm (by omega)))
          have HNZ := hide (show Z.length + 1 = (Z ++ [(f0, t0)]).length by simp)
          have HOZ2 : Hid (wz.ownsRow w2.heap.size 33 2 (.slice az (Z.length + 1) cz) (Z.length + 1) (flat (Z ++ [(f0, t0)]))) := hide (by rw [flat_append]; simpa [flat] using HOZ.out)
          clear HOZ
          have HOZ := HOZ2
          clear HOZ2 HI HU HO HLEN
          generalize Z ++ [(f0, t0)] = Zf at HZI HOZ HNZ
          generalize Z.length + 1 = NZ at HOZ HNZ ⊢
        all_goals
          have HLZ := hide (show NZ * 16 ≤ 70368744177664 + 64 by have := HNZ.out; have h9 := HZI.out.len; have := HRL.out; simp at h9; omega)
          have hne : ∀ g, (Value.slice az NZ cz).ownBlock = some g → g ≠ b := fun g hg e => by have h1 := own_ge HOZ.out g hg; have h2 := HU2.out.size; omega
          have h3b : (wz.setCell ⟨b, 0, none⟩ (.slice none 0 0)).heap[b]? = some (.cells #[.slice none 0 0] 42 (0, 0)) := one_setCell HBZ.out
          have hu3 : Upd (fun k => k = b) wz (wz.setCell ⟨b, 0, none⟩ (.slice none 0 0)) := Upd.setCell (S := fun k => k = b) (p := ⟨b, 0, none⟩) (Upd.refl _ wz) (fun _ => rfl) _
          have hr3 := (rd_own' (hu3.own HOZ.out hne)).2
          have hU3 : Upd (fun k => k = b) w (wz.setCell ⟨b, 0, none⟩ (.slice none 0 0)) := (HUZ.out.mono (fun _ _ h => h.elim)).trans hu3
          have HR3 := hide hr3
          have HU3 := hide hU3
          have HB3 := hide h3b
          have HNE := hide hne
          clear hu3 hr3 hU3 h3b hne HOZ HBZ HUZ
          generalize wz.setCell ⟨b, 0, none⟩ (.slice none 0 0) = w3 at HR3 HU3 HB3
          go_loopw [12] (fun s12 wr => ∃ k a1 c1 Y, k ≤ NZ ∧ s12 = Value.int .i64 ((k : Nat) : Int) ∧ wr.heap[b]? = some (.cells #[Value.slice a1 Y.length c1] 42 (0, 0)) ∧ wr.ownsRow w3.heap.size 33 2 (.slice a1 Y.length c1) Y.length (flat Y) ∧ Joins Zf k Y ∧ Upd (fun g => g = b) w3 wr) (fun s _ => NZ - (intOf s).toNat)
          case atStart => exact ⟨0, none, 0, [], Nat.zero_le _, rfl, HB3.out, World.ownsRow_nil _ _ _ _, Joins.start _, Upd.refl _ _⟩
          case round =>
            obtain ⟨k, a1, c1, Y, hk, rfl, hbY, hownY, hj, hu⟩ := hrel
            obtain ⟨NY, hNY⟩ : ∃ NY, NY = Y.length := ⟨_, rfl⟩
            rw [← hNY] at hbY hownY
            have hjl : NY ≤ k := by have := hj.len; omega
            have HNY := hide hNY
            clear hNY
            have cb := cell_of_one hbY
            have fb := free_of_one hbY
            have lb : b < wr.heap.size := lt_of_block hbY
            have hrz := HR3.out.upd hu (fun g hg e => HNE.out g hg e)
            have HU := hide hu
            have HBY := hide hbY
            have HOY := hide hownY
            have HJ := hide hj
            clear hu hbY hownY hj
            have hlz := HLZ.out
            have hnz := HNZ.out
            by_cases hkl : k < NZ
            · obtain ⟨g, off, rfl, -, hcc⟩ := hrz.2.resolve_left (by omega)
              have hkZ : k < Zf.length := by omega
              have e1 := hcc _ _ (flat_get Zf k hkZ).1
              have e2 := hcc _ _ (flat_get Zf k hkZ).2
              clear hcc hrz
              rw [← Nat.add_assoc] at e2
              rw [getD_in Zf k hkZ] at e1 e2
              generalize hz : Zf[k] = z at e1 e2
              have HZK := hide hz
              clear hz hnz
              obtain ⟨z1, z2⟩ := z
              have f1 : (0 : Int) ≤ (k : Int) := by omega
              have f2 : (k : Int) < (NZ : Int) := by omega
              have f3 : (k : Int).toNat = k := by omega
              by_cases hjn : Y.length ≠ 0 ∧ (Y.getD (Y.length - 1) (0, 0)).2 = z1
              · obtain ⟨hY0, hlast⟩ := hjn
                obtain ⟨Y0, ⟨y1, y2⟩, rfl⟩ : ∃ Y0 y, Y = Y0 ++ [y] := ⟨Y.dropLast, Y.getLast (fun e => hY0 (by rw [e]; rfl)), (List.dropLast_concat_getLast _).symm⟩
                have hy2 : y2 = z1 := by simpa using hlast
                subst hy2
                obtain ⟨m, hm⟩ : ∃ m, Y0.length = m := ⟨_, rfl⟩
                have hNm : NY = m + 1 := by have := HNY.out; simp at this; omega
                have g0 : IntKind.i64.wrap ((NY : Int) - 1) = ((m : Nat) : Int) := by rw [IntWalk.i64_in _ (by omega)]; omega
                obtain ⟨gy, rfl, hgy, hcy, hfy⟩ := own_at HOY.out (by omega)
                have dy := hcy (m * 2 + 1) (.int .i64 y2) (by rw [flat_append, List.getElem?_append_right (by rw [flat_length]; omega), flat_length, show m * 2 + 1 - Y0.length * 2 = 1 by omega]; rfl)
                have fy := hfy (m * 2 + 1)
                have f5 : (m : Int) < (NY : Int) := by omega
                have f6 : (0 : Int) ≤ (m : Int) := by omega
                have HNM := hide hNm
                have HM := hide hm
                clear hcy hfy hY0 hlast hNm hm
                go_wp2_with fail
                go_quiet (fail)
                have HUD : Hid (Upd (fun k => k = b) w3 (wr.drewN nq)) := hide (HU.out.drewN _)
                have hu0 : Upd none_ wr (wr.drewN nq) := (Upd.refl none_ wr).drewN nq
                have HOD : Hid ((wr.drewN nq).ownsRow w3.heap.size 33 2 (.slice (some ⟨gy, 0, none⟩) NY c1) NY (flat (Y0 ++ [(y1, y2)]))) := hide (hu0.own HOY.out (fun _ _ => id))
                have hbY2 := hu0.heap HBY.out id
                have cb2 := hu0.cell cb id
                have dy2 := hu0.cell dy id
                have e3 := hu0.cell e1 id
                have e4 := hu0.cell e2 id
                have fy2 : (wr.drewN nq).frozen? ⟨gy, m * 2 + 1, none⟩ = false := fy
                have HB2 := hide hbY2
                clear hu0 hbY2 cb fb lb e1 e2 dy fy HU HBY HOY
                generalize wr.drewN nq = wd at HUD HOD HB2 cb2 dy2 e3 e4 fy2
                have hgd : g < wd.heap.size := World.block_lt_of_cell? wd _ e3
                have hgyd : gy < wd.heap.size := World.block_lt_of_cell? wd _ dy2
                go_wp2_with fail
                go_region
                have hne1 : gy ≠ b := fun e => by have := lt_of_block HB3.out; omega
                have hb3 : ((wd.setCell ⟨gy, m * 2 + 1, none⟩ (.int .i64 z2)).drew).heap[b]? = some (.cells #[Value.slice (some ⟨gy, 0, none⟩) NY c1] 42 (0, 0)) := ((heapD _ _).trans (heap_setCell_other wd _ b _ (Ne.symm hne1))).trans HB2.out
                have ho3 : ((wd.setCell ⟨gy, m * 2 + 1, none⟩ (.int .i64 z2)).drew).ownsRow w3.heap.size 33 2 (.slice (some ⟨gy, 0, none⟩) NY c1) NY ((flat (Y0 ++ [(y1, y2)])).set (m * 2 + 1) (.int .i64 z2)) :=
                  ((Upd.refl none_ (wd.setCell ⟨gy, m * 2 + 1, none⟩ (.int .i64 z2))).drew).own (own_store HOD.out (m * 2 + 1) (by rw [flat_length, ← HNY.out]; have := HNM.out; omega) _) (fun _ _ => id)
                have hu3 : Upd (fun k => k = b) w3 (wd.setCell ⟨gy, m * 2 + 1, none⟩ (.int .i64 z2)).drew := (HUD.out.setCell (p := ⟨gy, m * 2 + 1, none⟩) (fun h => absurd hgy (by simp only at h; omega)) _).drew
                have hfl : (flat (Y0 ++ [(y1, y2)])).set (m * 2 + 1) (.int .i64 z2) = flat (Y0 ++ [(y1, z2)]) := by
                  rw [flat_append, flat_append, List.set_append_right _ _ (by rw [flat_length]; have := HM.out; omega), flat_length, show m * 2 + 1 - Y0.length * 2 = 1 by have := HM.out; omega]
                  rfl
                rw [hfl] at ho3
                have hjz := HJ.out.join HZI.out.wk hkZ (by rw [HZK.out])
                rw [HZK.out] at hjz
                have HB4 := hide hb3
                have HO4 := hide ho3
                have HU4 := hide hu3
                have HJ4 := hide hjz
                have HN4 := hide (show (Y0 ++ [(y1, z2)]).length = NY by rw [HNY.out]; simp)
                clear hb3 ho3 hu3 hjz hfl hne1
                go_wp2_with fail
                go_roundw
                case rel => exact ⟨k + 1, some ⟨gy, 0, none⟩, c1, Y0 ++ [(y1, z2)], by omega, by go_num, by rw [HN4.out]; exact HB4.out, by rw [HN4.out]; exact HO4.out, HJ4.out, HU4.out⟩
                case measure => simp [intOf]; omega
              · have HAP := hide (show Y.length = 0 ∨ (Y.getD (Y.length - 1) (0, 0)).2 ≠ Zf[k].1 by
                  rw [HZK.out]
                  by_cases h0 : Y.length = 0
                  · exact .inl h0
                  · exact .inr fun e => hjn ⟨h0, e⟩)
                clear hjn
                by_cases hY0 : Y.length = 0
                case' pos =>
                  have g0 : IntKind.i64.wrap ((NY : Int) - 1) = -1 := by rw [show NY = 0 by have := HNY.out; omega]; rfl
                  clear hY0
                  go_wp2_with fail
                  go_quiet (fail)
                  clear g0
                case' neg =>
                  obtain ⟨Y0, ⟨y1, y2⟩, rfl⟩ : ∃ Y0 y, Y = Y0 ++ [y] := ⟨Y.dropLast, Y.getLast (fun e => hY0 (by rw [e]; rfl)), (List.dropLast_concat_getLast _).symm⟩
                  have hy2 : ¬ y2 = z1 := by have := HAP.out; rw [HZK.out] at this; simpa using this
                  have hy3 : (y2 == z1) = false := by simpa using hy2
                  obtain ⟨m, hm⟩ : ∃ m, Y0.length = m := ⟨_, rfl⟩
                  have hNm : NY = m + 1 := by have := HNY.out; simp at this; omega
                  have g0 : IntKind.i64.wrap ((NY : Int) - 1) = ((m : Nat) : Int) := by rw [IntWalk.i64_in _ (by omega)]; omega
                  obtain ⟨gy, rfl, hgy, hcy, hfy⟩ := own_at HOY.out (by omega)
                  have dy := hcy (m * 2 + 1) (.int .i64 y2) (by rw [flat_append, List.getElem?_append_right (by rw [flat_length]; omega), flat_length, show m * 2 + 1 - Y0.length * 2 = 1 by omega]; rfl)
                  have f5 : (m : Int) < (NY : Int) := by omega
                  have f6 : (0 : Int) ≤ (m : Int) := by omega
                  clear hcy hfy hY0 hNm hm hy2
                  go_wp2_with fail
                  go_quiet (fail)
                  clear g0 dy hy3 f5 f6
                  generalize some (⟨gy, 0, none⟩ : Addr) = a1 at *
                  generalize Y0 ++ [(y1, y2)] = Y at *
                all_goals
                  have hu0 : Upd none_ wr (wr.drewN nq) := (Upd.refl none_ wr).drewN nq
                  have cb2 := hu0.cell cb id
                  have hbY2 := hu0.heap HBY.out id
                  have e3 := hu0.cell e1 id
                  have e4 := hu0.cell e2 id
                  have HUD : Hid (Upd (fun k => k = b) w3 (wr.drewN nq)) := hide (HU.out.drewN _)
                  have HOD : Hid ((wr.drewN nq).ownsRow w3.heap.size 33 2 (.slice a1 NY c1) NY (flat Y)) := hide (hu0.own HOY.out (fun _ _ => id))
                  clear hu0 cb fb lb e1 e2 HU HBY HOY
                  generalize wr.drewN nq = wd at cb2 hbY2 e3 e4 HUD HOD
                  have lb2 : b < wd.heap.size := lt_of_block hbY2
                  have hb3 : b < w3.heap.size := lt_of_block HB3.out
                  have hgd : g < wd.heap.size := World.block_lt_of_cell? wd _ e3
                  have hgd1 : g < wd.heap.size + 1 := by omega
                  have lb3 : b < wd.heap.size + 1 := by omega
                  go_wp2_with fail
                  go_region_law (refine step_app rfl _ _ _ rfl w3.heap.size 33 _ 2 16 Try.underlying30 elem_rng (.slice a1 NY c1) NY (flat Y) rfl (Upd.own (S := none_) (((Upd.refl none_ wd).alloc _).drew) HOD.out (fun _ _ => id)) (F := fun _ => True) (some ⟨wd.heap.size, 0, none⟩) 1 1 [.int .i64 z1, .int .i64 z2] rfl (rd_row1 (by repeat' first | assumption | (refine heapA_at _ _ _ ?_; first | rfl | (simp; done) | omega) | (refine (heapA_past _ _ _ ?_).trans ?_; · first | (simp; done) | (simp; omega)) | refine (heapN _ _ _).trans ?_ | refine (heapD _ _).trans ?_) trivial) (fun u hu => by simp at hu; rcases hu with rfl | rfl <;> rfl) (by omega) (by omega) (Nat.le_trans HUD.out.size (((Upd.refl none_ wd).alloc _).drew).size) ?_; intro v' wy hown hu hmv _ _; obtain ⟨a3, c3, rfl⟩ := own_shape hown; have hby := hu.heap (k := b) (o := .cells #[Value.slice a1 NY c1] 42 (0, 0)) ((heapA_past wd _ b lb2).trans hbY2) (fun e => by have := own_ge HOD.out b e; omega); have cy := cell_of_one hby; have fy := free_of_one hby; have ly : b < wy.heap.size := lt_of_block hby)
                  all_goals
                    have hbz3 : (wy.setCell ⟨b, 0, none⟩ (.slice a3 (NY + 1) c3)).heap[b]? = some (.cells #[Value.slice a3 (NY + 1) c3] 42 (0, 0)) := one_setCell hby
                    have hup : Upd (fun k => k = b) w3 (wy.setCell ⟨b, 0, none⟩ (.slice a3 (NY + 1) c3)) := by
                      refine Upd.setCell (S := fun k => k = b) (p := ⟨b, 0, none⟩) ?_ (fun _ => rfl) _
                      exact Upd.trans' ((HUD.out.alloc _).drew) hu (fun i hi e => absurd (own_ge HOD.out i e) (by omega))
                    have hoz : (wy.setCell ⟨b, 0, none⟩ (.slice a3 (NY + 1) c3)).ownsRow w3.heap.size 33 2 (.slice a3 (NY + 1) c3) (NY + 1) (flat Y ++ [.int .i64 z1, .int .i64 z2]) :=
                      Upd.own (S := fun k => k = b) (Upd.setCell (S := fun k => k = b) (p := ⟨b, 0, none⟩) (Upd.refl _ wy) (fun _ => rfl) _) hown (fun i hi e => by have := own_ge hown i hi; omega)
                    have hjz := HJ.out.app HZI.out.wk hkZ HAP.out
                    rw [HZK.out] at hjz
                    have HBZ3 := hide hbz3
                    have HUP := hide hup
                    have HOZ3 : Hid ((wy.setCell ⟨b, 0, none⟩ (.slice a3 (NY + 1) c3)).ownsRow w3.heap.size 33 2 (.slice a3 (NY + 1) c3) (NY + 1) (flat (Y ++ [(z1, z2)]))) := hide (by rw [flat_append]; simpa [flat] using hoz)
                    have HJZ := hide hjz
                    have HN4 := hide (show (Y ++ [(z1, z2)]).length = NY + 1 by rw [HNY.out]; simp)
                    clear hbz3 hup hoz hjz hown hby cy fy ly
                    go_wp2_with fail
                    go_roundw
                    case rel => exact ⟨k + 1, a3, c3, Y ++ [(z1, z2)], by omega, by go_num, by rw [HN4.out]; exact HBZ3.out, by rw [HN4.out]; exact HOZ3.out, HJZ.out, HUP.out⟩
                    case measure => simp [intOf]; omega
            · obtain rfl : k = NZ := by omega
              have hYR : Y = RES := HJ.out.wf.eq HAW.out fun n => by
                rw [HJ.out.num n, List.take_of_length_le (by omega), HZI.out.num n, List.take_length, HAN.out n]
                exact ⟨fun h => h.elim .inl (fun h => .inr h.2), fun h => h.elim .inl (fun h => .inr ⟨rfl, h⟩)⟩
              subst hYR
              have hq : RQ wr b (Value.slice a1 NY c1).ownBlock Y := by
                have h1 := HOY.out
                have h2 := HNY.out
                subst h2
                exact ⟨_, HBY.out, own_base h1 0 (fun _ _ => Nat.zero_le _), rfl⟩
              have hmv : Upd (fun k => k = b) w wr := HU3.out.trans HU.out
              have HGEN := hide (show ∀ g, (Value.slice a1 NY c1).ownBlock = some g → w.heap.size ≤ g from fun g hg => Nat.le_trans HU3.out.size (own_ge HOY.out g hg))
              have HQ := hide hq
              have HMV := hide hmv
              clear hq hmv cb fb lb hrz HBY HOY HU
              go_wp2_with fail
              refine (qtotal_any b _ Y _ HQ.out HAW.out (by have := HA4.out; omega)).mono ?_
              rintro e w5 ⟨rfl, hu5⟩
              have hs := HSUB.out
              have HU5 := hide hu5
              clear hu5
              go_wp2_with fail
              go_ret
              exact ⟨_, rfl, HQ.out.keep HU5.out, HMV.out.thenNew HU5.out, .inr HGEN.out⟩
end Go.Proofs.Ytjjiemicacbmaaa
