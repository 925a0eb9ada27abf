/- The walk of RangesGaps. -/
import Derived.Test.YtjjiemicacbmaaaRg15
namespace Go.Proofs.Ytjjiemicacbmaaa
open Go.RowKit Go.Shelf

/-- How many of k numbers from a on are there. -/
def cnt (l : List (Int × Int)) (a : Int) : Nat → Nat
  | 0 => 0
  | k + 1 => cnt l a k + if hasL l (a + k) then 1 else 0
theorem cnt_in {l : List (Int × Int)} (h : WF l) (a : Int) (k : Nat) : ∀ j : Nat, (∀ m : Int, a + k ≤ m → m < a + k + j → InS l m) → cnt l a (k + j) = cnt l a k + j := by
  intro j
  induction j with
  | zero => intro _; rfl
  | succ j ih =>
    intro hj
    have h1 : hasL l (a + (k + j : Nat)) = true := (has_law h _).2 (hj _ (by omega) (by omega))
    rw [← Nat.add_assoc, cnt, ih fun m e1 e2 => hj m e1 (by omega), h1]
    simp; omega
theorem cnt_out {l : List (Int × Int)} (h : WF l) (a : Int) (k : Nat) : ∀ j : Nat, (∀ m : Int, a + k ≤ m → m < a + k + j → ¬ InS l m) → cnt l a (k + j) = cnt l a k := by
  intro j
  induction j with
  | zero => intro _; rfl
  | succ j ih =>
    intro hj
    have h1 : hasL l (a + (k + j : Nat)) = false := by
      have := mt (has_law h (a + (k + j : Nat))).1 (hj _ (by omega) (by omega))
      simpa using this
    rw [← Nat.add_assoc, cnt, ih fun m e1 e2 => hj m e1 (by omega), h1]
    simp
theorem cnt_le (l : List (Int × Int)) (a : Int) (k : Nat) : cnt l a k ≤ k := by
  induction k with
  | zero => exact Nat.le_refl _
  | succ k ih => unfold cnt; split <;> omega

set_option maxRecDepth 20000 in
set_option maxHeartbeats 8000000 in
theorem gaps_walk (F : Nat → Prop) (al : Option Addr) (cl : Nat) (L : List (Int × Int × Int)) (f t : Int) (w : World) (hl : Rd F w al L.length 3 (flat3 L)) (hf : I64 f) (ht : I64 t) :
    Calls Try.prog 4 #[.slice al L.length cl, .int .i64 f, .int .i64 t] w fun e w' => e = .returned (.bool true) ∧ Upd none_ w w' := by
  have HL := hide hl
  clear hl
  have hk1 : ∀ W, _ := fun W => kind17 f 2001 W hf ⟨by omega, by omega⟩
  have hk2 : ∀ W, _ := fun W => kind17 t 2001 W ht ⟨by omega, by omega⟩
  have b1 := kindZ_bd f 2001 (by omega)
  have b2 := kindZ_bd t 2001 (by omega)
  generalize kindZ f 2001 = fr at hk1 b1
  generalize kindZ t 2001 = to at hk2 b2
  have HK1 := hide hk1
  have HK2 := hide hk2
  have hmx := run_max2 Try.prog
  clear hk1 hk2
  go_enter Try.func4, Try.ntmps4
  go_wp2_with fail
  refine (shown17 w).mono ?_
  rintro e w1 ⟨rfl, hu1⟩
  go_wp2_with fail
  refine (new_own w w1 hu1).mono ?_
  rintro e w2 ⟨ba, rfl, ha2, -, -⟩
  go_wp2_with fail
  refine (HK1.out w2).mono ?_
  rintro e w3 ⟨rfl, hu3⟩
  go_wp2_with fail
  refine (HK2.out w3).mono ?_
  rintro e w4 ⟨rfl, hu4⟩
  have HA := hide ((ha2.keep hu3).keep hu4)
  clear ha2 hu1 hu3 hu4
  go_wp2_with fail
  go_loopw [9] (fun i wr => ∃ k la oa, k ≤ 40 ∧ i = .int .i64 (k : Nat) ∧ RF w wr ba oa la ∧ WF la ∧ la.length ≤ k) (fun i _ => 40 - (intOf i).toNat)
  case atStart => exact ⟨0, [], none, by omega, rfl, HA.out, WF.nil, Nat.le_refl _⟩
  case round =>
    clear HA
    obtain ⟨k, la, oa, hk, rfl, ha, hwa, hla⟩ := hrel
    have HA := hide ha
    have HWA := hide hwa
    have HLA := hide hla
    clear ha hwa hla
    by_cases hkl : k < L.length ∧ k < 40
    · obtain ⟨hkL, hk40⟩ := hkl
      obtain ⟨g, off, rfl, -, hc⟩ := HL.out.2.resolve_left (by omega)
      have e1 := HA.out.2.1.cell (hc _ _ (flat3_get L k hkL).2.1) id
      have e2 := HA.out.2.1.cell (hc _ _ (flat3_get L k hkL).2.2) id
      rw [← Nat.add_assoc] at e1 e2
      clear hc
      generalize L.getD k (0, 0, 0) = x at e1 e2
      have f1 : (0 : Int) ≤ (k : Int) := by omega
      have f2 : (k : Int) < (L.length : Int) := by omega
      have f3 : (k : Int).toNat = k := by omega
      have f4 : (k : Int) < 40 := by omega
      go_wp2_with fail
      go_still_tail 11, (by kernel_rfl)
      change wpList _ _ _ _ _ wr.drew
      have HA1 : Hid (RF w wr.drew ba oa la) := hide (HA.out.keep ((Upd.refl _ _).drew))
      generalize wr.drew = wd at HA1
      clear HA e1 e2
      go_wp2_with fail
      refine (add_own HA1.out x.2.1 x.2.2 (by have := HLA.out; omega)).mono ?_
      rintro e w4 ⟨oa1, rfl, ha4, -⟩
      have LA := add_law HWA.out x.2.1 x.2.2
      generalize (addL la x.2.1 x.2.2).2 = la1 at ha4 LA
      have HA4 := hide ha4
      have HLAW := hide LA
      clear LA HA1 ha4
      go_wp2_with fail
      go_roundw
      case rel => exact ⟨k + 1, la1, oa1, by omega, by go_num, HA4.out, HLAW.out.1, by have := HLAW.out.2.2.2; have := HLA.out; omega⟩
      case measure => simp [intOf]; omega
    · have hla40 : la.length ≤ 40 := Nat.le_trans HLA.out hk
      have HLA40 := hide hla40
      obtain ⟨D, hD⟩ : ∃ D : Nat, (to - fr).toNat = D := ⟨_, rfl⟩
      clear hla40 HLA
      rcases (show (L.length : Int) ≤ (k : Int) ∨ ((k : Int) < (L.length : Int) ∧ (40 : Int) ≤ (k : Int)) by omega) with q1 | ⟨q1, q2⟩
      all_goals
        go_wp2_with fail
        go_loopw [10, 11, 12] (fun s10 s11 s12 wr => ∃ gp i d : Nat, s10 = Value.int .i64 ((gp : Nat) : Int) ∧ s11 = Value.int .i64 (fr + ((d : Nat) : Int)) ∧ s12 = Value.int .i64 ((i : Nat) : Int) ∧ i ≤ d ∧ gp + cnt la fr d = d ∧ (d = 0 ∨ fr + ((d : Nat) : Int) ≤ to) ∧ RF w wr ba oa la) (fun _ _ s _ => (2001 : Nat) - (intOf s).toNat)
        case atStart => exact ⟨0, 0, 0, rfl, by simp, rfl, Nat.le_refl _, rfl, .inl rfl, HA.out⟩
        case round =>
          clear HA
          obtain ⟨gp, i, d, rfl, rfl, rfl, hid, hgp, hd, ha⟩ := hrel
          have HA := hide ha
          clear ha
          have f1 : (i : Int) < 2001 := by omega
          by_cases hat : fr + (d : Int) < to
          · have hgap := gap_any ba oa la (fr + d) to wr HA.out.1 (by have := HLA40.out; omega)
            obtain ⟨g1, g2⟩ := gap_law HWA.out (fr + d) to
            rw [show max (fr + (d : Int)) 0 = fr + d by omega, show min to 4611686018427387904 = to by omega] at g1 g2
            generalize gapL la (fr + d) to = G at hgap g1 g2
            obtain ⟨⟨x, y⟩, is⟩ := G
            cases is
            · clear g1
              obtain ⟨-, g3⟩ := g2 rfl
              clear g2
              have hfin : gp + cnt la fr D = D := by
                have := cnt_in HWA.out fr d (D - d) (fun m e1 e2 => g3 m e1 (by omega))
                rw [show d + (D - d) = D by omega] at this
                omega
              have HFIN := hide hfin
              clear g3 hfin
              go_wp2_with fail
              refine hgap.mono ?_
              rintro e w5 ⟨rfl, hu5⟩
              have hz5 := HA.out.keep hu5
              clear hgap hu5 HA
              go_wp2_with fail
              have HZ := hide (hz5.keep ((Upd.refl none_ w5).alloc (.cells #[.int .i64 x, .int .i64 y] 33)))
              clear hz5
              generalize w5.alloc (.cells #[.int .i64 x, .int .i64 y] 33) = w6 at HZ
              go_loopw [15, 16] (fun s15 s16 wr => ∃ m : Nat, m ≤ D ∧ s15 = .int .i64 (cnt la fr m : Nat) ∧ s16 = .int .i64 (fr + (m : Nat)) ∧ RF w wr ba oa la) (fun _ s _ => D - (intOf s - fr).toNat)
              case atStart => exact ⟨0, Nat.zero_le _, rfl, by simp, HZ.out⟩
              case round =>
                clear HZ
                obtain ⟨m, hm, rfl, rfl, hz⟩ := hrel
                have HZ := hide hz
                clear hz
                have hcl := cnt_le la fr m
                by_cases hml : m < D
                · have q3 : fr + (m : Int) < to := by omega
                  have hhas := has_any ba oa la (fr + m) wr HZ.out.1 (by have := HLA40.out; omega)
                  have HC := hide (show cnt la fr (m + 1) = cnt la fr m + if hasL la (fr + m) then 1 else 0 from rfl)
                  generalize cnt la fr m = c at HC hcl
                  generalize hasL la (fr + m) = hb at hhas HC
                  go_wp2_with fail
                  refine hhas.mono ?_
                  rintro e w9 ⟨rfl, hu9⟩
                  have HZ9 := hide (HZ.out.keep hu9)
                  clear hu9 hhas HZ
                  cases hb
                  · go_wp2_with fail
                    go_roundw
                    case rel => exact ⟨m + 1, by omega, by rw [HC.out]; simp, by go_num, HZ9.out⟩
                    case measure => simp [intOf]; omega
                  · go_wp2_with fail
                    go_roundw
                    case rel => exact ⟨m + 1, by omega, by rw [HC.out]; simp, by go_num, HZ9.out⟩
                    case measure => simp [intOf]; omega
                · obtain rfl : m = D := by omega
                  have q3 : to ≤ fr + (m : Int) := by omega
                  have hfin := HFIN.out
                  generalize cnt la fr m = c at hfin hcl
                  have hres : (((gp : Int) + (c : Int)) == max 0 (to - fr)) = true := by simp; omega
                  go_wp2_with fail
                  go_ret
                  exact ⟨rfl, HZ.out.2.1⟩
            · clear g2
              obtain ⟨g3, g4, g5, g6, g7, -⟩ := g1 rfl
              clear g1
              simp only at g3 g4 g5 g6 g7
              have hh1 : hasL la x = false := by
                have := mt (has_law HWA.out x).1 (g7 x (Int.le_refl _) g4)
                simpa using this
              have hh2 : hasL la (y - 1) = false := by
                have := mt (has_law HWA.out (y - 1)).1 (g7 (y - 1) (by omega) (by omega))
                simpa using this
              have hc1 : (gp + (y - x).toNat) + cnt la fr (y - fr).toNat = (y - fr).toNat := by
                have a1 := cnt_in HWA.out fr d (x - fr - d).toNat (fun m e1 e2 => g6 m e1 (by omega))
                have a2 := cnt_out HWA.out fr (d + (x - fr - d).toNat) (y - x).toNat (fun m e1 e2 => g7 m (by omega) (by omega))
                rw [show d + (x - fr - d).toNat + (y - x).toNat = (y - fr).toNat by omega] at a2
                omega
              have HC1 := hide hc1
              have hgb : gp ≤ 2000 := by omega
              have hhas1 : ∀ W, RF w W ba oa la → Calls Try.prog 21 #[.pointer (some ⟨ba, 0, none⟩), .int .i64 x] W fun e w' => e = .returned (.bool false) ∧ Upd none_ W w' := fun W h => by rw [← hh1]; exact has_any ba oa la x W h.1 (by have := HLA40.out; omega)
              have hhas2 : ∀ W, RF w W ba oa la → Calls Try.prog 21 #[.pointer (some ⟨ba, 0, none⟩), .int .i64 (y - 1)] W fun e w' => e = .returned (.bool false) ∧ Upd none_ W w' := fun W h => by rw [← hh2]; exact has_any ba oa la (y - 1) W h.1 (by have := HLA40.out; omega)
              have HH1 := hide hhas1
              have HH2 := hide hhas2
              clear hc1 hhas1 hhas2 hh1 hh2 g6 g7 hgp
              go_wp2_with fail
              refine hgap.mono ?_
              rintro e w5 ⟨rfl, hu5⟩
              have hz5 := HA.out.keep hu5
              clear hgap hu5 HA
              go_wp2_with fail
              have hbx : (w5.alloc (.cells #[.int .i64 x, .int .i64 y] 33)).heap[w5.heap.size]? = some (.cells #[.int .i64 x, .int .i64 y] 33 (0, 0)) := (by repeat' first | assumption | (refine heapA_at _ _ _ ?_; first | rfl | (simp; done) | omega) | (refine (heapA_past _ _ _ ?_).trans ?_; · first | (simp; done) | (simp; omega)) | refine (heapN _ _ _).trans ?_ | refine (heapD _ _).trans ?_)
              have hz6 := hz5.keep ((Upd.refl none_ w5).alloc (.cells #[.int .i64 x, .int .i64 y] 33))
              clear hz5
              generalize w5.alloc (.cells #[.int .i64 x, .int .i64 y] 33) = w6 at hbx hz6
              generalize w5.heap.size = G at hbx
              have hc0 : w6.cell? ⟨G, 0, none⟩ = some (.int .i64 x) := by rw [cell_of_row w6 G _ _ _ _ hbx]; rfl
              have hc1 : w6.cell? ⟨G, 1, none⟩ = some (.int .i64 y) := by rw [cell_of_row w6 G _ _ _ _ hbx]; rfl
              clear hbx
              refine (HH1.out w6 hz6).mono ?_
              rintro e w7 ⟨rfl, hu7⟩
              have hz7 := hz6.keep hu7
              have hc2 := hu7.cell hc0 id
              have hc3 := hu7.cell hc1 id
              clear hz6 hu7 hc0 hc1
              have f9 : IntKind.i64.wrap (y - 1) = y - 1 := IntWalk.i64_in _ (by omega)
              go_wp2_with fail
              refine (HH2.out w7 hz7).mono ?_
              rintro e w8 ⟨rfl, hu8⟩
              have hz8 := hz7.keep hu8
              have hc4 := hu8.cell hc2 id
              have hc5 := hu8.cell hc3 id
              have HZ8 := hide hz8
              clear hz7 hu8 hc2 hc3 hz8
              have f10 : IntKind.i64.wrap ((gp : Int) + y) = (gp : Int) + y := IntWalk.i64_in _ (by omega)
              have f11 : IntKind.i64.wrap ((gp : Int) + y - x) = (gp : Int) + y - x := IntWalk.i64_in _ (by omega)
              go_wp2_with fail
              go_roundw
              case rel => exact ⟨gp + (y - x).toNat, i + 1, (y - fr).toNat, by congr 1; omega, by congr 1; omega, by go_num, by omega, HC1.out, .inr (by omega), HZ8.out⟩
              case measure => simp [intOf]; omega
          · have hdD : d = D := by omega
            have hfin : gp + cnt la fr D = D := by rw [← hdD]; exact hgp
            have HFIN := hide hfin
            have HZ := HA
            clear hfin HA hgp
            have q9 : to ≤ fr + (d : Int) := by omega
            go_wp2_with fail
            go_loopw [15, 16] (fun s15 s16 wr => ∃ m : Nat, m ≤ D ∧ s15 = .int .i64 (cnt la fr m : Nat) ∧ s16 = .int .i64 (fr + (m : Nat)) ∧ RF w wr ba oa la) (fun _ s _ => D - (intOf s - fr).toNat)
            case atStart => exact ⟨0, Nat.zero_le _, rfl, by simp, HZ.out⟩
            case round =>
              clear HZ
              obtain ⟨m, hm, rfl, rfl, hz⟩ := hrel
              have HZ := hide hz
              clear hz
              have hcl := cnt_le la fr m
              by_cases hml : m < D
              · have q3 : fr + (m : Int) < to := by omega
                have hhas := has_any ba oa la (fr + m) wr HZ.out.1 (by have := HLA40.out; omega)
                have HC := hide (show cnt la fr (m + 1) = cnt la fr m + if hasL la (fr + m) then 1 else 0 from rfl)
                generalize cnt la fr m = c at HC hcl
                generalize hasL la (fr + m) = hb at hhas HC
                go_wp2_with fail
                refine hhas.mono ?_
                rintro e w9 ⟨rfl, hu9⟩
                have HZ9 := hide (HZ.out.keep hu9)
                clear hu9 hhas HZ
                cases hb
                · go_wp2_with fail
                  go_roundw
                  case rel => exact ⟨m + 1, by omega, by rw [HC.out]; simp, by go_num, HZ9.out⟩
                  case measure => simp [intOf]; omega
                · go_wp2_with fail
                  go_roundw
                  case rel => exact ⟨m + 1, by omega, by rw [HC.out]; simp, by go_num, HZ9.out⟩
                  case measure => simp [intOf]; omega
              · obtain rfl : m = D := by omega
                have q3 : to ≤ fr + (m : Int) := by omega
                have hfin := HFIN.out
                generalize cnt la fr m = c at hfin hcl
                have hres : (((gp : Int) + (c : Int)) == max 0 (to - fr)) = true := by simp; omega
                go_wp2_with fail
                go_ret
                exact ⟨rfl, HZ.out.2.1⟩
end Go.Proofs.Ytjjiemicacbmaaa
