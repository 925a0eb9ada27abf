/- The walk of RangesOrder. -/
import Derived.Test.YtjjiemicacbmaaaOp1
namespace Go.Proofs.Ytjjiemicacbmaaa
open Go.RowKit Go.Shelf

/-- Two ranges that share no block. -/
def Far (b : Nat) (o : Option Nat) (b' : Nat) (o' : Option Nat) : Prop := b ≠ b' ∧ (∀ g, o = some g → g ≠ b' ∧ o' ≠ some g) ∧ ∀ g, o' = some g → g ≠ b
theorem Far.symm {b b' : Nat} {o o' : Option Nat} (h : Far b o b' o') : Far b' o' b o :=
  ⟨h.1.symm, fun g hg => ⟨h.2.2 g hg, fun e => (h.2.1 g e).2 hg⟩, fun g hg => (h.2.1 g hg).1⟩
theorem Far.new {w0 w : World} {b b' : Nat} {o : Option Nat} {l : List (Int × Int)} (h : RF w0 w b o l) (hb : w.heap.size ≤ b') : Far b o b' none :=
  ⟨fun e => by have := h.1.lt; omega, fun g hg => ⟨fun e => by have := h.1.olt g hg; omega, nofun⟩, nofun⟩
/-- What is far from ranges that change stays as it is, and far. -/
theorem RF.stays {w0 w w' : World} {b b' : Nat} {o o1 o' : Option Nat} {l l1 l' : List (Int × Int)} (h : RF w0 w b o l) (hm : RGmoved w w' b o o1) (h1 : RF w0 w' b o1 l1) (h' : RF w0 w b' o' l') (hf : Far b o b' o') : RF w0 w' b' o' l' ∧ Far b o1 b' o' := by
  refine ⟨⟨h'.1.upd hm.1 (fun e => e.elim (fun e => hf.1 e.symm) (fun e => (hf.2.1 _ e).1 rfl)) (fun g hg e => e.elim (hf.2.2 g hg) (fun e => (hf.2.1 _ e).2 hg)), h1.2.1, h'.2.2⟩, hf.1, fun g hg => ?_, hf.2.2⟩
  rcases hm.2 with e | e
  · exact hf.2.1 g (e ▸ hg)
  · have h2 := e g hg
    exact ⟨fun e => by have := h'.1.lt; omega, fun e => by have := h'.1.olt g e; omega⟩

/-- The numbers of a call. -/
def InR (x : Int × Int × Int) (n : Int) : Prop := max x.2.1 0 ≤ n ∧ n < min x.2.2 4611686018427387904

theorem set_snoc {k : Nat} {p : Nat → Prop} : ((∃ m, m < k ∧ p m) ∨ p k) ↔ ∃ m, m < k + 1 ∧ p m := by
  constructor
  · rintro (⟨m, h1, h2⟩ | h)
    · exact ⟨m, by omega, h2⟩
    · exact ⟨k, by omega, h⟩
  · rintro ⟨m, h1, h2⟩
    by_cases h : m = k
    · exact .inr (h ▸ h2)
    · exact .inl ⟨m, by omega, h2⟩

theorem snocA {L : List (Int × Int × Int)} {k : Nat} {x : Int × Int × Int} (h : L.getD k (0, 0, 0) = x) (n : Int) :
    ((∃ m, m < k ∧ InR (L.getD m (0, 0, 0)) n) ∨ (max x.2.1 0 ≤ n ∧ n < min x.2.2 4611686018427387904)) ↔ ∃ m, m < k + 1 ∧ InR (L.getD m (0, 0, 0)) n := by
  rw [← h]; exact set_snoc (p := fun m => InR (L.getD m (0, 0, 0)) n)
theorem snocB {L : List (Int × Int × Int)} {N k r : Nat} {x : Int × Int × Int} (hr : N - 1 - k = r) (h : L.getD r (0, 0, 0) = x) (n : Int) :
    ((∃ m, m < k ∧ InR (L.getD (N - 1 - m) (0, 0, 0)) n) ∨ (max x.2.1 0 ≤ n ∧ n < min x.2.2 4611686018427387904)) ↔ ∃ m, m < k + 1 ∧ InR (L.getD (N - 1 - m) (0, 0, 0)) n := by
  rw [← h, ← hr]; exact set_snoc (p := fun m => InR (L.getD (N - 1 - m) (0, 0, 0)) n)

set_option maxRecDepth 20000 in
set_option maxHeartbeats 8000000 in
theorem order_walk (F F' : Nat → Prop) (al ac : Option Addr) (cl cc : Nat) (L : List (Int × Int × Int)) (M : List Int) (w : World) (hl : Rd F w al L.length 3 (flat3 L)) (hm : Rd F' w ac M.length 1 (M.map (Value.int .i64)))
    (hn1 : L.length ≤ 9223372036854775807) (hn2 : M.length ≤ 9223372036854775807) :
    Calls Try.prog 3 #[.slice al L.length cl, .slice ac M.length cc] w fun e w' => e = .returned (.bool true) ∧ Upd none_ w w' := by
  obtain ⟨N, hN⟩ : ∃ N : Nat, min (L.length : Int) 40 = (N : Int) := ⟨min L.length 40, by omega⟩
  have hmn : ∀ ats t W, (Builtin.min_ ats t #[.int .i64 (L.length : Int), .int .i64 40]).run Try.prog W = .ok (.int .i64 N) W := fun ats t W => by rw [run_min2, hN]
  have HL := hide hl
  have HM := hide hm
  clear hl hm
  go_enter Try.func3, Try.ntmps3
  go_wp2_with fail
  refine (shown17 w).mono ?_
  rintro e w1 ⟨rfl, hu1⟩
  go_wp2_with fail
  refine (new_own w w1 hu1).mono ?_
  rintro e w2 ⟨ba, rfl, ha2, -, hu2⟩
  go_wp2_with fail
  refine (new_own w w2 (hu1.trans hu2)).mono ?_
  rintro e w3 ⟨bb, rfl, hb3, hbb, hu3⟩
  have hf := Far.new ha2 hbb
  have HA := hide (ha2.keep hu3)
  have HB := hide hb3
  have HF := hide hf
  clear ha2 hb3 hbb hu1 hu2 hu3 hf
  go_wp2_with fail
  go_loopw [9] (fun i wr => ∃ k la oa lb ob, k ≤ N ∧ i = .int .i64 (k : Nat) ∧ RF w wr ba oa la ∧ RF w wr bb ob lb ∧ Far ba oa bb ob ∧ WF la ∧ WF lb ∧ la.length ≤ k ∧ lb.length ≤ 2 * k ∧
    (∀ n, InS la n ↔ ∃ m, m < k ∧ InR (L.getD m (0, 0, 0)) n) ∧ (∀ n, InS lb n ↔ ∃ m, m < k ∧ InR (L.getD (N - 1 - m) (0, 0, 0)) n)) (fun i _ => N - (intOf i).toNat)
  case atStart => exact ⟨0, [], none, [], none, Nat.zero_le _, rfl, HA.out, HB.out, HF.out, WF.nil, WF.nil, Nat.le_refl _, Nat.le_refl _, fun n => ⟨fun h => absurd h InS.nil, fun ⟨m, h, _⟩ => absurd h (Nat.not_lt_zero _)⟩, fun n => ⟨fun h => absurd h InS.nil, fun ⟨m, h, _⟩ => absurd h (Nat.not_lt_zero _)⟩⟩
  case round =>
    clear HA HB HF
    obtain ⟨k, la, oa, lb, ob, hk, rfl, ha, hb, hf, hwa, hwb, hla, hlb, hsa, hsb⟩ := hrel
    have HA := hide ha
    have HB := hide hb
    have HF := hide hf
    have HWA := hide hwa
    have HWB := hide hwb
    have HLA := hide hla
    have HLB := hide hlb
    have HSA := hide hsa
    have HSB := hide hsb
    clear ha hb hf hwa hwb hla hlb hsa hsb
    by_cases hkl : k < N
    · have hkL : k < L.length := by omega
      obtain ⟨g, off, rfl, -, hc⟩ := HL.out.2.resolve_left (by omega)
      have e1 := HA.out.2.1.cell (hc _ _ (flat3_get L k hkL).2.1) id
      have e2 := HA.out.2.1.cell (hc _ _ (flat3_get L k hkL).2.2) id
      rw [← Nat.add_assoc] at e1 e2
      generalize hx : L.getD k (0, 0, 0) = x at e1 e2
      have HX := hide hx
      have HC := hide hc
      clear hx hc
      have f1 : (0 : Int) ≤ (k : Int) := by omega
      have f2 : (k : Int) < (L.length : Int) := by omega
      have f3 : (k : Int).toNat = k := by omega
      go_wp2_with fail
      go_still_tail 11, (by kernel_rfl)
      change wpList _ _ _ _ _ wr.drew
      have HA1 : Hid (RF w wr.drew ba oa la) := hide (HA.out.keep ((Upd.refl _ _).drew))
      have HB1 : Hid (RF w wr.drew bb ob lb) := hide (HB.out.keep ((Upd.refl _ _).drew))
      generalize wr.drew = wd at HA1 HB1
      clear HA HB e1 e2
      go_wp2_with fail
      refine (add_own HA1.out x.2.1 x.2.2 (by have := HLA.out; omega)).mono ?_
      rintro e w4 ⟨oa1, rfl, ha4, hm4⟩
      have hs4 := HA1.out.stays hm4 ha4 HB1.out HF.out
      have HA4 := hide ha4
      have HB4 := hide hs4.1
      have HF4 := hide hs4.2
      clear ha4 hm4 hs4 HA1 HB1 HF
      have LA := add_law HWA.out x.2.1 x.2.2
      generalize (addL la x.2.1 x.2.2).2 = la1 at HA4 LA
      have HLAW := hide LA
      clear LA
      have g1 : N - 1 - k < L.length := by omega
      have e1 := HA4.out.2.1.cell (HC.out _ _ (flat3_get L _ g1).1) id
      have e2 := HA4.out.2.1.cell (HC.out _ _ (flat3_get L _ g1).2.1) id
      have e3 := HA4.out.2.1.cell (HC.out _ _ (flat3_get L _ g1).2.2) id
      rw [← Nat.add_assoc] at e2 e3
      generalize hy : L.getD (N - 1 - k) (0, 0, 0) = y at e1 e2 e3
      have HY := hide hy
      clear hy
      obtain ⟨y0, y1, y2⟩ := y
      have f4 : IntKind.i64.wrap ((N : Int) - 1) = (N : Int) - 1 := IntWalk.i64_in _ (by omega)
      have f5 : IntKind.i64.wrap ((N : Int) - 1 - (k : Int)) = ((N - 1 - k : Nat) : Int) := by rw [IntWalk.i64_in _ (by omega)]; omega
      have f6 : ((N - 1 - k : Nat) : Int) < (L.length : Int) := by omega
      have f7 : (0 : Int) ≤ ((N - 1 - k : Nat) : Int) := by omega
      generalize hrr : N - 1 - k = r at e1 e2 e3 f5 f6 f7 HY
      have HRR := hide hrr
      clear hrr
      go_wp2_with fail
      have HAP := hide (HB4.out.1.apart (Nat.le_refl _))
      have hU5 : Upd none_ w4 (w4.alloc (.cells #[.int .i64 y0, .int .i64 y1, .int .i64 y2] 29)) := (Upd.refl _ _).alloc _
      have hb5 : (w4.alloc (.cells #[.int .i64 y0, .int .i64 y1, .int .i64 y2] 29)).heap[w4.heap.size]? = some (.cells #[.int .i64 y0, .int .i64 y1, .int .i64 y2] 29 (0, 0)) := (by repeat' first | assumption | (refine heapA_at _ _ _ ?_; first | rfl | (simp; done) | omega) | (refine (heapA_past _ _ _ ?_).trans ?_; · first | (simp; done) | (simp; omega)) | refine (heapN _ _ _).trans ?_ | refine (heapD _ _).trans ?_)
      have HA5 := hide (HA4.out.keep hU5)
      have HB5 := hide (HB4.out.keep hU5)
      clear hU5 HA4 HB4 e1 e2 e3
      generalize (w4.alloc (.cells #[.int .i64 y0, .int .i64 y1, .int .i64 y2] 29)) = wb at hb5 HA5 HB5
      generalize w4.heap.size = G at hb5 HAP
      have b1 : wb.cell? ⟨G, 0, none⟩ = some (.int .i64 y0) := by rw [cell_of_row wb G _ _ _ _ hb5]; rfl
      have b2 : wb.cell? ⟨G, 1, none⟩ = some (.int .i64 y1) := by rw [cell_of_row wb G _ _ _ _ hb5]; rfl
      have b3 : wb.cell? ⟨G, 2, none⟩ = some (.int .i64 y2) := by rw [cell_of_row wb G _ _ _ _ hb5]; rfl
      clear hb5
      by_cases hkM : k < M.length
      · obtain ⟨gm, om, rfl, -, hcm⟩ := HM.out.2.resolve_left (by omega)
        have z1 := HA5.out.2.1.cell (hcm k _ (by rw [List.getElem?_map, List.getElem?_eq_getElem hkM]; rfl)) id
        have hz0 : ∀ W, Upd none_ w W → W.cell? ⟨gm, om + k, none⟩ = some (.int .i64 M[k]) := fun W hW => hW.cell (hcm k _ (by rw [List.getElem?_map, List.getElem?_eq_getElem hkM]; rfl)) id
        clear hcm
        generalize M[k] = z at z1 hz0
        have HZ0 := hide hz0
        clear hz0
        have q1 : (k : Int) < (M.length : Int) := by omega
        by_cases hz : y1 < z ∧ z < y2
        · have d1 : y1 < z := hz.1
          have d2 : z < y2 := hz.2
          go_wp2_with fail
          go_quiet (fail)
          have HA6 : Hid (RF w (wb.drewN nq) ba oa1 la1) := hide (HA5.out.keep ((Upd.refl _ _).drewN _))
          have HB6 : Hid (RF w (wb.drewN nq) bb ob lb) := hide (HB5.out.keep ((Upd.refl _ _).drewN _))
          have b5 : (wb.drewN nq).cell? ⟨G, 1, none⟩ = some (.int .i64 y1) := b2
          have b6 : (wb.drewN nq).cell? ⟨G, 2, none⟩ = some (.int .i64 y2) := b3
          have z2 : (wb.drewN nq).cell? ⟨gm, om + k, none⟩ = some (.int .i64 z) := z1
          generalize wb.drewN nq = wc at HA6 HB6 b5 b6 z2
          clear HA5 HB5 b1 b2 b3 z1
          go_wp2_with fail
          go_still_tail 7, (by kernel_rfl)
          change wpList _ _ _ _ _ wc.drew
          have HA7 : Hid (RF w wc.drew ba oa1 la1) := hide (HA6.out.keep ((Upd.refl _ _).drew))
          have HB7 : Hid (RF w wc.drew bb ob lb) := hide (HB6.out.keep ((Upd.refl _ _).drew))
          have b7 : wc.drew.cell? ⟨G, 1, none⟩ = some (.int .i64 y1) := b5
          have hGl : G < wc.drew.heap.size := World.block_lt_of_cell? wc _ b5
          generalize wc.drew = wd2 at HA7 HB7 b7 hGl
          clear HA6 HB6 b5 b6 z2
          go_wp2_with fail
          refine (add_own HB7.out z y2 (by have := HLB.out; omega)).mono ?_
          rintro e w8 ⟨ob1, rfl, hb8, hm8⟩
          have hs8 := HB7.out.stays hm8 hb8 HA7.out HF4.out.symm
          have b8 := hm8.cell b7 HAP.out
          have z3 := HZ0.out w8 hb8.2.1
          have HB8 := hide hb8
          have HA8 := hide hs8.1
          have HF8 := hide hs8.2
          clear hb8 hm8 hs8 HB7 HA7 b7 hGl HAP
          have LB := add_law HWB.out z y2
          generalize (addL lb z y2).2 = lb1 at HB8 LB
          have HLBW := hide LB
          clear LB
          go_wp2_with fail
          go_still_tail 7, (by kernel_rfl)
          change wpList _ _ _ _ _ w8.drew
          have HA9 : Hid (RF w w8.drew ba oa1 la1) := hide (HA8.out.keep ((Upd.refl _ _).drew))
          have HB9 : Hid (RF w w8.drew bb ob1 lb1) := hide (HB8.out.keep ((Upd.refl _ _).drew))
          generalize w8.drew = w9 at HA9 HB9
          clear HA8 HB8 b8 z3
          go_wp2_with fail
          refine (add_own HB9.out y1 z (by have := HLB.out; have := HLBW.out.2.2.2; omega)).mono ?_
          rintro e w10 ⟨ob2, rfl, hb10, hm10⟩
          have hs10 := HB9.out.stays hm10 hb10 HA9.out HF8.out
          have HB10 := hide hb10
          have HA10 := hide hs10.1
          have HF10 := hide hs10.2.symm
          clear hb10 hm10 hs10 HB9 HA9
          have LB := add_law HLBW.out.1 y1 z
          generalize (addL lb1 y1 z).2 = lb2 at HB10 LB
          have HLB2 := hide LB
          clear LB
          go_wp2_with fail
          go_roundw
          case rel => exact ⟨k + 1, la1, oa1, lb2, ob2, by omega, by go_num, HA10.out, HB10.out, HF10.out, HLAW.out.1, HLB2.out.1, by have := HLAW.out.2.2.2; have := HLA.out; omega, by have := HLB2.out.2.2.2; have := HLBW.out.2.2.2; have := HLB.out; omega,
            fun n => by rw [HLAW.out.2.1 n, HSA.out n]; exact snocA HX.out n, fun n => by rw [HLB2.out.2.1 n, HLBW.out.2.1 n, HSB.out n, ← snocB (x := (y0, y1, y2)) HRR.out HY.out n, or_assoc]; refine or_congr_right ?_; simp only; omega⟩
          case measure => simp [intOf]; omega
        · by_cases d1 : y1 < z
          · have d2 : decide (z < y2) = false := by simp; omega
            have d3 : ¬ z < y2 := by omega

            go_wp2_with fail
            go_quiet (fail)
            have HA6 : Hid (RF w (wb.drewN nq) ba oa1 la1) := hide (HA5.out.keep ((Upd.refl _ _).drewN _))
            have HB6 : Hid (RF w (wb.drewN nq) bb ob lb) := hide (HB5.out.keep ((Upd.refl _ _).drewN _))
            have b4 : (wb.drewN nq).cell? ⟨G, 0, none⟩ = some (.int .i64 y0) := b1
            have b5 : (wb.drewN nq).cell? ⟨G, 1, none⟩ = some (.int .i64 y1) := b2
            have b6 : (wb.drewN nq).cell? ⟨G, 2, none⟩ = some (.int .i64 y2) := b3
            generalize wb.drewN nq = wc at HA6 HB6 b4 b5 b6
            clear HA5 HB5 b1 b2 b3
            go_wp2_with fail
            refine (add_own HB6.out y1 y2 (by have := HLB.out; omega)).mono ?_
            rintro e w7 ⟨ob1, rfl, hb7, hm7⟩
            have hs7 := HB6.out.stays hm7 hb7 HA6.out HF4.out.symm
            have HB7 := hide hb7
            have HA7 := hide hs7.1
            have HF7 := hide hs7.2.symm
            clear hb7 hm7 hs7 HB6 HA6
            have LB := add_law HWB.out y1 y2
            generalize (addL lb y1 y2).2 = lb1 at HB7 LB
            have HLBW := hide LB
            clear LB
            go_wp2_with fail
            go_roundw
            case rel => exact ⟨k + 1, la1, oa1, lb1, ob1, by omega, by go_num, HA7.out, HB7.out, HF7.out, HLAW.out.1, HLBW.out.1, by have := HLAW.out.2.2.2; have := HLA.out; omega, by have := HLBW.out.2.2.2; have := HLB.out; omega,
              fun n => by rw [HLAW.out.2.1 n, HSA.out n]; exact snocA HX.out n, fun n => by rw [HLBW.out.2.1 n, HSB.out n]; exact snocB (x := (y0, y1, y2)) HRR.out HY.out n⟩
            case measure => simp [intOf]; omega
          · have d2 : decide (y1 < z) = false := by simp; omega

            go_wp2_with fail
            go_quiet (fail)
            have HA6 : Hid (RF w (wb.drewN nq) ba oa1 la1) := hide (HA5.out.keep ((Upd.refl _ _).drewN _))
            have HB6 : Hid (RF w (wb.drewN nq) bb ob lb) := hide (HB5.out.keep ((Upd.refl _ _).drewN _))
            have b4 : (wb.drewN nq).cell? ⟨G, 0, none⟩ = some (.int .i64 y0) := b1
            have b5 : (wb.drewN nq).cell? ⟨G, 1, none⟩ = some (.int .i64 y1) := b2
            have b6 : (wb.drewN nq).cell? ⟨G, 2, none⟩ = some (.int .i64 y2) := b3
            generalize wb.drewN nq = wc at HA6 HB6 b4 b5 b6
            clear HA5 HB5 b1 b2 b3
            go_wp2_with fail
            refine (add_own HB6.out y1 y2 (by have := HLB.out; omega)).mono ?_
            rintro e w7 ⟨ob1, rfl, hb7, hm7⟩
            have hs7 := HB6.out.stays hm7 hb7 HA6.out HF4.out.symm
            have HB7 := hide hb7
            have HA7 := hide hs7.1
            have HF7 := hide hs7.2.symm
            clear hb7 hm7 hs7 HB6 HA6
            have LB := add_law HWB.out y1 y2
            generalize (addL lb y1 y2).2 = lb1 at HB7 LB
            have HLBW := hide LB
            clear LB
            go_wp2_with fail
            go_roundw
            case rel => exact ⟨k + 1, la1, oa1, lb1, ob1, by omega, by go_num, HA7.out, HB7.out, HF7.out, HLAW.out.1, HLBW.out.1, by have := HLAW.out.2.2.2; have := HLA.out; omega, by have := HLBW.out.2.2.2; have := HLB.out; omega,
              fun n => by rw [HLAW.out.2.1 n, HSA.out n]; exact snocA HX.out n, fun n => by rw [HLBW.out.2.1 n, HSB.out n]; exact snocB (x := (y0, y1, y2)) HRR.out HY.out n⟩
            case measure => simp [intOf]; omega
      · have q1 : decide ((k : Int) < (M.length : Int)) = false := by simp; omega
        have q2 : ¬ (k : Int) < (M.length : Int) := by omega

        go_wp2_with fail
        go_quiet (fail)
        have HA6 : Hid (RF w (wb.drewN nq) ba oa1 la1) := hide (HA5.out.keep ((Upd.refl _ _).drewN _))
        have HB6 : Hid (RF w (wb.drewN nq) bb ob lb) := hide (HB5.out.keep ((Upd.refl _ _).drewN _))
        have b4 : (wb.drewN nq).cell? ⟨G, 0, none⟩ = some (.int .i64 y0) := b1
        have b5 : (wb.drewN nq).cell? ⟨G, 1, none⟩ = some (.int .i64 y1) := b2
        have b6 : (wb.drewN nq).cell? ⟨G, 2, none⟩ = some (.int .i64 y2) := b3
        generalize wb.drewN nq = wc at HA6 HB6 b4 b5 b6
        clear HA5 HB5 b1 b2 b3
        go_wp2_with fail
        refine (add_own HB6.out y1 y2 (by have := HLB.out; omega)).mono ?_
        rintro e w7 ⟨ob1, rfl, hb7, hm7⟩
        have hs7 := HB6.out.stays hm7 hb7 HA6.out HF4.out.symm
        have HB7 := hide hb7
        have HA7 := hide hs7.1
        have HF7 := hide hs7.2.symm
        clear hb7 hm7 hs7 HB6 HA6
        have LB := add_law HWB.out y1 y2
        generalize (addL lb y1 y2).2 = lb1 at HB7 LB
        have HLBW := hide LB
        clear LB
        go_wp2_with fail
        go_roundw
        case rel => exact ⟨k + 1, la1, oa1, lb1, ob1, by omega, by go_num, HA7.out, HB7.out, HF7.out, HLAW.out.1, HLBW.out.1, by have := HLAW.out.2.2.2; have := HLA.out; omega, by have := HLBW.out.2.2.2; have := HLB.out; omega,
          fun n => by rw [HLAW.out.2.1 n, HSA.out n]; exact snocA HX.out n, fun n => by rw [HLBW.out.2.1 n, HSB.out n]; exact snocB (x := (y0, y1, y2)) HRR.out HY.out n⟩
        case measure => simp [intOf]; omega
    · obtain rfl : k = N := by omega
      have heq : la = lb := HWA.out.eq HWB.out fun n => by
        rw [HSA.out n, HSB.out n]
        constructor
        · rintro ⟨m, h1, h2⟩; exact ⟨k - 1 - m, by omega, by rw [show k - 1 - (k - 1 - m) = m by omega]; exact h2⟩
        · rintro ⟨m, h1, h2⟩; exact ⟨k - 1 - m, by omega, h2⟩
      subst heq
      have HLA40 := hide (show la.length ≤ 40 by have := HLA.out; omega)
      clear HSA HSB HLB HLA HWB HF
      go_wp2_with fail
      refine (list_any ba oa la wr HA.out.1 (by have := HLA40.out; omega)).mono ?_
      rintro e w4 ⟨a4, c4, rfl, hown, hu4⟩
      have HR4 := hide (rd_own' hown).2
      have HB4 := hide (HB.out.keep hu4)
      have hu04 := HA.out.2.1.thenNew hu4
      clear hown HB HA hu4
      go_wp2_with fail
      go_loopw [12] (fun i wr2 => ∃ j : Nat, 1 ≤ j ∧ (la.length = 0 ∨ j ≤ la.length) ∧ i = .int .i64 (j : Nat) ∧ Upd none_ w4 wr2) (fun i _ => la.length - (intOf i).toNat)
      case atStart => exact ⟨1, Nat.le_refl _, by omega, rfl, Upd.refl _ _⟩
      case round =>
        obtain ⟨j, hj1, hj, rfl, hu⟩ := hrel
        have hla := HLA40.out
        by_cases hjl : j < la.length
        · obtain ⟨g, off, rfl, -, hc⟩ := HR4.out.2.resolve_left (by omega)
          have e1 := hu.cell (hc _ _ (flat_get la j hjl).1) id
          have e2 := hu.cell (hc _ _ (flat_get la j hjl).2) id
          have e3 := hu.cell (hc _ _ (flat_get la (j - 1) (by omega)).2) id
          rw [← Nat.add_assoc] at e2 e3
          have hwf := HWA.out.rise (i := j - 1) (j := j) (by omega) hjl (by omega)
          have hwf2 := HWA.out.at' hjl
          rw [getD_in la j hjl] at e1 e2
          rw [getD_in la (j - 1) (by omega)] at e3
          generalize la[j] = x at e1 e2 hwf hwf2
          generalize la[j - 1] = y at e3 hwf
          have f1 : IntKind.i64.wrap ((j : Int) - 1) = (j : Int) - 1 := IntWalk.i64_in _ (by omega)
          have f2 : ((j : Int) - 1).toNat = j - 1 := by omega
          have f3 : (0 : Int) ≤ (j : Int) - 1 := by omega
          have f4 : (j : Int) - 1 < (la.length : Int) := by omega
          have f5 : (j : Int) < (la.length : Int) := by omega
          have f6 : (0 : Int) ≤ (j : Int) := by omega
          have f7 : (1 : Int) ≤ (j : Int) := by omega
          have f8 : decide (x.1 ≤ y.2) = false := by simp; omega
          have f9 : decide (x.2 ≤ x.1) = false := by simp; omega
          have f10 : ¬ x.1 ≤ y.2 := by omega
          have f11 : ¬ x.2 ≤ x.1 := by omega
          have HU := hide hu
          clear hu hc hwf hwf2
          go_wp2_with fail
          go_quiet (fail)
          go_wp2_with fail
          go_roundw
          case rel => exact ⟨j + 1, by omega, by omega, by go_num, HU.out.drewN _⟩
          case measure => simp [intOf]; omega
        · have HU := hide hu
          clear hu
          go_wp2_with fail
          refine (list_any bb ob la wr (HB4.out.keep HU.out).1 (by have := HLA40.out; omega)).mono ?_
          rintro e w5 ⟨a5, c5, rfl, hown, hu5⟩
          have hr5 := (rd_own' hown).2
          go_wp2_with fail
          refine (same17 _ _ a4 a5 c4 c5 la w5 (HR4.out.upd (HU.out.trans hu5) (fun _ _ => id)) hr5 (by have := HLA40.out; omega)).mono ?_
          rintro e w6 ⟨rfl, hu6⟩
          go_wp2_with fail
          go_ret
          exact ⟨rfl, ((hu04.trans HU.out).trans hu5).trans hu6⟩
end Go.Proofs.Ytjjiemicacbmaaa
