/- The walk of RangesPlays. -/
import Derived.Test.YtjjiemicacbmaaaRq7
import Derived.Deep.RegionHeld3
import Derived.Deep.DeepCutAuto
import Derived.Deep.CutBlock
namespace Go.Proofs.Ytjjiemicacbmaaa
open Go.RowKit Go.Shelf

/-- What holds of both ranges. -/
def Both (w wr : World) (br : Nat) (o : Option Nat) (by_ : Nat) (o' : Option Nat) (l : List (Int × Int)) (k : Nat) : Prop :=
  RF w wr br o l ∧ QF w wr by_ o' l ∧ Far br o by_ o' ∧ WF l ∧ l.length ≤ k

set_option maxRecDepth 100000 in
set_option maxHeartbeats 80000000 in
theorem plays_walk (F : Nat → Prop) (al : Option Addr) (cl : Nat) (L : List (Int × Int × Int)) (w : World) (hl : Rd F w al L.length 3 (flat3 L)) (hn1 : L.length ≤ 9223372036854775807) (hi : ∀ x ∈ L, I64 x.1 ∧ I64 x.2.1 ∧ I64 x.2.2) :
    Calls Try.prog 5 #[.slice al L.length cl] w fun e w' => e = .returned (.bool true) ∧ Upd none_ w w' := by
  have HL := hide hl
  have HI := hide hi
  clear hl hi
  go_enter Try.func5, Try.ntmps5
  go_wp2_with fail
  refine (shown17 w).mono ?_
  rintro e w1 ⟨rfl, hu1⟩
  go_wp2_with fail
  refine (new_own w w1 hu1).mono ?_
  rintro e w2 ⟨br, rfl, hr2, -, hu2⟩
  go_wp2_with fail
  obtain ⟨bq, hbq⟩ : ∃ bq, w2.heap.size = bq := ⟨_, rfl⟩
  have hU : Upd none_ w2 (w2.alloc (.cells #[.slice none 0 0] 42)) := (Upd.refl _ _).alloc _
  have hq3 : RQ (w2.alloc (.cells #[.slice none 0 0] 42)) bq none [] := by
    subst hbq
    exact ⟨.slice none 0 0, heapA_at _ _ _ rfl, World.ownsRow_nil _ _ _ _, rfl⟩
  have HS := hide (show Both w (w2.alloc (.cells #[.slice none 0 0] 42)) br none bq none [] 0 from
    ⟨hr2.keep hU, ⟨hq3, (hu1.trans hu2).trans hU, by have := (hu1.trans hu2).size; omega, nofun⟩, far_new hr2.1.lt nofun (by omega) nofun, WF.nil, Nat.le_refl _⟩)
  clear hr2 hq3 hu1 hu2 hU
  generalize (w2.alloc (.cells #[.slice none 0 0] 42)) = w3 at HS
  rw [hbq]
  clear hbq
  go_loopg [4, 6] 61 (fun kx s4 s6 wr => ∃ (k b : Nat) (l : List (Int × Int)) (o o' : Option Nat), k ≤ L.length ∧ k ≤ 60 ∧ 61 - k ≤ kx ∧ s6 = Value.int .i64 ((k : Nat) : Int) ∧ s4 = Value.pointer (some ⟨b, 0, none⟩) ∧ Both w wr b o bq o' l k)
  case atStart => exact ⟨0, br, [], none, none, Nat.zero_le _, Nat.zero_le _, by omega, rfl, rfl, HS.out⟩
  case round =>
    clear HS
    obtain ⟨k, b, l, o, o', hk, hk60, hkx, rfl, rfl, hb⟩ := hrel
    have HS := hide hb
    clear hb
    by_cases hc : k < L.length ∧ k < 60
    · obtain ⟨hkl, hk6⟩ := hc
      obtain ⟨gj, rfl⟩ : ∃ m, gk = m + 1 := ⟨gk - 1, by omega⟩
      obtain ⟨g, off, rfl, -, hcc⟩ := HL.out.2.resolve_left (by omega)
      have e0 := HS.out.1.2.1.cell (hcc _ _ (flat3_get L k hkl).1) id
      have e1 := HS.out.1.2.1.cell (hcc _ _ (flat3_get L k hkl).2.1) id
      have e2 := HS.out.1.2.1.cell (hcc _ _ (flat3_get L k hkl).2.2) id
      rw [← Nat.add_assoc] at e1 e2
      have hx := HI.out _ (List.getElem_mem hkl)
      rw [show L.getD k (0, 0, 0) = L[k] by simp [hkl]] at e0 e1 e2
      generalize L[k] = x at e0 e1 e2 hx
      obtain ⟨x0, x1, x2⟩ := x
      obtain ⟨hx0, hx1, hx2⟩ := hx
      clear hcc
      have f1 : (0 : Int) ≤ (k : Int) := by omega
      have f2 : (k : Int) < (L.length : Int) := by omega
      have f3 : (k : Int).toNat = k := by omega
      have f4 : (k : Int) < 60 := by omega
      go_wp2_with fail
      have hU : Upd none_ wr (wr.alloc (.cells #[.int .i64 x0, .int .i64 x1, .int .i64 x2] 29)) := (Upd.refl _ _).alloc _
      have hb5 : (wr.alloc (.cells #[.int .i64 x0, .int .i64 x1, .int .i64 x2] 29)).heap[wr.heap.size]? = some (.cells #[.int .i64 x0, .int .i64 x1, .int .i64 x2] 29 (0, 0)) := (by repeat' first | assumption | (refine heapA_at _ _ _ ?_; first | rfl | (simp; done) | omega) | (refine (heapA_past _ _ _ ?_).trans ?_; · first | (simp; done) | (simp; omega)) | refine (heapN _ _ _).trans ?_ | refine (heapD _ _).trans ?_)
      have HS4 : Hid (Both w (wr.alloc (.cells #[.int .i64 x0, .int .i64 x1, .int .i64 x2] 29)) b o bq o' l k) := hide ⟨HS.out.1.keep hU, HS.out.2.1.keep hU, HS.out.2.2⟩
      have hA1 := HS.out.1.1.apart (Nat.le_refl _)
      have hA2 := HS.out.2.1.apart (Nat.le_refl _)
      generalize wr.alloc (.cells #[.int .i64 x0, .int .i64 x1, .int .i64 x2] 29) = w4 at hb5 HS4
      have hA3 : o' ≠ some wr.heap.size := fun e => by have := HS.out.2.1.olt _ e; omega
      have hG := lt_of_block hb5
      clear HS hU e0 e1 e2
      generalize wr.heap.size = G at hb5 hA1 hA2 hA3 hG
      have HB5 := hide hb5
      have HA1 := hide hA1
      have HA2 := hide hA2
      clear hA1 hA2 hA3 hb5
      have hkz := kindZ_bd x0 4 (by omega)
      refine (kind17 x0 4 w4 hx0 ⟨by omega, by omega⟩).mono ?_
      rintro e w5 ⟨rfl, hu5⟩
      clear hx0 hx1 hx2
      have HS5 : Hid (Both w w5 b o bq o' l k) := hide ⟨HS4.out.1.keep hu5, HS4.out.2.1.keep hu5, HS4.out.2.2⟩
      have HB6 := hide (hu5.heap HB5.out id)
      have hG5 := lt_of_block HB6.out
      have b1 : w5.cell? ⟨G, 1, none⟩ = some (.int .i64 x1) := by rw [cell_of_row w5 G _ _ _ _ HB6.out]; rfl
      have b2 : w5.cell? ⟨G, 2, none⟩ = some (.int .i64 x2) := by rw [cell_of_row w5 G _ _ _ _ HB6.out]; rfl
      have HL5 := hide HS5.out.2.2.2.2
      clear HS4 HB5 hu5 hG
      generalize kindZ x0 4 = kk at hkz
      go_upto_block 2 with fail
      go_cut [4, 8, 9] (fun s4 s8 s9 wc => ∃ (b2 : Nat) (l2 : List (Int × Int)) (o2 o2' : Option Nat) (v : Int), s4 = Value.pointer (some ⟨b2, 0, none⟩) ∧ s8 = Value.int .i64 v ∧ s9 = Value.int .i64 v ∧ Both w wc b2 o2 bq o2' l2 (k + 1) ∧
        wc.heap[G]? = some (.cells #[.int .i64 x0, .int .i64 x1, .int .i64 x2] 29 (0, 0)))
      case first =>
        have hcs : kk = 0 ∨ kk = 1 ∨ kk = 2 ∨ kk = 3 := by omega
        rcases hcs with rfl | rfl | rfl | rfl
        case' inl =>
          go_wp2_with fail
        case' inr.inl =>
          go_wp2_with fail
        iterate 2
          refine (add_own HS5.out.1 x1 x2 (by have := HL5.out; omega)).mono ?_
          rintro e w6 ⟨o1, rfl, h6, hm6⟩
          have hq6 := QF.aside hm6 h6 HS5.out.2.1 HS5.out.2.2.1
          have hb6 := hm6.heap HB6.out HA1.out
          have c1 : w6.cell? ⟨G, 1, none⟩ = some (.int .i64 x1) := by rw [cell_of_row w6 G _ _ _ _ hb6]; rfl
          have c2 : w6.cell? ⟨G, 2, none⟩ = some (.int .i64 x2) := by rw [cell_of_row w6 G _ _ _ _ hb6]; rfl
          have hG6 := lt_of_block hb6
          have HQ6 := hide hq6
          have HR6 := hide h6
          have HC6 := hide hb6
          have HAL := hide (add_law HS5.out.2.2.2.1 x1 x2)
          have HWF := hide HS5.out.2.2.2.1
          clear hm6 hq6 h6 hb6 b1 b2 hG5
          go_wp2_with fail
          refine (qadd_own HQ6.out.1 HWF.out x1 x2 (by have := HL5.out; omega)).mono ?_
          rintro e w7 ⟨o2, rfl, h7, hm7⟩
          have hr7 := RF.aside hm7 h7 HR6.out HQ6.out.2
          have hb7 := hm7.heap HC6.out HA2.out
          have HR7 := hide hr7
          have HQ7 := hide h7
          have HC7 := hide hb7
          clear hm7 hr7 h7 hb7 c1 c2 hG6
          go_wp2_with fail
          go_meet
          exact ⟨b, _, o1, o2, _, rfl, rfl, rfl, ⟨HR7.out.1, HQ7.out, HR7.out.2, HAL.out.1, by have := HAL.out.2.2.2; have := HL5.out; omega⟩, HC7.out⟩
        · go_wp2_with fail
          refine (cut_own HS5.out.1 x1 x2 (by have := HL5.out; omega)).mono ?_
          rintro e w6 ⟨o1, rfl, h6, hm6⟩
          have hq6 := QF.aside hm6 h6 HS5.out.2.1 HS5.out.2.2.1
          have hb6 := hm6.heap HB6.out HA1.out
          have c1 : w6.cell? ⟨G, 1, none⟩ = some (.int .i64 x1) := by rw [cell_of_row w6 G _ _ _ _ hb6]; rfl
          have c2 : w6.cell? ⟨G, 2, none⟩ = some (.int .i64 x2) := by rw [cell_of_row w6 G _ _ _ _ hb6]; rfl
          have hG6 := lt_of_block hb6
          have HQ6 := hide hq6
          have HR6 := hide h6
          have HC6 := hide hb6
          have HCL := hide (cut_law HS5.out.2.2.2.1 x1 x2)
          have HWF := hide HS5.out.2.2.2.1
          clear hm6 hq6 h6 hb6 b1 b2 hG5
          go_wp2_with fail
          refine (qcut_own HQ6.out.1 HWF.out x1 x2 (by have := HL5.out; omega)).mono ?_
          rintro e w7 ⟨o2, rfl, h7, hm7⟩
          have hr7 := RF.aside hm7 h7 HR6.out HQ6.out.2
          have hb7 := hm7.heap HC6.out HA2.out
          have HR7 := hide hr7
          have HQ7 := hide h7
          have HC7 := hide hb7
          clear hm7 hr7 h7 hb7 c1 c2 hG6
          go_wp2_with fail
          go_meet
          exact ⟨b, _, o1, o2, _, rfl, rfl, rfl, ⟨HR7.out.1, HQ7.out, HR7.out.2, HCL.out.1, by have := HCL.out.2.2.2.1; have := HL5.out; omega⟩, HC7.out⟩
        · go_wp2_with fail
          refine (rclone_any b o l w5 HS5.out.1.1 (by have := HL5.out; omega)).mono ?_
          rintro e w6 ⟨bc, oc, rfl, hc6, hbc, hoc, hu6⟩
          have hrc : RF w w6 bc oc l := ⟨hc6, HS5.out.1.2.1.trans hu6, Nat.le_trans HS5.out.1.2.1.size hbc, fun g hg => Nat.le_trans HS5.out.1.2.1.size (hoc g hg)⟩
          have hr6 := HS5.out.1.keep hu6
          have hf6 := far_new HS5.out.1.1.lt HS5.out.1.1.olt hbc hoc
          have hf7 := (far_new HS5.out.2.1.lt HS5.out.2.1.olt hbc hoc).symm
          have HRC := hide hrc
          have HR6 := hide hr6
          have HF6 := hide hf6
          have HF7 := hide hf7
          have HU6 := hide hu6
          clear hc6 hbc hoc hu6 hrc hr6 hf6 hf7 b1 b2 hG5
          go_wp2_with fail
          refine (add_own HR6.out 0 1000 (by have := HL5.out; omega)).mono ?_
          rintro e w7 ⟨o1, rfl, h7, hm7⟩
          have hq7 := QF.aside hm7 h7 (HS5.out.2.1.keep HU6.out) HS5.out.2.2.1
          have hc7 := HR6.out.stays hm7 h7 HRC.out HF6.out
          have hb7 := hm7.heap (HU6.out.heap HB6.out id) HA1.out
          have HC7 := hide hc7
          have HQ7 := hide hq7
          have HB7 := hide hb7
          clear hm7 hq7 h7 hc7 hb7
          go_wp2_with fail
          go_meet
          exact ⟨bc, l, oc, o', _, rfl, rfl, rfl, ⟨HC7.out.1, HQ7.out.1, HF7.out, HS5.out.2.2.2.1, by have := HL5.out; omega⟩, HB7.out⟩
      case rest =>
        obtain ⟨b9, l2, o2, o2', v, rfl, rfl, rfl, hb, hG2⟩ := hcut
        clear b1 b2 HA1 HA2 HL5 HS5 HB6 hG5 hkz
        have hlen : l2.length ≤ 60 := Nat.le_trans hb.2.2.2.2 (by omega)
        have b1 : wc.cell? ⟨G, 1, none⟩ = some (.int .i64 x1) := by rw [cell_of_row wc G _ _ _ _ hG2]; rfl
        have b2 : wc.cell? ⟨G, 2, none⟩ = some (.int .i64 x2) := by rw [cell_of_row wc G _ _ _ _ hG2]; rfl
        have hG5 := lt_of_block hG2
        have hg1 := gap_any b9 o2 l2 x1 x2 wc hb.1.1 (by omega)
        have hg2 : ∀ W, Upd none_ wc W → Calls Try.prog 26 #[.pointer (some ⟨bq, 0, none⟩), .int .i64 x1, .int .i64 x2] W fun e w' => e = .returned (.tuple #[.agg #[.int .i64 (gapL l2 x1 x2).1.1, .int .i64 (gapL l2 x1 x2).1.2], .bool (gapL l2 x1 x2).2]) ∧ Upd none_ W w' := fun W hu => qgap_any bq o2' l2 x1 x2 W (hb.2.1.keep hu).1 hb.2.2.2.1 (by omega)
        have hco : ∀ W, Upd none_ wc W → Calls Try.prog 32 #[.pointer (some ⟨b9, 0, none⟩), .int .i64 x1, .int .i64 x2] W fun e w' => e = .returned (.bool (!(gapL l2 x1 x2).2)) ∧ Upd none_ W w' := fun W hu => covers_any b9 o2 l2 x1 x2 W (hb.1.keep hu).1 (by omega)
        have hco2 : ∀ W, Upd none_ wc W → Calls Try.prog 33 #[.pointer (some ⟨bq, 0, none⟩), .int .i64 x1, .int .i64 x2] W fun e w' => e = .returned (.bool (!(gapL l2 x1 x2).2)) ∧ Upd none_ W w' := fun W hu => qcovers_any bq o2' l2 x1 x2 W (hb.2.1.keep hu).1 hb.2.2.2.1 (by omega)
        generalize gapL l2 x1 x2 = gg at hg1 hg2 hco hco2
        obtain ⟨⟨g1, g2⟩, gb⟩ := gg
        have HG2 := hide hg2
        have HCO := hide hco
        have HCO2 := hide hco2
        have HS9 := hide hb
        have HB9 := hide hG2
        clear hg2 hco hco2 hG2 hb
        go_wp2_with fail
        refine hg1.mono ?_
        clear hg1
        rintro e w6 ⟨rfl, hu6⟩
        have hU6 : Upd none_ wc (w6.alloc (.cells #[.int .i64 g1, .int .i64 g2] 33)) := hu6.alloc _
        have c1 := hu6.cell b1 id
        have c2 := hu6.cell b2 id
        have hG6 : G < w6.heap.size := World.block_lt_of_cell? w6 _ c1
        clear b1 b2
        go_wp2_with fail
        refine (HG2.out _ hU6).mono ?_
        rintro e w7 ⟨rfl, hu7⟩
        have hU7 : Upd none_ wc (w7.alloc (.cells #[.int .i64 g1, .int .i64 g2] 33)) := (hU6.trans hu7).alloc _
        have hb61 : w7.heap[w6.heap.size]? = some (.cells #[.int .i64 g1, .int .i64 g2] 33 (0, 0)) := hu7.heap (heapA_at _ _ _ rfl) id
        have hlt7 := lt_of_block hb61
        go_wp2_with fail
        have hb7 : (w7.alloc (.cells #[.int .i64 g1, .int .i64 g2] 33)).heap[w7.heap.size]? = some (.cells #[.int .i64 g1, .int .i64 g2] 33 (0, 0)) := heapA_at _ _ _ rfl
        have hb6 : (w7.alloc (.cells #[.int .i64 g1, .int .i64 g2] 33)).heap[w6.heap.size]? = some (.cells #[.int .i64 g1, .int .i64 g2] 33 (0, 0)) := (heapA_past _ _ _ hlt7).trans hb61
        clear c1 c2 hG6 hU6 hu6 hu7 hb61 hlt7
        generalize (w7.alloc (.cells #[.int .i64 g1, .int .i64 g2] 33)) = w8 at hU7 hb7 hb6
        generalize w7.heap.size = G2 at hb7
        generalize w6.heap.size = G1 at hb6
        have HR8 := hide (HS9.out.1.keep hU7)
        have HQ8 := hide (HS9.out.2.1.keep hU7)
        have hGb := hU7.heap HB9.out id
        obtain ⟨ay, cy, d0, -, -, hoy, -, -⟩ := HQ8.out.1.slice
        have hry := (rd_own' hoy).2
        have d1 : w8.cell? ⟨G, 1, none⟩ = some (.int .i64 x1) := by rw [cell_of_row w8 G _ _ _ _ hGb]; rfl
        have d2 : w8.cell? ⟨G, 2, none⟩ = some (.int .i64 x2) := by rw [cell_of_row w8 G _ _ _ _ hGb]; rfl
        have d3 : w8.cell? ⟨G1, 0, none⟩ = some (.int .i64 g1) := by rw [cell_of_row w8 G1 _ _ _ _ hb6]; rfl
        have d4 : w8.cell? ⟨G1, 1, none⟩ = some (.int .i64 g2) := by rw [cell_of_row w8 G1 _ _ _ _ hb6]; rfl
        have d5 : w8.cell? ⟨G2, 0, none⟩ = some (.int .i64 g1) := by rw [cell_of_row w8 G2 _ _ _ _ hb7]; rfl
        have d6 : w8.cell? ⟨G2, 1, none⟩ = some (.int .i64 g2) := by rw [cell_of_row w8 G2 _ _ _ _ hb7]; rfl
        have hWF := HS9.out.2.2.2.1
        have hli : ∀ W, (Upd none_ w8 W ∧ W.cell? ⟨bq, 0, none⟩ = some (.slice ay l2.length cy)) → Calls Try.prog 17 #[.pointer (some ⟨b9, 0, none⟩)] W fun e w' => ∃ a' c', e = .returned (.slice a' l2.length c') ∧ w'.ownsRow W.heap.size 33 2 (.slice a' l2.length c') l2.length (flat l2) ∧ Upd none_ W w' :=
          fun W hW => list_any b9 o2 l2 W (HR8.out.keep hW.1).1 (by omega)
        have hsa : ∀ W a' c' B, (Upd none_ w8 W ∧ W.cell? ⟨bq, 0, none⟩ = some (.slice ay l2.length cy)) → W.ownsRow B 33 2 (.slice a' l2.length c') l2.length (flat l2) → Calls Try.prog 18 #[.slice a' l2.length c', .slice ay l2.length cy] W fun e w' => e = .returned (.bool true) ∧ Upd none_ W w' :=
          fun W a' c' B hW ho => same17 _ _ a' ay c' cy l2 W (rd_own' ho).2 (hry.upd hW.1 (fun _ _ => id)) (by omega)
        have kp : ∀ W W', Upd none_ W W' → (Upd none_ w8 W ∧ W.cell? ⟨bq, 0, none⟩ = some (.slice ay l2.length cy)) → (Upd none_ w8 W' ∧ W'.cell? ⟨bq, 0, none⟩ = some (.slice ay l2.length cy)) := fun W W' hu hW => ⟨hW.1.trans hu, hu.cell hW.2 id⟩
        have HLI := hide hli
        have HSA := hide hsa
        have KP := hide kp
        have HHD := hide hoy
        clear hli hsa kp hoy hry hb6 hb7 hGb
        go_region_held3 (fun W => Upd none_ w8 W ∧ W.cell? ⟨bq, 0, none⟩ = some (.slice ay l2.length cy)) (first | exact KP.out _ _ hu (by assumption) | exact ⟨(Upd.refl none_ w8).drew, d0⟩)
          (first
            | (go_at_call 17; refine (HLI.out _ (by assumption)).mono ?_; rintro e w' ⟨a', c', rfl, hown, hu⟩)
            | (go_at_call 18; refine (HSA.out _ _ _ _ (by assumption) hown).mono ?_; rintro e w' ⟨rfl, hu2⟩; have hu := hu2; clear hu2))
        obtain ⟨hu8, -⟩ : Upd none_ w8 w' ∧ w'.cell? ⟨bq, 0, none⟩ = some (.slice ay l2.length cy) := by assumption
        have q1 := hu8.cell d1 id
        have q2 := hu8.cell d2 id
        have q3 := hu8.cell d3 id
        have q4 := hu8.cell d4 id
        have q5 := hu8.cell d5 id
        have q6 := hu8.cell d6 id
        have HU8 := hide hu8
        have HWF := hide hWF
        clear HLI HSA KP HHD d0 d1 d2 d3 d4 d5 d6 hu8
        go_wp2_with fail
        conv => enter [2, 2]; simp only [List.append]
        have hto : ∀ W, Upd none_ w8 W → Calls Try.prog 27 #[.pointer (some ⟨b9, 0, none⟩)] W fun e w' => e = .returned (.int .i64 (tot l2)) ∧ Upd none_ W w' := fun W hW => by
          rw [← HWF.out.many]; exact total_any b9 o2 l2 W (HR8.out.keep hW).1 (by omega)
        have hto2 : ∀ W, Upd none_ w8 W → Calls Try.prog 28 #[.pointer (some ⟨bq, 0, none⟩)] W fun e w' => e = .returned (.int .i64 (tot l2)) ∧ Upd none_ W w' := fun W hW => qtotal_any bq o2' l2 W (HQ8.out.keep hW).1 HWF.out (by omega)
        have hha : ∀ W, Upd none_ w8 W → Calls Try.prog 21 #[.pointer (some ⟨b9, 0, none⟩), .int .i64 x1] W fun e w' => e = .returned (.bool (hasL l2 x1)) ∧ Upd none_ W w' := fun W hW => has_any b9 o2 l2 x1 W (HR8.out.keep hW).1 (by omega)
        have hha2 : ∀ W, Upd none_ w8 W → Calls Try.prog 29 #[.pointer (some ⟨bq, 0, none⟩), .int .i64 x1] W fun e w' => e = .returned (.bool (hasL l2 x1)) ∧ Upd none_ W w' := fun W hW => qhas_any bq o2' l2 x1 W (HQ8.out.keep hW).1 HWF.out (by omega)
        have hne : ∀ W n, Upd none_ w8 W → Calls Try.prog 30 #[.pointer (some ⟨b9, 0, none⟩), .int .i64 n] W fun e w' => e = .returned (.int .i64 (nextL l2 n)) ∧ Upd none_ W w' := fun W n hW => next_any b9 o2 l2 n W (HR8.out.keep hW).1 (by omega)
        have hne2 : ∀ W n, Upd none_ w8 W → Calls Try.prog 31 #[.pointer (some ⟨bq, 0, none⟩), .int .i64 n] W fun e w' => e = .returned (.int .i64 (nextL l2 n)) ∧ Upd none_ W w' := fun W n hW => qnext_any bq o2' l2 n W (HQ8.out.keep hW).1 HWF.out (by omega)
        have HTO := hide hto
        have HTO2 := hide hto2
        have HHA := hide hha
        have HHA2 := hide hha2
        have HNE := hide hne
        have HNE2 := hide hne2
        have KP := hide (show ∀ W W', Upd none_ W W' → (Upd none_ w8 W ∧ W.cell? ⟨G, 1, none⟩ = some (.int .i64 x1) ∧ W.cell? ⟨G, 2, none⟩ = some (.int .i64 x2) ∧ W.cell? ⟨G1, 0, none⟩ = some (.int .i64 g1) ∧ W.cell? ⟨G1, 1, none⟩ = some (.int .i64 g2) ∧ W.cell? ⟨G2, 0, none⟩ = some (.int .i64 g1) ∧ W.cell? ⟨G2, 1, none⟩ = some (.int .i64 g2)) →
          (Upd none_ w8 W' ∧ W'.cell? ⟨G, 1, none⟩ = some (.int .i64 x1) ∧ W'.cell? ⟨G, 2, none⟩ = some (.int .i64 x2) ∧ W'.cell? ⟨G1, 0, none⟩ = some (.int .i64 g1) ∧ W'.cell? ⟨G1, 1, none⟩ = some (.int .i64 g2) ∧ W'.cell? ⟨G2, 0, none⟩ = some (.int .i64 g1) ∧ W'.cell? ⟨G2, 1, none⟩ = some (.int .i64 g2)) from
          fun W W' hu hW => ⟨hW.1.trans hu, hu.cell hW.2.1 id, hu.cell hW.2.2.1 id, hu.cell hW.2.2.2.1 id, hu.cell hW.2.2.2.2.1 id, hu.cell hW.2.2.2.2.2.1 id, hu.cell hW.2.2.2.2.2.2 id⟩)
        clear hto hto2 hha hha2 hne hne2
        go_region_held3 (fun W => Upd none_ w8 W ∧ W.cell? ⟨G, 1, none⟩ = some (.int .i64 x1) ∧ W.cell? ⟨G, 2, none⟩ = some (.int .i64 x2) ∧ W.cell? ⟨G1, 0, none⟩ = some (.int .i64 g1) ∧ W.cell? ⟨G1, 1, none⟩ = some (.int .i64 g2) ∧ W.cell? ⟨G2, 0, none⟩ = some (.int .i64 g1) ∧ W.cell? ⟨G2, 1, none⟩ = some (.int .i64 g2)) (first | exact KP.out _ _ hu (by assumption) | exact ⟨HU8.out.drew, q1, q2, q3, q4, q5, q6⟩)
          (first
            | (go_at_call 27; refine (HTO.out _ (And.left (by assumption))).mono ?_; rintro e w' ⟨rfl, hu⟩)
            | (go_at_call 28; refine (HTO2.out _ (And.left (by assumption))).mono ?_; rintro e w' ⟨rfl, hu⟩)
            | (go_at_call 21; refine (HHA.out _ (And.left (by assumption))).mono ?_; rintro e w' ⟨rfl, hu⟩)
            | (go_at_call 29; refine (HHA2.out _ (And.left (by assumption))).mono ?_; rintro e w' ⟨rfl, hu⟩)
            | (go_at_call 30; refine (HNE.out _ _ (And.left (by assumption))).mono ?_; rintro e w' ⟨rfl, hu⟩)
            | (go_at_call 31; refine (HNE2.out _ _ (And.left (by assumption))).mono ?_; rintro e w' ⟨rfl, hu⟩)
            | (go_at_call 32; refine (HCO.out _ (hU7.trans (And.left (by assumption)))).mono ?_; rintro e w' ⟨rfl, hu⟩)
            | (go_at_call 33; refine (HCO2.out _ (hU7.trans (And.left (by assumption)))).mono ?_; rintro e w' ⟨rfl, hu⟩))
        obtain ⟨hu9, -⟩ : Upd none_ w8 w' ∧ w'.cell? ⟨G, 1, none⟩ = some (.int .i64 x1) ∧ w'.cell? ⟨G, 2, none⟩ = some (.int .i64 x2) ∧ w'.cell? ⟨G1, 0, none⟩ = some (.int .i64 g1) ∧ w'.cell? ⟨G1, 1, none⟩ = some (.int .i64 g2) ∧ w'.cell? ⟨G2, 0, none⟩ = some (.int .i64 g1) ∧ w'.cell? ⟨G2, 1, none⟩ = some (.int .i64 g2) := by assumption
        have HE := hide (show Both w w' b9 o2 bq o2' l2 (k + 1) from ⟨HR8.out.keep hu9, HQ8.out.keep hu9, HS9.out.2.2⟩)
        clear hu9 hu
        go_wp2_with fail
        go_roundg gj
        case measure => omega
        case rel => exact ⟨k + 1, b9, l2, o2, o2', by omega, by omega, by omega, by go_num, rfl, HE.out⟩
    · have hU := HS.out.1.2.1
      have HU := hide hU
      clear hU
      by_cases hkl : k < L.length
      · have f2 : (k : Int) < (L.length : Int) := by omega
        have f4 : ¬ (k : Int) < 60 := by omega
        have f5 : (60 : Int) ≤ (k : Int) := by omega
        clear hc hkx
        go_wp2_with fail
        go_ret
        exact ⟨rfl, HU.out⟩
      · have f2 : ¬ (k : Int) < (L.length : Int) := by omega
        have f5 : (L.length : Int) ≤ (k : Int) := by omega
        clear hc hkx
        go_wp2_with fail
        go_ret
        exact ⟨rfl, HU.out⟩
end Go.Proofs.Ytjjiemicacbmaaa
