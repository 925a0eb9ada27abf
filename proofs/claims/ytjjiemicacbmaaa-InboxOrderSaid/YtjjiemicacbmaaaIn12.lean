/- The walk of InboxOrder. -/
import Derived.Test.YtjjiemicacbmaaaIn11
namespace Go.Proofs.Ytjjiemicacbmaaa
open Go.RowKit Go.Shelf

set_option maxRecDepth 100000 in
set_option maxHeartbeats 80000000 in
theorem order19_walk (F1 F2 : Nat → Prop) (ad a1 a2 : Option Addr) (cbs c1 c2 : Nat) (bs : List UInt8) (M1 M2 : List Int) (w : World) (hb : Sl.ok w (ad, bs, cbs)) (hm1 : Rd F1 w a1 M1.length 1 (M1.map (Value.int .i64))) (hm2 : Rd F2 w a2 M2.length 1 (M2.map (Value.int .i64)))
    (hi1 : ∀ x ∈ M1, I64 x) (hi2 : ∀ x ∈ M2, I64 x) :
    Calls Try.prog 6 #[.slice ad bs.length cbs, .slice a1 M1.length c1, .slice a2 M2.length c2] w fun e w' => e = .returned (.bool true) ∧ Upd none_ w w' := by
  have hex : ∃ (ad2 : Option Addr) (bs2 : List UInt8) (m : Nat), bs2.length = m ∧ m ≤ 1000 ∧ Sl.ok w (ad2, bs2, cbs) ∧ ((1000 < bs.length ∧ m = 1000 ∧ ∀ W, (Instr.sliceAt 47 (.slice ad bs.length cbs) none (some (.int .i64 1000)) none).run Try.prog W = .ok (.slice ad2 1000 cbs) W) ∨ (¬ 1000 < bs.length ∧ ad2 = ad ∧ m = bs.length)) := by
    by_cases hbl : 1000 < bs.length
    · obtain ⟨⟨a2, bs2, c2⟩, hs1, hs2, hs3, hs4, hrun⟩ := cut1000 (ad, bs, cbs) hb hbl
      simp only at hs1 hs2 hs4 hrun
      subst hs4
      exact ⟨a2, bs2, 1000, hs2, Nat.le_refl _, hs3, .inl ⟨hbl, rfl, hrun⟩⟩
    · exact ⟨ad, bs, bs.length, rfl, by omega, hb, .inr ⟨hbl, rfl, rfl⟩⟩
  obtain ⟨ad2, bs2, m, hbm, hm, hok, hcase⟩ := hex
  have HM1 := hide hm1
  have HM2 := hide hm2
  have HI1 := hide hi1
  have HI2 := hide hi2
  have HBM := hide hbm
  have HOK := hide hok
  clear hm1 hm2 hi1 hi2 hb hbm hok
  rcases hcase with ⟨q1, rfl, q2⟩ | ⟨q1, rfl, rfl⟩
  case' inl =>
    have q3 : (1000 : Int) < (bs.length : Int) := by omega
    clear q1
    go_enter Try.func6, Try.ntmps6
    go_wp2_with fail
    refine (shown19 w).mono ?_
    rintro e w1 ⟨rfl, hu1⟩
    go_wp2_with fail
    clear q2 q3
    obtain ⟨m, hmm⟩ : ∃ m, m = 1000 := ⟨_, rfl⟩
    rw [← hmm] at HBM
    clear hm
    have hm : m ≤ 1000 := by omega
    have hv : Value.slice ad2 1000 cbs = Value.slice ad2 m cbs := by rw [hmm]
    rw [hv]
    clear hmm hv
  case' inr =>
    have q3 : ¬ (1000 : Int) < (bs.length : Int) := by omega
    have q4 : (bs.length : Int) ≤ 1000 := by omega
    clear q1
    go_enter Try.func6, Try.ntmps6
    go_wp2_with fail
    refine (shown19 w).mono ?_
    rintro e w1 ⟨rfl, hu1⟩
    go_wp2_with fail
    clear q3 q4
    obtain ⟨m, hmm⟩ : ∃ m, m = bs.length := ⟨_, rfl⟩
    rw [← hmm] at HBM hm ⊢
    clear hmm
  all_goals
    refine (new_is w w1 hu1 1000).mono ?_
    rintro e w2 ⟨bx, Fx, rfl, h2, -⟩
    rw [show max 1 (min (1000 : Int) 1048576) = 1000 by decide] at h2
    have HS := hide h2
    have HM := hide hm
    clear hu1 h2
    go_wp2_with fail
    go_loopw [9, 10] (fun s9 s10 wr => ∃ (k : Nat) (F : Nat → Prop) (dn : Int) (buf : List UInt8) (l : List (Int × Int)), k ≤ M1.length ∧ k ≤ 60 ∧ s10 = Value.int .i64 ((k : Nat) : Int) ∧ s9 = Value.string (bstr (bs2.take dn.toNat)) ∧ IS w wr bx F 1000 dn buf l ∧ Sent bs2 dn buf l ∧ l.length ≤ k ∧ dn ≤ m) (fun _ s _ => M1.length - (intOf s).toNat)
    case atStart => exact ⟨0, Fx, 0, [], [], Nat.zero_le _, Nat.zero_le _, rfl, rfl, HS.out, ⟨fun n h => absurd h InS.nil, fun n _ h => absurd h InS.nil⟩, Nat.le_refl _, by omega⟩
    case round =>
      clear HS
      obtain ⟨k, F, dn, buf, l, hk, hk60, rfl, rfl, hs, hsn, hll, hdm⟩ := hrel
      have HS := hide hs
      have HSN := hide hsn
      have HU := hide hs.upd
      clear hs hsn
      by_cases hc : k < M1.length ∧ k < M2.length ∧ k < 60 ∧ 0 < m
      · obtain ⟨hk1, hk2, hk6, hm0⟩ := hc
        have hm := HM.out
        obtain ⟨g1, o1, rfl, -, hc1⟩ := HM1.out.2.resolve_left (by omega)
        obtain ⟨g2, o2, rfl, -, hc2⟩ := HM2.out.2.resolve_left (by omega)
        have z1 := HU.out.cell (hc1 k _ (by rw [List.getElem?_map, List.getElem?_eq_getElem hk1]; rfl)) id
        have z2 := HU.out.cell (hc2 k _ (by rw [List.getElem?_map, List.getElem?_eq_getElem hk2]; rfl)) id
        have hx1 := HI1.out _ (List.getElem_mem hk1)
        have hx2 := HI2.out _ (List.getElem_mem hk2)
        clear hc1 hc2
        generalize M1[k] = x1 at z1 hx1
        generalize M2[k] = x2 at z2 hx2
        have f1 : (0 : Int) ≤ (k : Int) := by omega
        have f2 : (k : Int) < (M1.length : Int) := by omega
        have f3 : (k : Int).toNat = k := by omega
        have f4 : (k : Int) < 60 := by omega
        have f5 : (k : Int) < (M2.length : Int) := by omega
        have f6 : (0 : Int) < (m : Int) := by omega
        have hkd1 := kind19 x1 m wr hx1 ⟨by omega, by omega⟩
        have b1 := kindZ_bd x1 m (by omega)
        generalize kindZ x1 m = aI at hkd1 b1
        obtain ⟨a, rfl⟩ := Int.eq_ofNat_of_zero_le b1.1
        have v1 : IntKind.i64.wrap ((m : Int) - (a : Int)) = (m : Int) - (a : Int) := IntWalk.i64_in _ (by omega)
        have v2 : IntKind.i64.wrap ((m : Int) - (a : Int) + 1) = (m : Int) - (a : Int) + 1 := IntWalk.i64_in _ (by omega)
        have HK2 := hide (show ∀ W, _ from fun W => kind19 x2 ((m : Int) - (a : Int) + 1) W hx2 ⟨by omega, by omega⟩)
        have b2 := kindZ_bd x2 ((m : Int) - (a : Int) + 1) (by omega)
        generalize kindZ x2 ((m : Int) - (a : Int) + 1) = nI at HK2 b2
        obtain ⟨n, rfl⟩ := Int.eq_ofNat_of_zero_le b2.1
        have v3 : IntKind.i64.wrap ((a : Int) + (n : Int)) = (a : Int) + (n : Int) := IntWalk.i64_in _ (by omega)
        have han : a + n ≤ m := by omega
        obtain ⟨ad3, hok3, hrun3⟩ := cut_an (ad2, bs2, cbs) HOK.out a n (by simp only; rw [HBM.out]; exact han)
        simp only at hok3 hrun3
        rw [HBM.out] at hrun3
        have HOK3 := hide hok3
        have HKD1 := hide hkd1
        clear hkd1 hx1 hx2 hok3 b1 b2
        go_wp2_with fail
        refine HKD1.out.mono ?_
        rintro e w3 ⟨rfl, hu3⟩
        have HS3 := hide (HS.out.keep hu3)
        have z3 := hu3.cell z2 id
        clear z1 z2 hu3
        go_wp2_with fail
        refine (HK2.out w3).mono ?_
        rintro e w4 ⟨rfl, hu4⟩
        have HS4 := hide (HS3.out.keep hu4)
        clear z3 hu4
        go_wp2_with fail
        have hl3 : ((bs2.drop a).take n).length = n := by have := HBM.out; simp; omega
        have htk := take_arg HS4.out (a : Int) ⟨by omega, by omega⟩ (ad3, (bs2.drop a).take n, cbs - a) HOK3.out (by simp only; omega) (by omega)
        simp only at htk
        rw [hl3] at htk
        refine htk.mono ?_
        clear htk
        rintro e w5 ⟨F5, bk, rfl, h5, v5, hm5⟩
        have hsn5 := HSN.out.take HS4.out.iv a n (by rw [HBM.out]; exact han) (by rw [HBM.out]; exact hm) v5
        have hll5 : (takeR 1000 dn a n l).2.length ≤ k + 1 := by have := (take_law HS4.out.iv a n).2.2.2; omega
        generalize (takeR 1000 dn a n l).1 = tn
        generalize (takeR 1000 dn a n l).2 = l5 at h5 hsn5 hll5
        have HS5 := hide h5
        have HSN5 := hide hsn5
        clear h5 v5 hm5 hsn5 hl3 hrun3 v1 v2 v3
        by_cases h3 : (k : Int) % 3 = 2
        · have h3b : (((k : Int) % 3) == 2) = true := by simpa using h3
          clear h3
          go_wp2_with fail
          obtain ⟨nN, hnN⟩ : ∃ nN : Nat, readN dn a l5 = (nN : Int) := ⟨(readN dn a l5).toNat, by have := (HS5.out.iv.readN a).1; omega⟩
          obtain ⟨r1, r2, r3⟩ := HSN5.out.read2 HS5.out.iv a nN hnN (by rw [HBM.out]; exact hdm)
          have hbl := HS5.out.iv.readN a
          rw [hnN] at hbl
          have hdn := HS5.out.iv.dn
          refine (read_is HS5.out a (by omega) (by omega) nN hnN).mono ?_
          rintro e w6 ⟨F6, a7, c7, rfl, hown, h6, -, -⟩
          have hbkl : (bk.take nN).length = nN := by rw [List.length_take]; omega
          have hst := run_bstr w6 _ a7 c7 nN (bk.take nN) hbkl (rd_own' hown).2
          have hadd := fun W => add_bstr W (bs2.take dn.toNat) (bk.take nN) (by rw [List.length_take]; have := HBM.out; omega) (by rw [hbkl]; omega)
          rw [r2] at hadd
          have HS6 := hide h6
          have HR1 := hide r1
          have HR3 := hide (show dn + (nN : Int) ≤ (m : Int) by rw [HBM.out] at r3; exact r3)
          clear h6 hown r1 r2 r3 hbl hdn hnN hbkl h3b
          go_wp2_with fail
          go_roundw
          case rel => exact ⟨k + 1, F6, dn + nN, bk.drop nN, l5, by omega, by omega, by go_num, rfl, HS6.out, HR1.out, hll5, HR3.out⟩
          case measure => simp [intOf]; omega
        · have h3b : (((k : Int) % 3) == 2) = false := by simpa using h3
          clear h3
          go_wp2_with fail
          go_roundw
          case rel => exact ⟨k + 1, F5, dn, bk, l5, by omega, by omega, by go_num, rfl, HS5.out, HSN5.out, hll5, hdm⟩
          case measure => simp [intOf]; omega
      · have hm := HM.out
        have hcs : ¬ k < M1.length ∨ (k < M1.length ∧ ¬ k < M2.length) ∨ (k < M1.length ∧ k < M2.length ∧ ¬ k < 60) ∨ (k < M1.length ∧ k < M2.length ∧ k < 60 ∧ ¬ 0 < m) := by omega
        clear hc
        rcases hcs with q1 | ⟨q1, q2⟩ | ⟨q1, q2, q3⟩ | ⟨q1, q2, q3, q4⟩
        case' inl =>
          have f2 : ¬ (k : Int) < (M1.length : Int) := by omega
          have f3 : (M1.length : Int) ≤ (k : Int) := by omega
          clear q1
          go_wp2_with fail
        case' inr.inl =>
          have f2 : (k : Int) < (M1.length : Int) := by omega
          have f3 : ¬ (k : Int) < (M2.length : Int) := by omega
          have f4 : (M2.length : Int) ≤ (k : Int) := by omega
          clear q1 q2
          go_wp2_with fail
        case' inr.inr.inl =>
          have f2 : (k : Int) < (M1.length : Int) := by omega
          have f3 : (k : Int) < (M2.length : Int) := by omega
          have f4 : ¬ (k : Int) < 60 := by omega
          have f5 : (60 : Int) ≤ (k : Int) := by omega
          clear q1 q2 q3
          go_wp2_with fail
        case' inr.inr.inr =>
          have f2 : (k : Int) < (M1.length : Int) := by omega
          have f3 : (k : Int) < (M2.length : Int) := by omega
          have f4 : (k : Int) < 60 := by omega
          have f5 : ¬ (0 : Int) < (m : Int) := by omega
          have f6 : (m : Int) ≤ 0 := by omega
          clear q1 q2 q3 q4
          go_wp2_with fail
        all_goals
          have htk := take_arg HS.out 0 (i64_small (by omega)) (ad2, bs2, cbs) HOK.out (by simp only; rw [HBM.out]; omega) (by omega)
          simp only at htk
          have hfull := HSN.out.full HS.out.iv (by rw [HBM.out]; exact hm) (by rw [HBM.out]; exact hdm)
          rw [HBM.out] at htk hfull
          refine htk.mono ?_
          clear htk
          rintro e w5 ⟨F5, bk, rfl, h5, v5, -⟩
          have hsn5 : Sent bs2 dn bk (takeR 1000 dn 0 m l).2 := HSN.out.take HS.out.iv 0 m (by rw [HBM.out]; omega) (by rw [HBM.out]; exact hm) (by rw [List.drop_zero, List.take_of_length_le (by rw [HBM.out]; exact Nat.le_refl _)]; exact v5)
          have hll5 : (takeR 1000 dn 0 m l).2.length ≤ k + 1 := by have := (take_law HS.out.iv 0 m).2.2.2; omega
          generalize (takeR 1000 dn 0 m l).1 = tn
          generalize (takeR 1000 dn 0 m l).2 = l5 at h5 hsn5 hll5 hfull
          obtain ⟨-, y1, y2, y3⟩ := hfull
          obtain ⟨nN, hnN⟩ : ∃ nN : Nat, readN dn 2000 l5 = (nN : Int) := ⟨(readN dn 2000 l5).toNat, by have := (h5.iv.readN 2000).1; omega⟩
          obtain ⟨-, r2, -⟩ := hsn5.read2 h5.iv 2000 nN hnN (by rw [HBM.out]; exact hdm)
          have hbl := h5.iv.readN 2000
          rw [hnN] at hbl
          have hdN : dn + (nN : Int) = (m : Int) := by omega
          have hdn := h5.iv.dn
          have hT : bs2.take (m : Int).toNat = bs2 := List.take_of_length_le (by rw [HBM.out]; omega)
          rw [hdN, hT] at r2
          clear hT
          have hbkl : (bk.take nN).length = nN := by rw [List.length_take]; omega
          have hadd := fun W => add_bstr W (bs2.take dn.toNat) (bk.take nN) (by rw [List.length_take]; have := HBM.out; omega) (by rw [hbkl]; omega)
          rw [r2] at hadd
          have HRD := hide (read_is h5 2000 (by omega) (by omega) nN hnN)
          have HDN := hide hdN
          have HY := hide (And.intro y2 (And.intro y3 hbkl))
          have HLL := hide (show l5.length ≤ 1000000 by omega)
          clear h5 v5 hsn5 y1 y2 y3 r2 hbl hdN hdn hnN hbkl hm
          go_wp2_with fail
          refine HRD.out.mono ?_
          rintro e w6 ⟨F6, a7, c7, rfl, hown, h6, -, -⟩
          have hst := run_bstr w6 _ a7 c7 nN (bk.take nN) HY.out.2.2 (rd_own' hown).2
          have hst2 := run_bstr w6 _ ad2 cbs m bs2 HBM.out (by have := HOK.out.1.upd h6.upd (fun _ _ => id); simp only at this; rwa [HBM.out] at this)
          rw [HDN.out] at h6
          have HS6 := hide h6
          have hhe := held_is h6 HLL.out
          rw [HY.out.1, Int.sub_self] at hhe
          have HHE := hide hhe
          clear h6 hown hhe
          go_wp2_with fail
          refine HHE.out.mono ?_
          rintro e w7 ⟨rfl, hu7⟩
          have HS7 := hide (HS6.out.keep hu7)
          clear hu7
          go_wp2_with fail
          refine (done_is HS7.out).mono ?_
          rintro e w8 ⟨rfl, hu8⟩
          have HS8 := hide (HS7.out.keep hu8)
          clear hu8
          go_wp2_with fail
          have hby := beyond_is HS8.out HLL.out
          rw [HY.out.2.1] at hby
          refine hby.mono ?_
          clear hby
          rintro e w9 ⟨a9, c9, m9, rfl, rfl, -, hu9, -⟩
          have HU9 := hide (HS8.out.upd.trans hu9)
          clear hu9
          go_wp2_with fail
          go_ret
          exact ⟨rfl, HU9.out⟩
end Go.Proofs.Ytjjiemicacbmaaa
