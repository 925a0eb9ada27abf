/- The walk of InboxCounts. -/
import Derived.Test.YtjjiemicacbmaaaIn8
namespace Go.Proofs.Ytjjiemicacbmaaa
open Go.RowKit Go.Shelf

/-- The first thousand bytes. -/
theorem cut1000 {w : World} (s : Sl) (hs : s.ok w) (h : 1000 < s.2.1.length) : ∃ s' : Sl, s'.2.1 = s.2.1.take 1000 ∧ s'.2.1.length = 1000 ∧ s'.ok w ∧ s'.2.2 = s.2.2 ∧ ∀ W, (Instr.sliceAt 47 (.slice s.1 s.2.1.length s.2.2) none (some (.int .i64 1000)) none).run Try.prog W = .ok (.slice s'.1 1000 s.2.2) W := by
  obtain ⟨h1, h2, h3⟩ := hs
  obtain ⟨a1, q1, q2⟩ := slice_hi (P := Try.prog) 47 5 Try.underlying47 elem_u8.size h1 h2 1000 (by omega)
  have hl : (s.2.1.take 1000).length = 1000 := by rw [List.length_take]; omega
  refine ⟨(a1, s.2.1.take 1000, s.2.2), rfl, hl, ⟨?_, ?_, ?_⟩, rfl, fun W => q1 W⟩
  · rw [hl, u8s_take]; exact q2
  · simp only; omega
  · simp only; omega

set_option maxRecDepth 100000 in
set_option maxHeartbeats 80000000 in
theorem counts_walk (F : Nat → Prop) (al : Option Addr) (cl : Nat) (L : List (Int × Int × Sl)) (w : World) (hl : Rd F w al L.length 3 (flatS L)) (hi : ∀ x ∈ L, I64 x.1 ∧ I64 x.2.1 ∧ x.2.2.ok w) :
    Calls Try.prog 8 #[.slice al L.length cl] w fun e w' => e = .returned (.bool true) ∧ Upd none_ w w' := by
  have HL := hide hl
  have HI := hide hi
  clear hl hi
  go_enter Try.func8, Try.ntmps8
  go_wp2_with fail
  refine (shown19 w).mono ?_
  rintro e w1 ⟨rfl, hu1⟩
  go_wp2_with fail
  refine (new_is w w1 hu1 500).mono ?_
  rintro e w2 ⟨bx, F2, rfl, h2, -⟩
  rw [show max 1 (min (500 : Int) 1048576) = 500 by decide] at h2
  have HS := hide h2
  clear hu1 h2
  go_wp2_with fail
  go_loopw [5, 6, 7] (fun s5 s6 s7 wr => ∃ (k : Nat) (F : Nat → Prop) (dn tt : Int) (buf : List UInt8) (l : List (Int × Int)), k ≤ L.length ∧ k ≤ 60 ∧ s7 = Value.int .i64 ((k : Nat) : Int) ∧ s5 = Value.int .i64 tt ∧ s6 = Value.int .i64 dn ∧ tt = tot l ∧ IS w wr bx F 500 dn buf l ∧ l.length ≤ k ∧ dn ≤ 500 * k) (fun _ _ s _ => L.length - (intOf s).toNat)
  case atStart => exact ⟨0, F2, 0, 0, [], [], Nat.zero_le _, Nat.zero_le _, rfl, rfl, rfl, rfl, HS.out, Nat.le_refl _, by decide⟩
  case round =>
    clear HS
    obtain ⟨k, F3, dn, tt, buf, l, hk, hk60, rfl, rfl, rfl, htt, hs, hll, hdn⟩ := hrel
    have HS := hide hs
    have HTT := hide htt
    have HU := hide hs.upd
    clear hs htt
    by_cases hc : k < L.length ∧ k < 60
    · obtain ⟨hkl, hk6⟩ := hc
      obtain ⟨g, off, rfl, -, hcc⟩ := HL.out.2.resolve_left (by omega)
      obtain ⟨m0, m1, m2⟩ := flatS_get L k hkl
      have e0 := HU.out.cell (hcc _ _ m0) id
      have e1 := HU.out.cell (hcc _ _ m1) id
      have e2 := HU.out.cell (hcc _ _ m2) id
      rw [← Nat.add_assoc] at e1 e2
      have hx := HI.out _ (List.getElem_mem hkl)
      generalize L[k] = x at e0 e1 e2 hx
      obtain ⟨x0, x1, ad, bs, cbs⟩ := x
      obtain ⟨hx0, hx1, hx2⟩ := hx
      have e2' : wr.cell? ⟨g, off + k * 3 + 2, none⟩ = some (.slice ad bs.length cbs) := e2
      clear hcc m0 m1 m2 e2
      have f1 : (0 : Int) ≤ (k : Int) := by omega
      have f2 : (k : Int) < (L.length : Int) := by omega
      have f3 : (k : Int).toNat = k := by omega
      have f4 : (k : Int) < 60 := by omega
      have HX0 := hide hx0
      have HX1 := hide hx1
      have HX2 := hide hx2
      clear hx0 hx1 hx2
      go_wp2_with fail
      have hU : Upd none_ wr (wr.alloc (.cells #[.int .i64 x0, .int .i64 x1, .slice ad bs.length cbs] 55)) := (Upd.refl _ _).alloc _
      have hb5 : (wr.alloc (.cells #[.int .i64 x0, .int .i64 x1, .slice ad bs.length cbs] 55)).heap[wr.heap.size]? = some (.cells #[.int .i64 x0, .int .i64 x1, .slice ad bs.length cbs] 55 (0, 0)) := heapA_at _ _ _ rfl
      have HS4 := hide (HS.out.keep hU)
      have hGF : ∀ k, F3 k → k < wr.heap.size := HS.out.lt
      clear HS e0 e1 e2' hU
      generalize (wr.alloc (.cells #[.int .i64 x0, .int .i64 x1, .slice ad bs.length cbs] 55)) = w4 at hb5 HS4
      generalize wr.heap.size = G at hb5 hGF
      have hkz := kindZ_bd x0 4 (by omega)
      refine (kind19 x0 4 w4 HX0.out ⟨by omega, by omega⟩).mono ?_
      rintro e w5 ⟨rfl, hu5⟩
      have HS5 := hide (HS4.out.keep hu5)
      have HB5 := hide (hu5.heap hb5 id)
      have hG5 := lt_of_block HB5.out
      have b1 : w5.cell? ⟨G, 1, none⟩ = some (.int .i64 x1) := by rw [cell_of_row w5 G _ _ _ _ HB5.out]; rfl
      have b2 : w5.cell? ⟨G, 2, none⟩ = some (.slice ad bs.length cbs) := by rw [cell_of_row w5 G _ _ _ _ HB5.out]; rfl
      have HGF := hide (show ¬ F3 G from fun e => by have := hGF G e; omega)
      clear HS4 hu5 hb5 hGF
      generalize kindZ x0 4 = kk at hkz
      have hdn1 := HS5.out.iv.dn
      have hh := HS5.out.iv.here
      by_cases hk2 : kk = 2
      case' pos =>
        subst hk2
        obtain ⟨nN, hnN⟩ : ∃ nN : Nat, readN dn x1 l = (nN : Int) := ⟨(readN dn x1 l).toNat, by have := (HS5.out.iv.readN x1).1; omega⟩
        have hrn := HS5.out.iv.readN x1
        have hmn := run_min2 Try.prog
        have hmx : ∀ ats t W, (Builtin.max_ ats t #[.int .i64 0, .int .i64 (min x1 (nextL l dn - dn))]).run Try.prog W = .ok (.int .i64 nN) W := fun ats t W => by
          rw [run_max2, ← hnN]
          unfold readN
          congr 2
          omega
        have v1 : IntKind.i64.wrap (nextL l dn - dn) = nextL l dn - dn := IntWalk.i64_in _ (by omega)
        have v2 : IntKind.i64.wrap (dn + (nN : Int)) = dn + (nN : Int) := IntWalk.i64_in _ (by omega)
        have HRN := hide hnN
        have HBD := hide (And.intro hdn1 (And.intro hh hrn))
        clear hnN hdn1 hh hrn hkz
        go_wp2_with fail
        refine (here_is HS5.out (by omega)).mono ?_
        rintro e w6 ⟨rfl, hu6⟩
        have HS6 := hide (HS5.out.keep hu6)
        have HB6 := hide (hu6.heap HB5.out id)
        have d1 := hu6.cell b1 id
        clear hu6 b1 b2
        go_wp2_with fail
        refine (read_is HS6.out x1 (by omega) (by omega) nN HRN.out).mono ?_
        rintro e w7 ⟨F7, a7, c7, rfl, -, h7, hm7, -⟩
        have HS7 := hide h7
        have d2 := hm7.1.cell d1 HGF.out
        have HNL := hide (show dn + (nN : Int) ≤ 500 * ((k + 1 : Nat) : Int) by have := HBD.out.2.2; rw [HRN.out] at this; omega)
        have HLL := hide (show l.length ≤ k + 1 by omega)
        have HTT2 := HTT
        clear h7 hm7 d1 HS6 HS5 HTT HB6 HB5 HRN HBD
        go_wp2_with fail
        clear hmx hmn v1 v2 d2
        generalize dn + (nN : Int) = dn2 at HS7 HNL ⊢
        generalize buf.drop nN = buf2 at HS7
        generalize l = l2 at HS7 HTT2 HLL
        generalize tt = tt2 at HTT2 ⊢
      case' neg =>
        have hk3 : (kk == 2) = false := by simpa using hk2
        clear hk2 hkz
        have hex : ∃ (ad2 : Option Addr) (bs2 : List UInt8) (m : Nat), bs2.length = m ∧ m ≤ 1000 ∧ Sl.ok w (ad2, bs2, cbs) ∧ ((1000 < bs.length ∧ m = 1000 ∧ ∀ W, (Instr.sliceAt 47 (.slice ad bs.length cbs) none (some (.int .i64 1000)) none).run Try.prog W = .ok (.slice ad2 1000 cbs) W) ∨ (¬ 1000 < bs.length ∧ ad2 = ad ∧ m = bs.length)) := by
          by_cases hbl : 1000 < bs.length
          · obtain ⟨⟨a2, bs2, c2⟩, hs1, hs2, hs3, hs4, hrun⟩ := cut1000 (ad, bs, cbs) HX2.out hbl
            simp only at hs1 hs2 hs4 hrun
            subst hs4
            exact ⟨a2, bs2, 1000, hs2, Nat.le_refl _, hs3, .inl ⟨hbl, rfl, hrun⟩⟩
          · exact ⟨ad, bs, bs.length, rfl, by omega, HX2.out, .inr ⟨hbl, rfl, rfl⟩⟩
        obtain ⟨ad2, bs2, m, hbm, hm1, hok, hcase⟩ := hex
        have htk := take_arg HS5.out x1 HX1.out (ad2, bs2, cbs) hok (by simp only; omega) (by omega)
        obtain ⟨t1, -, t3, t4⟩ := take_law HS5.out.iv x1 m
        simp only at htk
        rw [hbm] at htk
        have hb1 := HS5.out.iv.wf.tot
        have hb2 := t1.tot
        have v3 : IntKind.i64.wrap (tt + (takeR 500 dn x1 m l).1) = tt + (takeR 500 dn x1 m l).1 := by rw [HTT.out, t3, IntWalk.i64_in _ (by omega)]
        have HTT3 := hide (show tt + (takeR 500 dn x1 m l).1 = tot (takeR 500 dn x1 m l).2 by rw [HTT.out, t3]; omega)
        have HLL := hide (show (takeR 500 dn x1 m l).2.length ≤ k + 1 by omega)
        have HNL := hide (show dn ≤ 500 * ((k + 1 : Nat) : Int) by omega)
        clear t1 t3 t4 hb1 hb2 hbm hdn1 hh
        generalize takeR 500 dn x1 m l = tr at htk v3 HTT3 HLL
        obtain ⟨n, l2⟩ := tr
        simp only at htk v3 HTT3 HLL
        have HTK := hide htk
        clear htk
        rcases hcase with ⟨q1, rfl, q2⟩ | ⟨q1, rfl, rfl⟩
        case' inl =>
          have q3 : (1000 : Int) < (bs.length : Int) := by omega
          clear q1
          go_wp2_with fail
        case' inr =>
          have q3 : ¬ (1000 : Int) < (bs.length : Int) := by omega
          have q4 : (bs.length : Int) ≤ 1000 := by omega
          clear q1
          go_wp2_with fail
        all_goals
          refine HTK.out.mono ?_
          rintro e w7 ⟨F7, buf2, rfl, h7, -, -⟩
          have HS7 := hide h7
          clear h7 b1 b2 hk3
          go_wp2_with fail
          clear v3
          generalize dn = dn2 at HS7 HNL ⊢
          have HTT2 := hide HTT3.out.symm
          generalize tt + n = tt2 at HTT2 ⊢
          have HTT4 := hide HTT2.out.symm
          clear HTT2 HTT3
          have HTT2 := HTT4
          clear HTT4
      all_goals
        rw [HTT2.out]
        have hb1 := HS7.out.iv.wf.tot
        have hb3 := HS7.out.iv.dn
        have v4 : IntKind.i64.wrap (dn2 + (tot l2 - dn2)) = tot l2 := by rw [IntWalk.i64_in _ (by omega)]; omega
        clear hb1 hb3
        refine (held_is HS7.out (by have := HLL.out; omega)).mono ?_
        rintro e w8 ⟨rfl, hu8⟩
        have HS8 := hide (HS7.out.keep hu8)
        clear hu8
        go_wp2_with fail
        refine (done_is HS8.out).mono ?_
        rintro e w9 ⟨rfl, hu9⟩
        have HS9 := hide (HS8.out.keep hu9)
        clear hu9 v4
        go_wp2_with fail
        go_roundw
        case rel => exact ⟨k + 1, F7, dn2, tot l2, buf2, l2, by omega, by omega, by go_num, rfl, rfl, rfl, HS9.out, HLL.out, HNL.out⟩
        case measure => simp [intOf]; omega
    · by_cases hkl : k < L.length
      · have f2 : (k : Int) < (L.length : Int) := by omega
        have f4 : ¬ (k : Int) < 60 := by omega
        have f5 : (60 : Int) ≤ (k : Int) := by omega
        clear hc
        go_wp2_with fail
        go_ret
        exact ⟨rfl, HU.out⟩
      · have f2 : ¬ (k : Int) < (L.length : Int) := by omega
        have f5 : (L.length : Int) ≤ (k : Int) := by omega
        clear hc
        go_wp2_with fail
        go_ret
        exact ⟨rfl, HU.out⟩
end Go.Proofs.Ytjjiemicacbmaaa
