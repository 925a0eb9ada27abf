/- The walk of InboxBounds. -/
import Derived.Test.YtjjiemicacbmaaaIn9
namespace Go.Proofs.Ytjjiemicacbmaaa
open Go.RowKit Go.Shelf

set_option maxRecDepth 100000 in
set_option maxHeartbeats 80000000 in
theorem bounds_walk (size : Int) (F : Nat → Prop) (al : Option Addr) (cl : Nat) (L : List (Int × Int × Sl)) (w : World) (hl : Rd F w al L.length 3 (flatS L)) (hi : ∀ x ∈ L, I64 x.1 ∧ I64 x.2.1 ∧ x.2.2.ok w) :
    Calls Try.prog 7 #[.int .i64 size, .slice al L.length cl] w fun e w' => e = .returned (.bool true) ∧ Upd none_ w w' := by
  have HL := hide hl
  have HI := hide hi
  clear hl hi
  go_enter Try.func7, Try.ntmps7
  go_wp2_with fail
  refine (shown19 w).mono ?_
  rintro e w1 ⟨rfl, hu1⟩
  have hmx := run_max2 Try.prog
  have hmn := run_min2 Try.prog
  go_wp2_with fail
  refine (new_is w w1 hu1 size).mono ?_
  rintro e w2 ⟨bx, F2, rfl, h2, -⟩
  have HS := hide h2
  have HSZ := hide (show 1 ≤ max 1 (min size 1048576) ∧ max 1 (min size 1048576) ≤ 1048576 by omega)
  clear hu1 h2
  go_wp2_with fail
  clear hmx hmn
  generalize max 1 (min size 1048576) = S at HS HSZ ⊢
  go_loopw [8, 9] (fun s8 s9 wr => ∃ (k : Nat) (F : Nat → Prop) (dn la : Int) (buf : List UInt8) (l : List (Int × Int)), k ≤ L.length ∧ k ≤ 60 ∧ s9 = Value.int .i64 ((k : Nat) : Int) ∧ s8 = Value.int .i64 la ∧ la ≤ dn + S ∧ IS w wr bx F S dn buf l ∧ l.length ≤ k ∧ dn ≤ 1048576 * k) (fun _ s _ => L.length - (intOf s).toNat)
  case atStart => exact ⟨0, F2, 0, 0, [], [], Nat.zero_le _, Nat.zero_le _, rfl, rfl, by have := HSZ.out; omega, HS.out, Nat.le_refl _, by decide⟩
  case round =>
    clear HS
    obtain ⟨k, F3, dn, la, buf, l, hk, hk60, rfl, rfl, hla, hs, hll, hdn⟩ := hrel
    have HS := hide hs
    have HLA := hide hla
    have HU := hide hs.upd
    clear hs hla
    by_cases hc : k < L.length ∧ k < 60
    · obtain ⟨hkl, hk6⟩ := hc
      obtain ⟨g, off, rfl, -, hcc⟩ := HL.out.2.resolve_left (by omega)
      obtain ⟨m0, m1, m2⟩ := flatS_get L k hkl
      have e0 := HU.out.cell (hcc _ _ m0) id
      have e1 := HU.out.cell (hcc _ _ m1) id
      have e2 := HU.out.cell (hcc _ _ m2) id
      rw [← Nat.add_assoc] at e1 e2
      have hx := HI.out _ (List.getElem_mem hkl)
      generalize L[k] = x at e0 e1 e2 hx
      obtain ⟨x0, x1, ad, bs, cbs⟩ := x
      obtain ⟨hx0, hx1, hx2⟩ := hx
      have e2' : wr.cell? ⟨g, off + k * 3 + 2, none⟩ = some (.slice ad bs.length cbs) := e2
      clear hcc m0 m1 m2 e2
      have f1 : (0 : Int) ≤ (k : Int) := by omega
      have f2 : (k : Int) < (L.length : Int) := by omega
      have f3 : (k : Int).toNat = k := by omega
      have f4 : (k : Int) < 60 := by omega
      have HX0 := hide hx0
      have HX1 := hide hx1
      have HX2 := hide hx2
      clear hx0 hx1 hx2
      go_wp2_with fail
      have hU : Upd none_ wr (wr.alloc (.cells #[.int .i64 x0, .int .i64 x1, .slice ad bs.length cbs] 55)) := (Upd.refl _ _).alloc _
      have hb5 : (wr.alloc (.cells #[.int .i64 x0, .int .i64 x1, .slice ad bs.length cbs] 55)).heap[wr.heap.size]? = some (.cells #[.int .i64 x0, .int .i64 x1, .slice ad bs.length cbs] 55 (0, 0)) := heapA_at _ _ _ rfl
      have HS4 := hide (HS.out.keep hU)
      have hGF : ∀ k, F3 k → k < wr.heap.size := HS.out.lt
      clear HS e0 e1 e2' hU
      generalize (wr.alloc (.cells #[.int .i64 x0, .int .i64 x1, .slice ad bs.length cbs] 55)) = w4 at hb5 HS4
      generalize wr.heap.size = G at hb5 hGF
      have hkz := kindZ_bd x0 4 (by omega)
      refine (kind19 x0 4 w4 HX0.out ⟨by omega, by omega⟩).mono ?_
      rintro e w5 ⟨rfl, hu5⟩
      have HS5 := hide (HS4.out.keep hu5)
      have HB5 := hide (hu5.heap hb5 id)
      have hG5 := lt_of_block HB5.out
      have b1 : w5.cell? ⟨G, 1, none⟩ = some (.int .i64 x1) := by rw [cell_of_row w5 G _ _ _ _ HB5.out]; rfl
      have b2 : w5.cell? ⟨G, 2, none⟩ = some (.slice ad bs.length cbs) := by rw [cell_of_row w5 G _ _ _ _ HB5.out]; rfl
      have HGF := hide (show ¬ F3 G from fun e => by have := hGF G e; omega)
      clear HS4 hu5 hb5 hGF
      generalize kindZ x0 4 = kk at hkz
      have hdn1 := HS5.out.iv.dn
      have hh := HS5.out.iv.here
      by_cases hk2 : kk = 2
      case' pos =>
        subst hk2
        obtain ⟨nN, hnN⟩ : ∃ nN : Nat, readN dn x1 l = (nN : Int) := ⟨(readN dn x1 l).toNat, by have := (HS5.out.iv.readN x1).1; omega⟩
        have hrn := HS5.out.iv.readN x1
        have HRN := hide hnN
        have HBD := hide (And.intro hdn1 (And.intro hh hrn))
        clear hnN hdn1 hh hrn hkz
        go_wp2_with fail
        refine (read_is HS5.out x1 (by omega) (by have := HSZ.out; have := HBD.out.1; omega) nN HRN.out).mono ?_
        rintro e w7 ⟨F7, a7, c7, rfl, -, h7, hm7, -⟩
        have HS7 := hide h7
        have HNL := hide (show dn + (nN : Int) ≤ 1048576 * ((k + 1 : Nat) : Int) by have h9 := HBD.out.2.2; have h8 := HSZ.out; rw [HRN.out] at h9; omega)
        have HLL := hide (show l.length ≤ k + 1 by omega)
        have HLA2 := hide (show la ≤ dn + (nN : Int) + S by have := HLA.out; omega)
        clear h7 hm7 HS5 HB5 HRN HBD HLA b1 b2
        go_wp2_with fail
        generalize dn + (nN : Int) = dn2 at HS7 HNL HLA2
        generalize buf.drop nN = buf2 at HS7
        generalize l = l2 at HS7 HLL
      case' neg =>
        have hk3 : (kk == 2) = false := by simpa using hk2
        clear hk2 hkz
        have hex : ∃ (ad2 : Option Addr) (bs2 : List UInt8) (m : Nat), bs2.length = m ∧ m ≤ 1000 ∧ Sl.ok w (ad2, bs2, cbs) ∧ ((1000 < bs.length ∧ m = 1000 ∧ ∀ W, (Instr.sliceAt 47 (.slice ad bs.length cbs) none (some (.int .i64 1000)) none).run Try.prog W = .ok (.slice ad2 1000 cbs) W) ∨ (¬ 1000 < bs.length ∧ ad2 = ad ∧ m = bs.length)) := by
          by_cases hbl : 1000 < bs.length
          · obtain ⟨⟨a2, bs2, c2⟩, hs1, hs2, hs3, hs4, hrun⟩ := cut1000 (ad, bs, cbs) HX2.out hbl
            simp only at hs1 hs2 hs4 hrun
            subst hs4
            exact ⟨a2, bs2, 1000, hs2, Nat.le_refl _, hs3, .inl ⟨hbl, rfl, hrun⟩⟩
          · exact ⟨ad, bs, bs.length, rfl, by omega, HX2.out, .inr ⟨hbl, rfl, rfl⟩⟩
        obtain ⟨ad2, bs2, m, hbm, hm1, hok, hcase⟩ := hex
        have htk := take_arg HS5.out x1 HX1.out (ad2, bs2, cbs) hok (by simp only; omega) (by omega)
        obtain ⟨-, -, -, t4⟩ := take_law HS5.out.iv x1 m
        obtain ⟨t5, t6⟩ := take_bd HS5.out.iv x1 m
        simp only at htk
        rw [hbm] at htk
        have HLL := hide (show (takeR S dn x1 m l).2.length ≤ k + 1 by omega)
        have HNL := hide (show dn ≤ 1048576 * ((k + 1 : Nat) : Int) by omega)
        clear t4 hbm hdn1 hh
        generalize takeR S dn x1 m l = tr at htk t5 t6 HLL
        obtain ⟨n, l2⟩ := tr
        simp only at htk t5 t6 HLL
        have HTK := hide htk
        have HLA2 := HLA
        clear htk
        rcases hcase with ⟨q1, rfl, q2⟩ | ⟨q1, rfl, rfl⟩
        case' inl =>
          have q3 : (1000 : Int) < (bs.length : Int) := by omega
          clear q1
          go_wp2_with fail
        case' inr =>
          have q3 : ¬ (1000 : Int) < (bs.length : Int) := by omega
          have q4 : (bs.length : Int) ≤ 1000 := by omega
          clear q1
          go_wp2_with fail
        all_goals
          refine HTK.out.mono ?_
          rintro e w7 ⟨F7, buf2, rfl, h7, -, -⟩
          have HS7 := hide h7
          clear h7 b1 b2 hk3
          go_wp2_with fail
          generalize dn = dn2 at HS7 HNL HLA2
      all_goals
        have hb1 := HS7.out.iv.held
        have hb3 := HS7.out.iv.dn
        have hb4 := HS7.out.iv.here
        have hb5 := HSZ.out
        have hb6 := HLA2.out
        have v4 : IntKind.i64.wrap (dn2 + S) = dn2 + S := IntWalk.i64_in _ (by omega)
        have y1 : tot l2 - dn2 ≤ S := by omega
        have y2 : la ≤ dn2 + S := by omega
        have y3 : dn2 ≤ nextL l2 dn2 := by omega
        have y4 : nextL l2 dn2 ≤ dn2 + S := by omega
        have y5 : ¬ S < tot l2 - dn2 := by omega
        have y6 : ¬ dn2 + S < la := by omega
        have y7 : ¬ nextL l2 dn2 < dn2 := by omega
        have y8 : ¬ dn2 + S < nextL l2 dn2 := by omega
        have HSc := HS7
        clear hb1 hb3 hb4 hb5 hb6 HS7
        go_wp2_with (first
          | (go_at_call 39; refine (held_is HSc.out (by have := HLL.out; omega)).mono ?_; rintro e w8 ⟨rfl, hu8⟩; have HSc := hide (HSc.out.keep hu8); clear hu8)
          | (go_at_call 42; refine (limit_is HSc.out).mono ?_; rintro e w8 ⟨rfl, hu8⟩; have HSc := hide (HSc.out.keep hu8); clear hu8)
          | (go_at_call 40; refine (done_is HSc.out).mono ?_; rintro e w8 ⟨rfl, hu8⟩; have HSc := hide (HSc.out.keep hu8); clear hu8)
          | (go_at_call 43; refine (here_is HSc.out (by have := HLL.out; omega)).mono ?_; rintro e w8 ⟨rfl, hu8⟩; have HSc := hide (HSc.out.keep hu8); clear hu8))
        go_roundw
        case rel => exact ⟨k + 1, F7, dn2, dn2 + S, buf2, l2, by omega, by omega, by go_num, rfl, Int.le_refl _, HSc.out, HLL.out, HNL.out⟩
        case measure => simp [intOf]; omega
    · by_cases hkl : k < L.length
      · have f2 : (k : Int) < (L.length : Int) := by omega
        have f4 : ¬ (k : Int) < 60 := by omega
        have f5 : (60 : Int) ≤ (k : Int) := by omega
        clear hc
        go_wp2_with fail
        go_ret
        exact ⟨rfl, HU.out⟩
      · have f2 : ¬ (k : Int) < (L.length : Int) := by omega
        have f5 : (L.length : Int) ≤ (k : Int) := by omega
        clear hc
        go_wp2_with fail
        go_ret
        exact ⟨rfl, HU.out⟩
end Go.Proofs.Ytjjiemicacbmaaa
