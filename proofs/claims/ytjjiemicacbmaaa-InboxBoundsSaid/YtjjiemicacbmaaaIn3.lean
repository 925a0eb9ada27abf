/- Package inbox: Take. -/
import Derived.Test.YtjjiemicacbmaaaIn2
import Derived.Test.YtjjiemicacbmaaaOp1
import Derived.BigQuiet
import Derived.StillTailTactics
namespace Go.Proofs.Ytjjiemicacbmaaa
open Go.RowKit Go.Shelf

theorem take_end {size done at_ : Int} {bs buf : List UInt8} {l : List (Int × Int)} {f0 f to0 : Int} {lk : List (Int × Int)} {bk : List UInt8} (hv : IV size done buf l) (h : TI size done at_ bs buf l f0 f lk bk) (hB : ¬ (at_ < 0 ∨ done + size ≤ at_))
    (hf0 : f0 = max at_ done) (hto : to0 = min (at_ + bs.length) (done + size)) (hf : f = to0 ∨ (to0 ≤ f0 ∧ f = f0)) : takeR size done at_ bs.length l = (tot lk - tot l, lk) := by
  have := hv.sz
  have := hv.dn
  have e : lk = (addL l f0 to0).2 := add_is hv.wf h.wf (by omega) (by omega) fun n => by rw [h.num n]; constructor <;> (rintro (h | h); exact .inl h; exact .inr (by omega))
  unfold takeR
  rw [if_neg hB, ← hf0, ← hto]
  obtain ⟨-, -, a3, -⟩ := add_law hv.wf f0 to0
  rw [e, ← a3]

set_option maxRecDepth 100000 in
set_option maxHeartbeats 80000000 in
theorem itake_any (bx bi : Nat) (o ob : Option Nat) (size done : Int) (buf : List UInt8) (l : List (Int × Int)) (w : World) (h : IX w bx bi o ob size done buf l) (hv : IV size done buf l) (at_ : Int) (hat : I64 at_)
    (G : Nat → Prop) (ab : Option Addr) (cb : Nat) (bs : List UInt8) (hb : Rd G w ab bs.length 1 (u8s bs)) (hG : ∀ k, G k → ¬ ft bx bi o ob k) (hm : bs.length ≤ 1152921504606846976) (hmc : bs.length ≤ cb) (hn : (l.length + 2) * 48 ≤ 140737488355328) :
    Calls Try.prog 37 #[.pointer (some ⟨bx, 0, none⟩), .int .i64 at_, .slice ab bs.length cb] w fun e w' => ∃ o' ob' bk, e = .returned (.int .i64 (takeR size done at_ bs.length l).1) ∧ IX w' bx bi o' ob' size done bk (takeR size done at_ bs.length l).2 ∧
      (bk.length : Int) ≤ size ∧ buf.length ≤ bk.length ∧ Vals done at_ bs buf l (takeR size done at_ bs.length l).2 bk ∧ Upd (ft bx bi o ob) w w' ∧ (o' = o ∨ Fresh w o') ∧ (ob' = ob ∨ Fresh w ob') := by
  have hsz := hv.sz
  have hdn := hv.dn
  have HLI := hide (show ∀ W, Upd none_ w W → Calls Try.prog 42 #[.pointer (some ⟨bx, 0, none⟩)] W fun e w' => e = .returned (.int .i64 (done + size)) ∧ Upd none_ w w' from
    fun W hW => (ilimit_any bx bi o ob size done buf l W (h.keep hW) (by omega) (by omega)).mono fun e w' ⟨h1, h2⟩ => ⟨h1, hW.trans h2⟩)
  have HX := hide h
  have HV := hide hv
  have HAT := hide hat
  obtain ⟨a, c, -, e1, -, -, -, hlt, -⟩ := h.cells
  clear h hv hat
  by_cases hA : at_ < 0 ∨ done + size ≤ at_
  · have hr : takeR size done at_ bs.length l = (0, l) := by unfold takeR; rw [if_pos hA]
    rw [hr]
    have hfin : ∀ w', Upd none_ w w' → ∃ o' ob' bk, Ending.returned (Value.int .i64 0) = .returned (.int .i64 0) ∧ IX w' bx bi o' ob' size done bk l ∧ (bk.length : Int) ≤ size ∧ buf.length ≤ bk.length ∧ Vals done at_ bs buf l l bk ∧ Upd (ft bx bi o ob) w w' ∧ (o' = o ∨ Fresh w o') ∧ (ob' = ob ∨ Fresh w ob') :=
      fun w' hw => ⟨o, ob, buf, rfl, HX.out.keep hw, HV.out.len, Nat.le_refl _, fun n _ hi => ⟨fun _ => rfl, fun h => absurd hi h⟩, hw.mono (fun _ _ h => h.elim), .inl rfl, .inl rfl⟩
    have HF := hide hfin
    clear hr hfin
    by_cases hneg : at_ < 0
    · clear hA hsz hdn e1
      go_enter Try.func37, Try.ntmps37
      go_wp2_with fail
      go_ret
      obtain ⟨x1, x2, x3, -, hx⟩ := HF.out w (Upd.refl _ _)
      first | exact ⟨rfl, x1, x2, x3, hx⟩ | exact ⟨x1, x2, x3, rfl, hx⟩
    · have hge : done + size ≤ at_ := by omega
      clear hA hsz hdn e1
      go_enter Try.func37, Try.ntmps37
      go_wp2_with fail
      refine (HLI.out w (Upd.refl _ _)).mono ?_
      rintro e w1 ⟨rfl, hu1⟩
      have HU1 := hide hu1
      clear hu1
      go_wp2_with fail
      go_ret
      obtain ⟨x1, x2, x3, -, hx⟩ := HF.out w1 HU1.out
      first | exact ⟨rfl, x1, x2, x3, hx⟩ | exact ⟨x1, x2, x3, rfl, hx⟩
  · have hmx := run_max2 Try.prog
    have hmn := run_min2 Try.prog
    have a0 : ¬ at_ < 0 := by omega
    have a1 : at_ < done + size := by omega
    have hs1 : IntKind.i64.wrap (at_ + (bs.length : Int)) = at_ + (bs.length : Int) := IntWalk.i64_in _ (by omega)
    have HA := hide hA
    have HB := hide hb
    have HSZ := hide hsz
    have HDN := hide hdn
    clear hA hsz hdn hb
    go_enter Try.func37, Try.ntmps37
    go_wp2_with fail
    refine (HLI.out w (Upd.refl _ _)).mono ?_
    rintro e w1 ⟨rfl, hu1⟩
    have c1 := hu1.cell e1 id
    have HU1 := hide hu1
    clear hu1
    go_upto_region 3 with fail
    go_cut [7, 8] (fun s7 s8 wc => s7 = Value.int .i64 (max at_ done) ∧ s8 = Value.int .i64 (min (at_ + (bs.length : Int)) (done + size)) ∧ Upd none_ w wc)
    case first =>
      go_region_held3 (fun W => Upd none_ w W ∧ W.cell? ⟨bx, 1, none⟩ = some (.int .i64 done)) (first | exact ⟨HU1.out.drew, c1⟩ | exact ⟨hu, hu.cell e1 id⟩)
        (first | (go_at_call 42; refine (HLI.out _ (And.left (by assumption))).mono ?_; rintro e w' ⟨rfl, hu⟩))
      all_goals
        obtain ⟨hu0, -⟩ : Upd none_ w w' ∧ w'.cell? ⟨bx, 1, none⟩ = some (.int .i64 done) := by assumption
        have HU0 := hide hu0
        clear hu0 hu
        go_wp2_with fail
        go_meet
        exact ⟨rfl, rfl, HU0.out⟩
    case rest =>
      obtain ⟨rfl, rfl, huc⟩ := hcut
      obtain ⟨f0, hf0⟩ : ∃ f0, f0 = max at_ done := ⟨_, rfl⟩
      obtain ⟨to0, hto⟩ : ∃ to0, to0 = min (at_ + (bs.length : Int)) (done + size) := ⟨_, rfl⟩
      rw [← hf0, ← hto]
      have HF0 := hide hf0
      have HTO := hide hto
      have HT0 := hide (TI.start (done := done) (at_ := at_) (bs := bs) f0 HV.out.wf HV.out.len)
      have HUC := hide huc
      clear hf0 hto huc c1 HU1 hs1 hlt e1
      go_wp2_with fail
      go_loopg [7, 9] ((to0 - f0).toNat + 1) (fun kx s7 s9 wr => ∃ (f nn : Int) (o' ob' : Option Nat) (lk : List (Int × Int)) (bk : List UInt8), s7 = Value.int .i64 f ∧ s9 = Value.int .i64 nn ∧ nn = tot lk - tot l ∧ f0 ≤ f ∧ (f ≤ to0 ∨ f = f0) ∧ (to0 - f).toNat + 1 ≤ kx ∧
        IX wr bx bi o' ob' size done bk lk ∧ TI size done at_ bs buf l f0 f lk bk ∧ Upd (ft bx bi o ob) w wr ∧ (o' = o ∨ Fresh w o') ∧ (ob' = ob ∨ Fresh w ob'))
      case atStart => exact ⟨f0, 0, o, ob, l, buf, rfl, rfl, by omega, Int.le_refl _, .inr rfl, Nat.le_refl _, HX.out.keep HUC.out, HT0.out, HUC.out.mono (fun _ _ h => h.elim), .inl rfl, .inl rfl⟩
      case round =>
        clear HT0 HUC
        obtain ⟨f, nn, o', ob', lk, bk, rfl, rfl, hnn, hff, hft, hkx, hx, hti, hu, ho', hob'⟩ := hrel
        have HNN := hide hnn
        have HXK := hide hx
        have HTI := hide hti
        have HU := hide hu
        have HO := hide ho'
        have HOB := hide hob'
        have HFIN := hide (show ∀ W, (f = to0 ∨ (to0 ≤ f0 ∧ f = f0)) → Upd none_ wr W → takeR size done at_ bs.length l = (nn, lk) ∧ IX W bx bi o' ob' size done bk lk ∧ Upd (ft bx bi o ob) w W from
          fun W hf hW => ⟨by rw [take_end HV.out hti HA.out HF0.out HTO.out hf, hnn], hx.keep hW, hu.thenNew hW⟩)
        clear hnn hx hti hu ho' hob'
        by_cases hlt : f < to0
        · obtain ⟨gj, rfl⟩ : ∃ m, gk = m + 1 := ⟨gk - 1, by omega⟩
          have hsz := HSZ.out
          have hdn := HDN.out
          have hb1 := HF0.out
          have hb2 := HTO.out
          have hto62 : to0 ≤ 4611686018427387904 := by omega
          have hlk : lk.length ≤ l.length + 1 := by
            rw [HTI.out.isAdd HV.out.wf (by omega) (by omega)]
            exact (add_law HV.out.wf f0 f).2.2.2
          rcases hgp : gapL lk f to0 with ⟨⟨g1, g2⟩, gb⟩
          obtain ⟨a2, c2, -, d1, d2, d3, -, hbl, -, -, -, hR⟩ := HXK.out.cells
          have hgc := gap_any bi o' lk f to0 wr hR (by omega)
          rw [hgp] at hgc
          cases gb with
          | false =>
            have hend := TI.stop HTI.out (by omega) hto62 hlt hgp
            have HEND := hide hend
            clear hend hgp hb1 hb2 hsz hdn hto62 hlk d1 d2 hR hbl
            go_wp2_with fail
            refine hgc.mono ?_
            rintro e w1 ⟨rfl, hu1⟩
            have HU1 := hide (hu1.alloc (.cells #[.int .i64 g1, .int .i64 g2] 33))
            clear hgc hu1 d3
            go_wp2_with fail
            go_ret
            have hte := take_end HV.out HEND.out HA.out HF0.out HTO.out (.inl rfl)
            rw [hte]
            exact ⟨o', ob', bk, by rw [HNN.out]; rfl, HXK.out.keep HU1.out, HTI.out.len, HTI.out.ge, HTI.out.vals, HU.out.thenNew HU1.out, HO.out, HOB.out⟩
          | true =>
            obtain ⟨r, hr⟩ : ∃ r, r = (g2 - done).toNat - bk.length := ⟨_, rfl⟩
            obtain ⟨xs, hxs⟩ : ∃ xs, xs = (bs.drop (g1 - at_).toNat).take (g2 - g1).toNat := ⟨_, rfl⟩
            obtain ⟨s1, s2, s3, s4, s5, s6, s7⟩ := HTI.out.step HV.out hff (by omega) (by omega) (by omega) (by omega) hto62 hlt hgp r hr xs hxs
            have v1 : IntKind.i64.wrap (g2 - done) = g2 - done := IntWalk.i64_in _ (by omega)
            have hbk := HTI.out.len
            have HS4 := hide s4
            have HS5 := hide s5
            have HS6 := hide s6
            have HS7 := hide s7
            have HR := hide hr
            have HXS := hide hxs
            clear hgp s4 s5 s6 s7 hr hxs hb1 hb2
            go_wp2_with fail
            refine hgc.mono ?_
            clear hgc
            rintro e w1 ⟨rfl, hu1⟩
            have hU2 : Upd none_ wr (w1.alloc (.cells #[.int .i64 g1, .int .i64 g2] 33)) := hu1.alloc _
            have hB2 : (w1.alloc (.cells #[.int .i64 g1, .int .i64 g2] 33)).heap[w1.heap.size]? = some (.cells #[.int .i64 g1, .int .i64 g2] 33 (0, 0)) := heapA_at _ _ _ rfl
            have hfr : wr.heap.size ≤ w1.heap.size := hu1.size
            clear d1 d2 d3 hbl hu1 hR
            go_wp2_with fail
            generalize (w1.alloc (.cells #[.int .i64 g1, .int .i64 g2] 33)) = w2 at hU2 hB2
            generalize w1.heap.size = GB at hB2 hfr
            obtain ⟨a3, c3, -, d1, d2, d3, -, hbl, -, -, -, -⟩ := (HXK.out.keep hU2).cells
            have q1 : w2.cell? ⟨GB, 0, none⟩ = some (.int .i64 g1) := by rw [cell_of_row w2 GB _ _ _ _ hB2]; rfl
            have q2 : w2.cell? ⟨GB, 1, none⟩ = some (.int .i64 g2) := by rw [cell_of_row w2 GB _ _ _ _ hB2]; rfl
            go_quiet (fail)
            have HU3 : Hid (Upd none_ wr (w2.drewN nq)) := hide (hU2.drewN _)
            have HB3 : Hid ((w2.drewN nq).heap[GB]? = some (.cells #[.int .i64 g1, .int .i64 g2] 33 (0, 0))) := hide hB2
            clear hU2 hB2 d1 d2 d3 q1 q2 hbl
            generalize w2.drewN nq = w3 at HU3 HB3
            have HX3 := hide (HXK.out.keep HU3.out)
            obtain ⟨a3, c3, -, d1, d2, d3, hfz, hbl, hB, hrow, hob3, hR3⟩ := HX3.out.cells
            go_upto_if 62 with fail
            go_cut [12] (fun s12 wc => ∃ (ob2 : Option Nat), s12 = Value.int .i64 (g2 - done) ∧ IX wc bx bi o' ob2 size done (bk ++ List.replicate r 0) lk ∧ Upd (ft bx bi o' ob') w3 wc ∧ (ob2 = ob' ∨ Fresh w3 ob2) ∧ wc.heap[GB]? = some (.cells #[.int .i64 g1, .int .i64 g2] 33 (0, 0)))
            case first =>
              by_cases hroom : (bk.length : Int) < g2 - done
              · have hrr : g2 - done - (bk.length : Int) = (r : Int) := by have := HR.out; omega
                have v2 : IntKind.i64.wrap (g2 - done - (bk.length : Int)) = g2 - done - (bk.length : Int) := IntWalk.i64_in _ (by omega)
                have hcap : bk.length + r ≤ 1048576 := by have := HR.out; have := HTO.out; omega
                have HRR := hide hrr
                have HROW := hide hrow
                have HBX := hide hB
                have hnob : ¬ (Value.slice a3 bk.length c3).ownBlock = some bx := fun e => HX3.out.apart.2.2.1 (hob3 ▸ e)
                have HOB3 := hide hob3
                have hnog : ¬ (Value.slice a3 bk.length c3).ownBlock = some GB := fun e => by
                  obtain ⟨cur, hc⟩ := own_blk hrow e
                  exact ne_of_type hc HB3.out (by decide) rfl
                have hbg : GB ≠ bx := ne_of_type HB3.out hB (by decide)
                have HNO := hide (And.intro hnob (And.intro hnog hbg))
                clear hrow hB hrr hob3 hnob hnog hbg
                go_wp2_with fail
                go_region_law (refine step_appz rfl _ _ _ _ rfl 0 5 _ 1 1 .i64 Try.underlying47 Try.underlying3 elem_u8 u8_cells (.slice a3 bk.length c3) bk.length (u8s bk) rfl (Upd.own (S := none_) ((Upd.refl none_ w3).drew) HROW.out (fun _ _ => id)) .i64 r rfl HRR.out (by omega) (by omega) (Nat.zero_le _) ?_; intro v' wy hown hu hmv _ _; obtain ⟨a4, c4, rfl⟩ := own_shape hown; have hby := hu.heap (k := bx) HBX.out HNO.out.1; have cy : wy.cell? ⟨bx, 2, none⟩ = some (.slice a3 bk.length c3) := (by rw [cell_of_row _ bx 2 _ _ _ hby]; rfl); have fy := frozen_of_row wy bx 2 _ _ hby; have ly : bx < wy.heap.size := lt_of_block hby)
                all_goals
                  rw [zeros_u8, ← u8s_append] at hown
                  have hg := IX.grow (w := w3.drew) HBX.out (Upd.own (S := none_) ((Upd.refl none_ w3).drew) HROW.out (fun _ _ => id)) HOB3.out (hR3.keep ((Upd.refl none_ w3).drew)) hown (by simp) hu hmv
                  have hgb := (heap_setCell_other wy ⟨bx, 2, none⟩ GB (.slice a4 (bk.length + r) c4) HNO.out.2.2).trans (hu.heap (k := GB) HB3.out HNO.out.2.1)
                  have HGR := hide hg
                  have HGB := hide hgb
                  clear hg hgb hown hu hmv hby cy fy ly
                  go_wp2_with fail
                  go_meet
                  exact ⟨_, rfl, HGR.out.1, (((Upd.refl none_ w3).drew).mono (fun _ _ h => h.elim)).trans HGR.out.2.1, HGR.out.2.2, HGB.out⟩
              · have hr0 : r = 0 := by have := HR.out; omega
                have HX4 : Hid (IX w3 bx bi o' ob' size done (bk ++ List.replicate r 0) lk) := hide (by rw [hr0]; simpa using HX3.out)
                have hro : ¬ (bk.length : Int) < g2 - done := hroom
                have hro2 : g2 - done ≤ (bk.length : Int) := by omega
                clear hroom hro hr0
                go_wp2_with fail
                go_meet
                exact ⟨ob', rfl, HX4.out, Upd.refl _ _, .inl rfl, HB3.out⟩
            case rest =>
              obtain ⟨ob2, rfl, hx4, hu4, hob4, hB4⟩ := hcut
              clear d1 d2 d3 hfz hbl hB hrow hob3 hR3 a3 c3
              have HS7' := HS7
              have HS4' := HS4
              have HX4 := hide hx4
              have HU4 := hide hu4
              have HOB4 := hide hob4
              clear hx4 hu4 hob4
              obtain ⟨p, hp⟩ : ∃ p : Nat, g1 - done = (p : Int) := ⟨(g1 - done).toNat, by have := HF0.out; omega⟩
              obtain ⟨q, hq⟩ : ∃ q : Nat, g2 - g1 = (q : Int) := ⟨(g2 - g1).toNat, by omega⟩
              obtain ⟨q1, hq1⟩ : ∃ q1 : Nat, g1 - at_ = (q1 : Int) := ⟨(g1 - at_).toNat, by have := HF0.out; omega⟩
              have hpn : (g1 - done).toNat = p := by omega
              have hqn : (g2 - g1).toNat = q := by omega
              have hq1n : (g1 - at_).toNat = q1 := by omega
              rw [hpn] at HS7' HS4'
              have hxl := HS6.out
              rw [hqn] at hxl
              have HXL := hide hxl
              have hxs := HXS.out
              rw [hqn, hq1n] at hxs
              have hfit := HS7'.out
              generalize bk ++ List.replicate r 0 = B1 at HX4 HS7' HS4' hfit
              obtain ⟨a5, c5, -, d1, d2, d3, -, hbl, hB, hrow, hob5, hR5⟩ := HX4.out.cells
              obtain ⟨g5, rfl, -, -, -⟩ := own_at2 hrow (by omega)
              obtain ⟨c5', L, heq, hnc, hcm, -, hgL, hL, hT⟩ := own_row hrow (G := g5) rfl
              injection heq with _ _ heq
              subst heq
              rw [Nat.mul_one] at hL hT
              obtain ⟨NB, hNB⟩ : ∃ NB, NB = B1.length := ⟨_, rfl⟩
              rw [← hNB] at hrow hB d2 hob5 hnc hT hfit
              have hqb : q1 + q ≤ bs.length := by have := HTO.out; omega
              have hq0 : 0 < q := by omega
              obtain ⟨gs, os, rfl, hGs, -⟩ := HB.out.2.resolve_left (by omega)
              obtain ⟨ad6, had6, hcf⟩ := cut_from (P := Try.prog) 47 5 Try.underlying47 1 elem_u8.size gs os bs.length cb q1 (by omega) .i64 (g1 - at_) hq1
              have hcmid := cut_mid (P := Try.prog) 47 5 Try.underlying47 elem_u8.size g5 NB c5 p q (by omega) hq0 (g1 - done) (g2 - done) hp (by omega)
              have v3 : IntKind.i64.wrap (g1 - done) = g1 - done := IntWalk.i64_in _ (by omega)
              have v4 : IntKind.i64.wrap (g1 - at_) = g1 - at_ := IntWalk.i64_in _ (by omega)
              have hUW : Upd (ft bx bi o ob) w wc := (HU.out.thenNew HU3.out).trans' HU4.out (ft_sub HO.out HOB.out)
              have hrd : Rd G wc.drew ad6 (bs.length - q1) 1 (u8s (bs.drop q1)) := by
                have h1 : Rd G wc.drew (some ⟨gs, os, none⟩) bs.length 1 (u8s bs) := HB.out.upd (hUW.drew) hG
                have h2 := h1.from q1 (by omega) ad6 (fun h => had6 (by omega))
                rw [u8s_drop]; simpa using h2
              have hbd : wc.drew.heap[bx]? = some (.cells #[.int .i64 size, .int .i64 done, .slice (some ⟨g5, 0, none⟩) NB c5, .pointer (some ⟨bi, 0, none⟩)] 99 (0, 0)) := hB
              have hgd : wc.drew.heap[g5]? = some (.cells L.toArray 5 (0, 0)) := hgL
              have hGBd : wc.drew.heap[GB]? = some (.cells #[.int .i64 g1, .int .i64 g2] 33 (0, 0)) := hB4
              have hRd : RG wc.drew bi o' lk := hR5.keep ((Upd.refl none_ wc).drew)
              have hUD : Upd (ft bx bi o ob) w wc.drew := hUW.drew
              have z1 : wc.cell? ⟨GB, 0, none⟩ = some (.int .i64 g1) := by rw [cell_of_row wc GB _ _ _ _ hB4]; rfl
              have z2 : wc.cell? ⟨GB, 1, none⟩ = some (.int .i64 g2) := by rw [cell_of_row wc GB _ _ _ _ hB4]; rfl
              have HBD := hide hbd
              have HGD := hide hgd
              have HGBD := hide hGBd
              have HRD := hide hRd
              have HUD := hide hUD
              have HRDB := hide hrd
              have HNB := hide hNB
              have HT := hide hT
              have HOB5 := hide hob5
              have HXS2 := hide hxs
              have HLC := hide (And.intro hL (And.intro hnc (And.intro hcm (And.intro hfit (And.intro hqb hq0)))))
              have HPQ := hide (And.intro hp (And.intro hq hq1))
              clear hbd hgd hGBd hRd hUD hrd hNB hT hob5 hxs hL hnc hcm hfit hqb hq0 hp hq hq1 hB hgL hrow hR5 hB4 had6 hUW hpn hqn hq1n hxl
              go_wp2_with fail
              go_still_tail 25, (by kernel_rfl)
              change wpList _ _ _ _ _ wc.drew
              generalize wc.drew = w5 at HBD HGD HGBD HRD HUD HRDB
              clear d1 d2 d3 z1 z2 hbl
              refine wpL_copy rfl _ _ _ rfl 5 Try.underlying47 1 elem_u8.size _ _ _ _ (bs.length - q1) _ rfl rfl (u8s (bs.drop q1)) HRDB.out q (by have := HLC.out.2.2.2.2.1; omega) (fun u hu => u8s_one _ u (List.mem_of_mem_take hu)) g5 p L 5 HGD.out (.inr rfl) (by have := HLC.out; have := HXL.out; omega) ?_
              intro w6 hg6 hu6
              rw [Nat.mul_one, ← u8s_take, ← HXS2.out] at hg6
              obtain ⟨hx6, hu56⟩ := IX.splice (N := NB) (xs := xs) (p := p) HBD.out HNB.out HRD.out HGD.out HLC.out.1 HLC.out.2.1 HLC.out.2.2.1 HT.out HLC.out.2.2.2.1 hg6 hu6
              have hgg : g5 ≠ GB := ne_of_type HGD.out HGBD.out (by decide)
              have hgb6 := hu6.heap HGBD.out (fun e => hgg e.symm)
              have hu06 : Upd (ft bx bi o ob) w w6 := HUD.out.trans' hu56 (ft_sub HO.out (by
                have h1 := moved_trans (w1 := w3) (Nat.le_trans HU.out.size HU3.out.size) HOB.out HOB4.out
                rwa [← HOB5.out] at h1))
              clear hg6 hu6
              have HX6 := hide hx6
              have HU06 := hide hu06
              have HGB6 := hide hgb6
              clear hx6 hu56 hu06 hgb6 hcf hcmid HGD HBD HGBD HRD HUD HRDB HT
              go_wp2_with fail
              obtain ⟨a7, c7, -, x1, -, x3, -, -, -, -, -, hR6⟩ := HX6.out.cells
              have y1 : w6.cell? ⟨GB, 0, none⟩ = some (.int .i64 g1) := by rw [cell_of_row w6 GB _ _ _ _ HGB6.out]; rfl
              have y2 : w6.cell? ⟨GB, 1, none⟩ = some (.int .i64 g2) := by rw [cell_of_row w6 GB _ _ _ _ HGB6.out]; rfl
              have had := add_any bi o' lk g1 g2 w6.drew (hR6.keep ((Upd.refl none_ w6).drew)) (by omega)
              obtain ⟨qa1, qa2, -, qa4, qa5⟩ := HX6.out.apart
              have hno' : o' ≠ some GB := fun e => by
                rcases HO.out with h1 | h1
                · rw [h1] at e
                  have h2 := HX.out.lt (.inr (.inr (.inl e)))
                  have h3 := HU.out.size
                  omega
                · exact absurd e (by intro e; have h2 := HXK.out.lt (.inr (.inr (.inl e))); omega)
              have hbi : GB ≠ bi := fun e => by
                obtain ⟨u, h5⟩ := hR6.blk
                exact ne_of_type HGB6.out h5 (by decide) e
              have hb1 := HTI.out.wf.tot
              have hb2 := HS4.out.wf.tot
              have hb3 := HV.out.wf.tot
              have v5 : IntKind.i64.wrap (nn + (addL lk g1 g2).1) = nn + (addL lk g1 g2).1 := by rw [HNN.out, HS5.out, IntWalk.i64_in _ (by omega)]
              have HNN2 := hide (show nn + (addL lk g1 g2).1 = tot (addL lk g1 g2).2 - tot l by rw [HNN.out, HS5.out]; omega)
              have hap : ∀ W o2, RGmoved w6.drew W bi o' o2 → W.cell? ⟨bx, 3, none⟩ = some (.pointer (some ⟨bi, 0, none⟩)) ∧ W.cell? ⟨GB, 0, none⟩ = some (.int .i64 g1) ∧ W.cell? ⟨GB, 1, none⟩ = some (.int .i64 g2) := fun W o2 hm =>
                ⟨hm.cell (p := ⟨bx, 3, none⟩) x3 ⟨qa1, qa2⟩, hm.cell (p := ⟨GB, 0, none⟩) y1 ⟨hbi, hno'⟩, hm.cell (p := ⟨GB, 1, none⟩) y2 ⟨hbi, hno'⟩⟩
              have HAP := hide hap
              have HAD := hide had
              clear had hap hb1 hb2 hb3 x1 hR6 hno' hbi qa1 qa2 qa4 qa5
              generalize hal : addL lk g1 g2 = al at HS4' HNN2 HAD v5
              obtain ⟨an, l2⟩ := al
              simp only at HS4' HNN2 HAD v5
              have HAL := hide hal
              clear hal
              go_region_held3 (fun W => W.cell? ⟨bx, 3, none⟩ = some (.pointer (some ⟨bi, 0, none⟩)) ∧ W.cell? ⟨GB, 0, none⟩ = some (.int .i64 g1) ∧ W.cell? ⟨GB, 1, none⟩ = some (.int .i64 g2)) (first | exact ⟨x3, y1, y2⟩ | exact HAP.out _ _ hm7)
                (first | (go_at_call 16; refine HAD.out.mono ?_; rintro e w7 ⟨o2, rfl, hr7, hm7⟩))
              obtain ⟨-, t1, t2⟩ : w7.cell? ⟨bx, 3, none⟩ = some (.pointer (some ⟨bi, 0, none⟩)) ∧ w7.cell? ⟨GB, 0, none⟩ = some (.int .i64 g1) ∧ w7.cell? ⟨GB, 1, none⟩ = some (.int .i64 g2) := by assumption
              obtain ⟨hx7, hu67⟩ := (HX6.out.keep ((Upd.refl none_ w6).drew)).ranges hm7 hr7
              have hob5 := moved_trans (w1 := w3) (Nat.le_trans HU.out.size HU3.out.size) HOB.out HOB4.out
              rw [← HOB5.out] at hob5
              have hu07 : Upd (ft bx bi o ob) w w7 := HU06.out.drew.trans' hu67 (ft_sub HO.out hob5)
              have ho2 : o2 = o ∨ Fresh w o2 := moved_trans (w1 := w6.drew) HU06.out.size HO.out hm7.2
              have HX7 := hide hx7
              have HU07 := hide hu07
              have HO2 := hide ho2
              have HOB7 := hide hob5
              clear hx7 hu67 hu07 ho2 hob5 hr7 hm7 x3 y1 y2 t1
              go_wp2_with fail
              go_roundg gj
              case measure => omega
              case rel => exact ⟨g2, nn + an, o2, _, l2, lay8 B1 p xs, rfl, rfl, HNN2.out, by omega, .inl s3, by omega, HX7.out, HS4'.out, HU07.out, HO2.out, HOB7.out⟩
        · have hge : to0 ≤ f := by omega
          have HEND := hide (show f = to0 ∨ (to0 ≤ f0 ∧ f = f0) by omega)
          clear hlt hft hkx
          go_wp2_with fail
          go_ret
          obtain ⟨h1, h2, h3⟩ := HFIN.out wr HEND.out (Upd.refl _ _)
          rw [h1]
          exact ⟨o', ob', bk, rfl, h2, HTI.out.len, HTI.out.ge, HTI.out.vals, h3, HO.out, HOB.out⟩
end Go.Proofs.Ytjjiemicacbmaaa
