/- Package inbox: Read, Clone. -/
import Derived.Test.YtjjiemicacbmaaaIn2
import Derived.BigQuiet
namespace Go.Proofs.Ytjjiemicacbmaaa
open Go.RowKit Go.Shelf

section
variable {P : Program}
theorem slice_hi {F : Nat → Prop} {w : World} (t e : TypeId) (ht : P.underlying t = some (.slice e)) (hsz : (P.info? e).map (·.size) = some 1) {a : Option Addr} {n c : Nat} {xs : List Value} (hr : Rd F w a n 1 xs) (hnc : n ≤ c) (m : Nat) (hm : m ≤ n) :
    ∃ a1, (∀ W, (Instr.sliceAt t (.slice a n c) none (some (.int .i64 (m : Int))) none).run P W = .ok (.slice a1 m c) W) ∧ Rd F w a1 m 1 (xs.take m) := by
  refine ⟨_, fun W => run_slice_rd_hi t e ht 1 hsz a n c m (by omega) .i64, ?_⟩
  have := hr.cut c 0 m (Nat.zero_le _) hm hnc
  simpa using this
theorem slice_lo {F : Nat → Prop} {w : World} (t e : TypeId) (ht : P.underlying t = some (.slice e)) (hsz : (P.info? e).map (·.size) = some 1) {a : Option Addr} {n c : Nat} {xs : List Value} (hr : Rd F w a n 1 xs) (hnc : n ≤ c) (m : Nat) (hm : m ≤ n) :
    ∃ a1, (∀ W, (Instr.sliceAt t (.slice a n c) (some (.int .i64 (m : Int))) none none).run P W = .ok (.slice a1 (n - m) (c - m)) W) ∧ Rd F w a1 (n - m) 1 (xs.drop m) := by
  refine ⟨_, fun W => run_slice_rd_lo t e ht 1 hsz a n c m hm .i64, ?_⟩
  have := hr.cut c m n hm (Nat.le_refl _) hnc
  rw [List.take_of_length_le (by rw [hr.1]; exact Nat.le_refl _)] at this
  simpa using this
end

set_option maxRecDepth 100000 in
set_option maxHeartbeats 8000000 in
theorem iread_any (bx bi : Nat) (o ob : Option Nat) (size done : Int) (buf : List UInt8) (l : List (Int × Int)) (w : World) (h : IX w bx bi o ob size done buf l) (hv : IV size done buf l) (most : Int) (hn : l.length < 4611686018427387904) (nN : Nat) (hnN : readN done most l = (nN : Int)) :
    Calls Try.prog 38 #[.pointer (some ⟨bx, 0, none⟩), .int .i64 most] w fun e w' => ∃ ob' a' c', e = .returned (.slice a' nN c') ∧ w'.ownsRow w.heap.size 5 1 (.slice a' nN c') nN (u8s (buf.take nN)) ∧
      IX w' bx bi o ob' size (done + nN) (buf.drop nN) l ∧ Upd (ft bx bi o ob) w w' ∧ Fresh w ob' ∧ (∀ g, (Value.slice a' nN c').ownBlock = some g → ob' ≠ some g) := by
  have hmx := run_max2 Try.prog
  obtain ⟨r1, r2, r3, r4⟩ := hv.readN most
  have hsz := hv.sz
  have hdn := hv.dn
  have hh := hv.here
  have hlen := hv.len
  rw [hnN] at r1 r2 r3 r4
  have hmn : ∀ ats t W, (Builtin.min_ ats t #[.int .i64 (nextL l done - done), .int .i64 (max most 0)]).run Try.prog W = .ok (.int .i64 nN) W := fun ats t W => by rw [run_min2, ← hnN]; rfl
  have hs1 : IntKind.i64.wrap (nextL l done - done) = nextL l done - done := IntWalk.i64_in _ (by omega)
  have hs2 : IntKind.i64.wrap (done + (nN : Int)) = done + (nN : Int) := IntWalk.i64_in _ (by omega)
  have HHE := hide (show ∀ W, Upd none_ w W → Calls Try.prog 43 #[.pointer (some ⟨bx, 0, none⟩)] W fun e w' => e = .returned (.int .i64 (nextL l done)) ∧ Upd none_ w w' from
    fun W hW => (ihere_any bx bi o ob size done buf l W (h.keep hW) hn).mono fun e w' ⟨h1, h2⟩ => ⟨h1, hW.trans h2⟩)
  obtain ⟨a, c, -, e1, e2, -, -, hlt, hb, hown, hob, hR⟩ := h.cells
  obtain ⟨hnc, hrd⟩ := rd_own' hown
  have hnb : nN ≤ buf.length := by omega
  obtain ⟨a1, hq1, hrd1⟩ := slice_hi (P := Try.prog) 47 5 Try.underlying47 elem_u8.size hrd hnc nN hnb
  obtain ⟨a2, hq2, hrd2⟩ := slice_lo (P := Try.prog) 47 5 Try.underlying47 elem_u8.size hrd hnc nN hnb
  rw [← u8s_take] at hrd1
  rw [← u8s_drop] at hrd2
  have HC1 := hide (show ∀ W, Upd none_ w W → Calls Try.prog 82 #[.slice a1 nN c] W fun e w' => ∃ a' c', e = .returned (.slice a' nN c') ∧ w'.ownsRow W.heap.size 5 1 (.slice a' nN c') nN (u8s (buf.take nN)) ∧ Upd none_ W w' from
    fun W hW => clone_u8 _ a1 nN c _ W (hrd1.upd hW (fun _ _ => id)) (u8s_one _) (by omega))
  have HC2 := hide (show ∀ W, Upd none_ w W → Calls Try.prog 82 #[.slice a2 (buf.length - nN) (c - nN)] W fun e w' => ∃ a' c', e = .returned (.slice a' (buf.length - nN) c') ∧ w'.ownsRow W.heap.size 5 1 (.slice a' (buf.length - nN) c') (buf.length - nN) (u8s (buf.drop nN)) ∧ Upd none_ W w' from
    fun W hW => clone_u8 _ a2 (buf.length - nN) (c - nN) _ W (hrd2.upd hW (fun _ _ => id)) (u8s_one _) (by omega))
  have HB := hide hb
  have HR := hide hR
  have HX := hide h
  clear h hv hown hrd hrd1 hrd2 hnc hb hR hh r1 r2 r3 r4 hsz hdn hlen hnN hnb
  go_enter Try.func38, Try.ntmps38
  go_wp2_with fail
  go_region_held3 (fun W => Upd none_ w W ∧ W.cell? ⟨bx, 1, none⟩ = some (.int .i64 done)) (first | exact ⟨(Upd.refl none_ w).drew, e1⟩ | exact ⟨hu, hu.cell e1 id⟩)
    (first | (go_at_call 43; refine (HHE.out _ (And.left (by assumption))).mono ?_; rintro e w' ⟨rfl, hu⟩))
  all_goals
    obtain ⟨hu0, -⟩ : Upd none_ w w' ∧ w'.cell? ⟨bx, 1, none⟩ = some (.int .i64 done) := by assumption
    have d2 := hu0.cell e2 id
    have HU0 := hide hu0
    clear hu0 e2 hu
    go_wp2_with fail
    refine (HC1.out w' HU0.out).mono ?_
    rintro e w2 ⟨a3, c3, rfl, hown1, hu2⟩
    have hu02 := HU0.out.trans hu2
    have d3 := hu2.cell d2 id
    have HO1 := hide hown1
    have HU2 := hide hu02
    clear d2 hown1 hu2 hu02
    go_wp2_with fail
    refine (HC2.out w2 HU2.out).mono ?_
    rintro e w3 ⟨a4, c4, rfl, hown2, hu3⟩
    have hu03 := HU2.out.trans hu3
    have hb3 := hu03.heap HB.out id
    have HO2 := hide hown2
    have HU3 := hide hu03
    have HB3 := hide hb3
    have HO1B := hide (hu3.own HO1.out (fun _ _ => id))
    have hb4 := heap_setCell_same w3 bx 2 _ _ (.slice a4 (buf.length - nN) c4) hb3
    have fz2 := frozen_of_row w3 bx 2 _ _ hb3
    have e7 : w3.cell? ⟨bx, 2, none⟩ = some (.slice a buf.length c) := by rw [cell_of_row _ bx 2 _ _ _ hb3]; rfl
    have hl3 := lt_of_block hb3
    have e6 : (w3.setCell ⟨bx, 2, none⟩ (.slice a4 (buf.length - nN) c4)).cell? ⟨bx, 1, none⟩ = some (.int .i64 done) := by rw [cell_of_row _ bx 1 _ _ _ hb4]; rfl
    have fz6 := frozen_of_row _ bx 1 _ _ hb4
    have hl6 := lt_of_block hb4
    have HB4 := hide hb4
    clear d3 hown2 hu3 hu03 hb3 e1 hb4
    go_wp2_with fail
    go_ret
    have hb5 := heap_setCell_same (w3.setCell ⟨bx, 2, none⟩ (.slice a4 (buf.length - nN) c4)) bx 1 _ _ (.int .i64 (done + nN)) HB4.out
    have hu5 : Upd (fun k => k = bx) w3 ((w3.setCell ⟨bx, 2, none⟩ (.slice a4 (buf.length - nN) c4)).setCell ⟨bx, 1, none⟩ (.int .i64 (done + nN))) :=
      Upd.setCell (S := fun k => k = bx) (p := ⟨bx, 1, none⟩) (Upd.setCell (S := fun k => k = bx) (p := ⟨bx, 2, none⟩) (Upd.refl _ w3) (fun _ => rfl) _) (fun _ => rfl) _
    have hsz := HU0.out.size
    have hsz2 := HU2.out.size
    have g1 : ∀ g, (Value.slice a3 nN c3).ownBlock = some g → w.heap.size ≤ g := fun g hg => by have := own_ge HO1B.out g hg; omega
    have g2 : ∀ g, (Value.slice a4 (buf.length - nN) c4).ownBlock = some g → w.heap.size ≤ g := fun g hg => by have := own_ge HO2.out g hg; omega
    refine ⟨_, a3, c3, rfl, own_base (hu5.own HO1B.out (fun g hg e => by have := g1 g hg; omega)) _ g1, ⟨_, hb5, ?_, rfl, ?_⟩, ?_, g2, fun g hg hg' => ?_⟩
    · rw [List.length_drop]
      exact own_base (hu5.own HO2.out (fun g hg e => by have := g2 g hg; omega)) _ (fun _ _ => Nat.zero_le _)
    · have hap := HX.out.apart
      exact (HR.out.keep HU3.out).upd hu5 (fun e => hap.1 e.symm) (fun g hg e => hap.2.1 (e ▸ hg))
    · exact Upd.trans' (HU3.out.mono (fun _ _ h => h.elim)) hu5 (fun i _ e => .inl e)
    · have h1 := own_lt HO1.out g hg
      have h2 := own_ge HO2.out g hg'
      omega

set_option maxRecDepth 100000 in
set_option maxHeartbeats 8000000 in
theorem iclone_any (bx bi : Nat) (o ob : Option Nat) (size done : Int) (buf : List UInt8) (l : List (Int × Int)) (w : World) (h : IX w bx bi o ob size done buf l) (hn : l.length * 16 ≤ 140737488355328) (hnb : buf.length ≤ 140737488355328) :
    Calls Try.prog 59 #[.pointer (some ⟨bx, 0, none⟩)] w fun e w' => ∃ bx' bi' o' ob', e = .returned (.pointer (some ⟨bx', 0, none⟩)) ∧ IX w' bx' bi' o' ob' size done buf l ∧ (∀ k, ft bx' bi' o' ob' k → w.heap.size ≤ k) ∧ Upd none_ w w' := by
  obtain ⟨a, c, e0, e1, e2, e3, -, hlt, hb, hown, hob, hR⟩ := h.cells
  obtain ⟨hnc, hrd⟩ := rd_own' hown
  have HC1 := hide (show ∀ W, Upd none_ w W → Calls Try.prog 82 #[.slice a buf.length c] W fun e w' => ∃ a' c', e = .returned (.slice a' buf.length c') ∧ w'.ownsRow w.heap.size 5 1 (.slice a' buf.length c') buf.length (u8s buf) ∧ Upd none_ W w' from
    fun W hW => (clone_u8 _ a buf.length c _ W (hrd.upd hW (fun _ _ => id)) (u8s_one _) (by omega)).mono fun e w' ⟨a', c', h1, h2, h3⟩ => ⟨a', c', h1, own_base h2 _ (fun g hg => Nat.le_trans hW.size (own_ge h2 g hg)), h3⟩)
  have HC2 := hide (show ∀ W, Upd none_ w W → Calls Try.prog 25 #[.pointer (some ⟨bi, 0, none⟩)] W fun e w' =>
      ∃ b' o', e = .returned (.pointer (some ⟨b', 0, none⟩)) ∧ (RG w' b' o' l ∧ w.heap.size ≤ b' ∧ Fresh w o') ∧ Upd none_ W w' from
    fun W hW => (rclone_any bi o l W (hR.keep hW) hn).mono fun e w' ⟨b', o', h1, h2, h3, h4, h5⟩ => ⟨b', o', h1, ⟨h2, Nat.le_trans hW.size h3, fun g hg => Nat.le_trans hW.size (h4 g hg)⟩, h5⟩)
  clear h hown hnc hrd hb hR hob
  go_enter Try.func59, Try.ntmps59
  go_wp2_with fail
  have hU : Upd none_ w (w.alloc (.cells #[.int .i64 size, .int .i64 done, .slice a buf.length c, .pointer (some ⟨bi, 0, none⟩)] 99)) := (Upd.refl _ _).alloc _
  have hb1 : (w.alloc (.cells #[.int .i64 size, .int .i64 done, .slice a buf.length c, .pointer (some ⟨bi, 0, none⟩)] 99)).heap[w.heap.size]? = some (.cells #[.int .i64 size, .int .i64 done, .slice a buf.length c, .pointer (some ⟨bi, 0, none⟩)] 99 (0, 0)) := heapA_at _ _ _ rfl
  have d2 := hU.cell e2 id
  have d3 := hU.cell e3 id
  clear e0 e1 e2 e3
  generalize hw1 : (w.alloc (.cells #[.int .i64 size, .int .i64 done, .slice a buf.length c, .pointer (some ⟨bi, 0, none⟩)] 99)) = w1 at hU hb1 d2 d3
  obtain ⟨N, hN⟩ : ∃ N, w.heap.size = N := ⟨_, rfl⟩
  rw [hN] at hb1 ⊢
  have HU := hide hU
  have HB1 := hide hb1
  have HN := hide hN
  clear hU hb1 hw1 hN
  go_region_with (first
    | (go_at_call 82; refine (HC1.out _ HU.out.drew).mono ?_; rintro e w2 ⟨a1, c1, rfl, ho1, hu1⟩; have hW2 : Upd none_ w w2 := HU.out.drew.trans hu1; have q3 : w2.cell? ⟨bx, 3, none⟩ = some (.pointer (some ⟨bi, 0, none⟩)) := hu1.cell (p := ⟨bx, 3, none⟩) d3 id; have HB2 := hide (hu1.heap (k := N) HB1.out id); have HO1 := hide ho1; have HW2 := hide hW2; clear ho1 hu1 hW2)
    | (go_at_call 25; refine (HC2.out w2 HW2.out).mono ?_; rintro e w3 ⟨b2, o2, rfl, hr2, hu2⟩; have hb3 := hu2.heap HB2.out id; have p2 : w3.cell? ⟨N, 2, none⟩ = some (.slice a buf.length c) := (by rw [cell_of_row _ N 2 _ _ _ hb3]; rfl); have p3 : w3.cell? ⟨N, 3, none⟩ = some (.pointer (some ⟨bi, 0, none⟩)) := (by rw [cell_of_row _ N 3 _ _ _ hb3]; rfl); have fz2 := frozen_of_row w3 N 2 _ _ hb3; have fz3 := frozen_of_row w3 N 3 _ _ hb3; have hN3 := lt_of_block hb3; have HB3 := hide hb3; have HO3 := hide (hu2.own HO1.out (fun _ _ => id)); have HR3 := hide hr2; have HW3 := hide (HW2.out.trans hu2); clear hb3 hr2 hu2))
  all_goals
    clear p2 p3 fz2 fz3 hN3 d2 d3
    go_wp2_with fail
    go_ret
    have hb4 := heap_setCell_same w3 N 2 _ _ (.slice a1 buf.length c1) HB3.out
    have hb5 := heap_setCell_same _ N 3 _ _ (.pointer (some ⟨b2, 0, none⟩)) hb4
    have hu5 : Upd (fun k => k = N) w3 ((w3.setCell ⟨N, 2, none⟩ (.slice a1 buf.length c1)).setCell ⟨N, 3, none⟩ (.pointer (some ⟨b2, 0, none⟩))) :=
      Upd.setCell (S := fun k => k = N) (p := ⟨N, 3, none⟩) (Upd.setCell (S := fun k => k = N) (p := ⟨N, 2, none⟩) (Upd.refl _ w3) (fun _ => rfl) _) (fun _ => rfl) _
    have hn := HN.out
    have hnb : ∀ g, (Value.slice a1 buf.length c1).ownBlock = some g → g ≠ N := fun g hg => by
      obtain ⟨cur, hc⟩ := own_blk HO3.out hg
      exact ne_of_type hc HB3.out (by decide)
    have hnr : b2 ≠ N := by
      obtain ⟨u, h5⟩ := HR3.out.1.blk
      exact ne_of_type h5 HB3.out (by decide)
    have hno : ∀ g, o2 = some g → g ≠ N := fun g hg => by
      obtain ⟨cur, h6⟩ := HR3.out.1.row hg
      exact ne_of_type h6 HB3.out (by decide)
    refine ⟨N, b2, o2, _, rfl, ⟨_, hb5, ?_, rfl, HR3.out.1.upd hu5 hnr hno⟩, fun k hk => ?_, ?_⟩
    · exact own_base (hu5.own HO3.out hnb) _ (fun _ _ => Nat.zero_le _)
    · rcases hk with rfl | rfl | hk | hk
      · omega
      · have := HR3.out.2.1; omega
      · have := HR3.out.2.2 k hk; omega
      · have := own_ge HO3.out k hk; omega
    · exact Upd.trans' HW3.out hu5 (fun i hi e => by omega)
end Go.Proofs.Ytjjiemicacbmaaa
