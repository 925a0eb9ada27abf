/- Contract: (*Ranges).Cut. -/
import Derived.Test.YtjjiemicacbmaaaRg11
namespace Go.Proofs.Ytjjiemicacbmaaa
open Go.RowKit Go.Shelf

/-- What is left of a row. -/
def pieceB (y : Int × Int) : Bool := decide (y.1 < y.2)
def rest2 (f t : Int) (x : Int × Int) : List (Int × Int) := [(x.1, min x.2 f), (max x.1 t, x.2)].filter pieceB
def rests (f t : Int) (l : List (Int × Int)) : List (Int × Int) := l.flatMap (rest2 f t)
theorem rest2_len (f t : Int) (x : Int × Int) : (rest2 f t x).length ≤ 2 := List.length_filter_le _ _
theorem rests_len (f t : Int) (l : List (Int × Int)) : (rests f t l).length ≤ 2 * l.length := by
  induction l with
  | nil => simp [rests]
  | cons x l ih => have := rest2_len f t x; simp only [rests, List.flatMap_cons, List.length_append, List.length_cons] at ih ⊢; omega
theorem rests_snoc (f t : Int) (l : List (Int × Int)) (k : Nat) (hk : k < l.length) : rests f t (l.take (k + 1)) = rests f t (l.take k) ++ rest2 f t (l.getD k (0, 0)) := by
  rw [List.take_succ_eq_append_getElem hk]
  simp only [rests, List.flatMap_append, List.flatMap_cons, List.flatMap_nil, List.append_nil, List.getD_eq_getElem?_getD, List.getElem?_eq_getElem hk, Option.getD_some]

/-- The pieces that a row leaves, whole or not. -/
def ps2 (f t : Int) (x : Int × Int) : List (Int × Int) := [(x.1, min x.2 f), (max x.1 t, x.2)]
def psTo (f t : Int) (x : Int × Int) (q : Nat) : List (Int × Int) := ((ps2 f t x).take q).filter pieceB
theorem psTo_snoc (f t : Int) (x : Int × Int) (q : Nat) (hq : q < 2) : psTo f t x (q + 1) = psTo f t x q ++ (if ((ps2 f t x).getD q (0, 0)).1 < ((ps2 f t x).getD q (0, 0)).2 then [(ps2 f t x).getD q (0, 0)] else []) := by
  have : q = 0 ∨ q = 1 := by omega
  rcases this with rfl | rfl <;> simp [psTo, ps2, pieceB, List.filter_cons] <;> split <;> simp
theorem psTo_two (f t : Int) (x : Int × Int) : psTo f t x 2 = rest2 f t x := rfl
theorem psTo_len (f t : Int) (x : Int × Int) (q : Nat) : (psTo f t x q).length ≤ 2 := by
  have h1 := List.length_filter_le pieceB ((ps2 f t x).take q)
  have h2 : ((ps2 f t x).take q).length ≤ 2 := by simp [ps2]; omega
  unfold psTo; omega
theorem ps_cells {w : World} {G : Nat} {f t : Int} {x : Int × Int} {e : TypeId} (h : w.heap[G]? = some (.cells #[.int .i64 x.1, .int .i64 (min x.2 f), .int .i64 (max x.1 t), .int .i64 x.2] e (0, 0))) (q : Nat) (hq : q < 2) :
    w.cell? ⟨G, q * 2, none⟩ = some (.int .i64 ((ps2 f t x).getD q (0, 0)).1) ∧ w.cell? ⟨G, q * 2 + 1, none⟩ = some (.int .i64 ((ps2 f t x).getD q (0, 0)).2) := by
  have : q = 0 ∨ q = 1 := by omega
  rcases this with rfl | rfl <;> exact ⟨by rw [cell_of_row w G _ _ e (0, 0) h]; rfl, by rw [cell_of_row w G _ _ e (0, 0) h]; rfl⟩
theorem rd_row1 {F : Nat → Prop} {w : World} {G : Nat} {e : TypeId} {u v : Value} (h : w.heap[G]? = some (.cells #[u, v] e (0, 0))) (hF : F G) : Rd F w (some ⟨G, 0, none⟩) 1 2 [u, v] := by
  refine ⟨rfl, .inr ⟨G, 0, rfl, hF, fun j x hx => ?_⟩⟩
  rw [cell_of_row w G _ _ e (0, 0) h, Nat.zero_add]
  simpa using hx

/-- Cut behind its bounds. -/
def cutE (l : List (Int × Int)) (f t : Int) (i j : Nat) : Int × List (Int × Int) :=
  (wrap64 (manyW ((l.take j).drop i) 0 - manyW (rests f t ((l.take j).drop i)) 0), l.take i ++ rests f t ((l.take j).drop i) ++ l.drop j)
def cutL (l : List (Int × Int)) (f t : Int) : Int × List (Int × Int) :=
  if min t 4611686018427387904 ≤ max f 0 then (0, l) else cutE l (max f 0) (min t 4611686018427387904) (tLo l (max f 0)) (tHi l (max f 0) (min t 4611686018427387904))

set_option maxHeartbeats 4000000 in
set_option maxRecDepth 20000 in
theorem cut_any (b : Nat) (o : Option Nat) (l : List (Int × Int)) (f t : Int) (w : World) (h : RG w b o l) (hn : l.length * 48 ≤ 140737488355328) :
    Calls Try.prog 23 #[.pointer (some ⟨b, 0, none⟩), .int .i64 f, .int .i64 t] w fun e w' =>
      ∃ o', e = .returned (.int .i64 (cutL l f t).1) ∧ RG w' b o' (cutL l f t).2 ∧ RGmoved w w' b o o' := by
  obtain ⟨f0, hf0⟩ : ∃ f0, max f 0 = f0 := ⟨_, rfl⟩
  obtain ⟨t0, ht0⟩ : ∃ t0, min t 4611686018427387904 = t0 := ⟨_, rfl⟩
  have hin : ∀ W, Calls Try.prog 72 #[.int .i64 f, .int .i64 t] W fun e w' => e = .returned (.tuple #[.int .i64 f0, .int .i64 t0]) ∧ W = w' := fun W => by rw [← ht0, ← hf0]; exact inside_any f t W
  unfold cutL
  rw [hf0, ht0]
  clear hf0 ht0
  by_cases hlt : t0 ≤ f0
  · rw [if_pos hlt]
    have HR := hide h
    clear h
    go_enter Try.func23, Try.ntmps23
    go_wp2_with (go_at_call 72; refine (hin _).mono ?_; rintro e w' ⟨rfl, rfl⟩)
    go_ret
    exact ⟨o, rfl, HR.out, Upd.refl _ _, .inl rfl⟩
  · rw [if_neg hlt]
    have htc := touched_any b o l f0 t0 w h (by omega)
    have hi := tLo_le l f0
    have hj := tHi_le l f0 t0
    have hij := tLo_tHi l f0 t0
    rw [show (max (bs (pLo l f0) l.length) (bs (pHi l t0) l.length)) = tHi l f0 t0 from rfl, show bs (pLo l f0) l.length = tLo l f0 from rfl] at htc
    generalize tLo l f0 = i at htc hi hij
    generalize tHi l f0 t0 = j at htc hj hij
    obtain ⟨a, cap, hc, hcap, hb, hown, hob, hk⟩ := h.slice
    have hblt : b < w.heap.size := h.lt
    obtain ⟨-, hrd⟩ := rd_own' hown
    have hcut := hrd.cut cap i j hij hj hcap
    rw [flat_take, flat_drop] at hcut
    unfold cutE
    have hmlen : ((l.take j).drop i).length = j - i := by simp; omega
    generalize hM : (l.take j).drop i = M at hcut hmlen ⊢
    have hml : ∀ ad' W, Rd (fun k => (Value.slice a l.length cap).ownBlock = some k) W ad' (j - i) 2 (flat M) → Calls Try.prog 74 #[.slice ad' (j - i) (cap - i)] W fun e w' => e = .returned (.int .i64 (manyW M 0)) ∧ Upd none_ W w' := by
      intro ad' W hr
      have := many_any _ ad' M (cap - i) W (by rw [hmlen]; exact hr) (by rw [hmlen]; omega)
      rwa [hmlen] at this
    obtain ⟨adc, hadc⟩ : ∃ x, (if cap = i then a else a.map (·.add (i * 2))) = x := ⟨_, rfl⟩
    rw [hadc] at hcut
    have hr0 : ∀ W, (Instr.sliceAt 30 (.slice a l.length cap) (some (.int .i64 i)) (some (.int .i64 j)) none).run Try.prog W = .ok (.slice adc (j - i) (cap - i)) W :=
      fun W => by rw [← hadc]; exact run_slice_rd 30 33 Try.underlying30 2 elem_rng.size _ l.length cap i j (by omega) (by omega) .i64 .i64
    have hmx := run_max2 Try.prog
    have hmn := run_min2 Try.prog
    have HR := hide h
    have HOWN := hide hown
    have HML := hide hml
    have HCUT := hide hcut
    have HB := hide hb
    have HOB := hide hob
    have HC := hide hc
    have HM := hide hM
    have HMLEN := hide hmlen
    clear hadc hcut hml h hown hrd hb hob hk hc hM hmlen
    go_enter Try.func23, Try.ntmps23
    go_wp2_with (go_at_call 72; refine (hin _).mono ?_; rintro e w' ⟨rfl, rfl⟩)
    refine htc.mono ?_
    rintro e w1 ⟨rfl, hu1⟩
    have c1 := hu1.cell HC.out id
    go_wp2_with fail
    refine (HML.out adc w1 (HCUT.out.upd hu1 (fun _ _ => id))).mono ?_
    rintro e w2 ⟨rfl, hu2⟩
    have hU2 : Upd none_ w w2 := hu1.trans hu2
    have c2 := hU2.cell HC.out id
    clear hu1 hu2 c1
    go_wp2_with fail
    have HU2 := hide hU2
    clear hU2 c2
    go_loopw [10, 47] (fun s10 s47 wr => ∃ k a1 c1, k ≤ j - i ∧ s47 = .int .i64 (k : Nat) ∧ s10 = .slice a1 (rests f0 t0 (M.take k)).length c1 ∧ wr.ownsRow w.heap.size 33 2 (.slice a1 (rests f0 t0 (M.take k)).length c1) (rests f0 t0 (M.take k)).length (flat (rests f0 t0 (M.take k))) ∧ Upd none_ w wr) (fun _ s _ => (j - i) - (intOf s).toNat)
    case atStart => exact ⟨0, none, 0, Nat.zero_le _, rfl, rfl, World.ownsRow_nil _ _ _ _, HU2.out⟩
    case round =>
      obtain ⟨k, a1, c1, hk, rfl, rfl, hown1, hu⟩ := hrel
      have HU := hide hu
      have HO1 := hide hown1
      clear hu hown1
      by_cases hkl : k < j - i
      · have hkM : k < M.length := by rw [HMLEN.out]; exact hkl
        obtain ⟨g, off, hge, -, hcc⟩ := HCUT.out.2.resolve_left (by omega)
        have e1 := HU.out.cell (hcc _ _ (flat_get M k hkM).1) id
        have e2 := HU.out.cell (hcc _ _ (flat_get M k hkM).2) id
        clear hcc
        rw [← Nat.add_assoc] at e2
        have HSN := hide (rests_snoc f0 t0 M k hkM)
        have HRL := hide (rests_len f0 t0 (M.take k))
        have HKM := hide hkM
        clear hkM
        generalize M.getD k (0, 0) = x at e1 e2 HSN
        obtain ⟨x1, x2⟩ := x
        generalize rests f0 t0 (M.take k) = R at HO1 HSN HRL
        subst hge
        go_wp2_with fail
        have hI : Upd none_ w ((wr.alloc (.cells #[.int .i64 x1, .int .i64 x2] 33)).alloc (.cells #[.int .i64 x1, .int .i64 (min x2 f0), .int .i64 (max x1 t0), .int .i64 x2] 33)) := (HU.out.alloc _).alloc _
        have hOI := Upd.own (S := none_) (((Upd.refl none_ wr).alloc (.cells #[.int .i64 x1, .int .i64 x2] 33)).alloc (.cells #[.int .i64 x1, .int .i64 (min x2 f0), .int .i64 (max x1 t0), .int .i64 x2] 33)) HO1.out (fun _ _ => id)
        have hGI : ((wr.alloc (.cells #[.int .i64 x1, .int .i64 x2] 33)).alloc (.cells #[.int .i64 x1, .int .i64 (min x2 f0), .int .i64 (max x1 t0), .int .i64 x2] 33)).heap[wr.heap.size + 1]? = some (.cells #[.int .i64 x1, .int .i64 (min x2 f0), .int .i64 (max x1 t0), .int .i64 x2] 33 (0, 0)) := (by repeat' first | assumption | (refine heapA_at _ _ _ ?_; first | rfl | (simp; done) | omega) | (refine (heapA_past _ _ _ ?_).trans ?_; · first | (simp; done) | (simp; omega)) | refine (heapN _ _ _).trans ?_ | refine (heapD _ _).trans ?_)
        have hne : (Value.slice a1 R.length c1).ownBlock ≠ some (wr.heap.size + 1) := fun e => by have := own_lt HO1.out _ e; omega
        have HI := hide hI
        have HOI := hide hOI
        have HGI := hide hGI
        have HNE := hide hne
        clear hI hOI hGI hne e1 e2 HO1
        generalize ((wr.alloc (.cells #[.int .i64 x1, .int .i64 x2] 33)).alloc (.cells #[.int .i64 x1, .int .i64 (min x2 f0), .int .i64 (max x1 t0), .int .i64 x2] 33)) = wI at HI HOI HGI
        generalize wr.heap.size + 1 = G at HGI HNE
        go_loopw [10, 67] (fun s10 s67 wq => ∃ q a2 c2, q ≤ 2 ∧ s67 = .int .i64 (q : Nat) ∧ s10 = .slice a2 (R ++ psTo f0 t0 (x1, x2) q).length c2 ∧ wq.ownsRow w.heap.size 33 2 (.slice a2 (R ++ psTo f0 t0 (x1, x2) q).length c2) (R ++ psTo f0 t0 (x1, x2) q).length (flat (R ++ psTo f0 t0 (x1, x2) q)) ∧
          (Value.slice a2 (R ++ psTo f0 t0 (x1, x2) q).length c2).ownBlock ≠ some G ∧ wq.heap[G]? = some (.cells #[.int .i64 x1, .int .i64 (min x2 f0), .int .i64 (max x1 t0), .int .i64 x2] 33 (0, 0)) ∧ Upd none_ w wq) (fun _ s _ => 2 - (intOf s).toNat)
        case atStart => exact ⟨0, a1, c1, Nat.zero_le _, rfl, by simp [psTo], by simpa [psTo] using HOI.out, by simpa [psTo] using HNE.out, HGI.out, HI.out⟩
        case round =>
          clear HI HOI HGI HNE
          obtain ⟨q, a2, c2, hq, rfl, rfl, hown, hne, hG, hu⟩ := hrel
          have HU1 := hide hu
          have HO1 := hide hown
          have HNE := hide hne
          have HG := hide hG
          clear hu hown hne hG
          by_cases hql : q < 2
          · obtain ⟨e1, e2⟩ := ps_cells (f := f0) (t := t0) (x := (x1, x2)) HG.out q hql
            have HSN1 := hide (psTo_snoc f0 t0 (x1, x2) q hql)
            have HPL := hide (psTo_len f0 t0 (x1, x2) q)
            generalize (ps2 f0 t0 (x1, x2)).getD q (0, 0) = y at e1 e2 HSN1
            obtain ⟨y1, y2⟩ := y
            generalize psTo f0 t0 (x1, x2) q = PQ at HO1 HNE HSN1 HPL
            have HZL := hide (show (R ++ PQ).length ≤ 2 * (j - i) by have := HRL.out; have := HPL.out; have := HKM.out; simp only [List.length_append, List.length_take] at *; omega)
            generalize hZ : R ++ PQ = Z at HO1 HNE HZL ⊢
            have HZ := hide hZ
            clear hZ
            by_cases hy : y1 < y2
            · go_wp2_with (at_builtin; (refine wpL_app rfl _ _ _ rfl w.heap.size 33 _ 2 16 Try.underlying30 elem_rng (.slice a2 Z.length c2) Z.length (flat Z) rfl (Upd.own (S := none_) (((Upd.refl none_ wr).alloc _).alloc _) HO1.out (fun _ _ => id)) (F := fun _ => True) (some ⟨wr.heap.size + 1, 0, none⟩) 1 1 [.int .i64 y1, .int .i64 y2] rfl (rd_row1 (by repeat' first | assumption | (refine heapA_at _ _ _ ?_; first | rfl | (simp; done) | omega) | (refine (heapA_past _ _ _ ?_).trans ?_; · first | (simp; done) | (simp; omega)) | refine (heapN _ _ _).trans ?_ | refine (heapD _ _).trans ?_) trivial) (fun u hu => by simp at hu; rcases hu with rfl | rfl <;> rfl) (by have := HZL.out; omega) (by have := HZL.out; omega) ((HU1.out.alloc _).alloc _).size ?_; intro v' wz hown hu hmv _ _; obtain ⟨a3, c3, rfl⟩ := own_shape hown))
              go_roundw
              case rel =>
                have hz : R ++ psTo f0 t0 (x1, x2) (q + 1) = Z ++ [(y1, y2)] := by rw [HSN1.out, if_pos hy, ← List.append_assoc, HZ.out]
                have hzl : (Z ++ [(y1, y2)]).length = Z.length + 1 := by simp
                have hzf : flat (Z ++ [(y1, y2)]) = flat Z ++ [.int .i64 y1, .int .i64 y2] := by rw [flat_append]; rfl
                have hlt := lt_of_block HG.out
                refine ⟨q + 1, a3, c3, by omega, by go_num, by rw [hz, hzl], by rw [hz, hzl, hzf]; exact hown, ?_, ?_, ?_⟩
                · rw [hz, hzl]
                  rcases hmv with hm | hm
                  · rw [hm]; exact HNE.out
                  · rw [hm]; intro e; injection e with e; simp at e; omega
                · exact hu.heap ((heapA_past _ _ _ (by simp; omega)).trans ((heapA_past _ _ _ hlt).trans HG.out)) HNE.out
                · exact Upd.trans' (S := none_) ((HU1.out.alloc _).alloc _) hu (fun g hg e => absurd (own_ge HO1.out g e) (by omega))
              case measure => simp [intOf]; omega
            · go_wp2_with fail
              go_roundw
              case rel => exact ⟨q + 1, a2, c2, by omega, by go_num, by rw [HSN1.out, if_neg hy, List.append_nil, HZ.out], by rw [HSN1.out, if_neg hy, List.append_nil, HZ.out]; exact HO1.out.alloc _, by rw [HSN1.out, if_neg hy, List.append_nil, HZ.out]; exact HNE.out, (heapA_past _ _ _ (lt_of_block HG.out)).trans HG.out, HU1.out.alloc _⟩
              case measure => simp [intOf]; omega
          · obtain rfl : q = 2 := by omega
            go_wp2_with fail
            go_roundw
            case rel =>
              rw [psTo_two, ← HSN.out] at HO1
              exact ⟨k + 1, a2, c2, by omega, by go_num, by rw [psTo_two, ← HSN.out], HO1.out, HU1.out⟩
            case measure => simp [intOf]; omega
      · obtain rfl : k = j - i := by omega
        have hMt : M.take (j - i) = M := List.take_of_length_le (by have := HMLEN.out; omega)
        rw [hMt] at HO1 ⊢
        have HRL := hide (rests_len f0 t0 M)
        generalize hR : rests f0 t0 M = R at HO1 HRL
        have HREQ := hide hR
        clear hMt hR
        have c3 := HU.out.cell HC.out id
        have hrl : R.length ≤ 2 * (j - i) := by have := HRL.out; have := HMLEN.out; omega
        have hdis : ∀ g, (Value.slice a l.length cap).ownBlock = some g → (Value.slice a1 R.length c1).ownBlock ≠ some g := fun g hg e => by
          have h1 := own_lt HOWN.out g hg
          have h2 := own_ge HO1.out g e
          omega
        have hrep : Calls Try.prog 75 #[.slice a l.length cap, .int .i64 i, .int .i64 j, .slice a1 R.length c1] wr fun e w' =>
            ∃ a' c' k, e = .returned (.slice a' k c') ∧ k = (l.take i ++ R ++ l.drop j).length ∧ w'.ownsRow 0 33 2 (.slice a' k c') k (flat (l.take i ++ R ++ l.drop j)) ∧ Upd (fun k => (Value.slice a l.length cap).ownBlock = some k) wr w' ∧
            ((Value.slice a' k c').ownBlock = (Value.slice a l.length cap).ownBlock ∨ Fresh wr (Value.slice a' k c').ownBlock) := by
          refine (replace_any a l.length cap i j (flat l) a1 R.length c1 (flat R) wr (HU.out.own HOWN.out (fun _ _ => id)) hij hj (own_base HO1.out 0 (fun _ _ => Nat.zero_le _)) (flat_one l) (flat_one R) hdis (by omega)).mono ?_
          rintro e w' ⟨a', c', rfl, h1, h2, h3⟩
          refine ⟨a', c', _, rfl, ?_, ?_, h2, h3⟩
          · simp; omega
          · rw [flat_append, flat_append, ← flat_take, ← flat_drop]; exact h1
        have HREP := hide hrep
        have HDIS := hide hdis
        clear hrep hdis
        have hblr : b < wr.heap.size := Nat.lt_of_lt_of_le hblt HU.out.size
        go_wp2_with (go_at_call 75; refine HREP.out.mono ?_; rintro e w4 ⟨a', c', k, rfl, hk, hown, hu4, hm⟩; have hx := rg_store HR.out HOB.out HU.out hu4 hk hown hm; have c5 := (hu4.heap (HU.out.heap HB.out id) (fun e => HR.out.ne b (by rw [← HOB.out]; exact e) rfl)); have c6 := cell_of_one c5; have c7 := free_of_one c5; have HU4 := hide hu4; have HX := hide hx; clear hk hown hu4 hm c5 hx c3)
        have hr4 : Rd (fun g => (Value.slice a1 R.length c1).ownBlock = some g) (w4.setCell ⟨b, 0, none⟩ (.slice a' k c')) a1 R.length 2 (flat R) := by
          refine ((rd_own' HO1.out).2.upd HU4.out (fun g hg e => HDIS.out g e hg)).upd (S := fun g => g = b) (Upd.setCell (p := ⟨b, 0, none⟩) (Upd.refl (fun g => g = b) w4) (fun _ => rfl) _) (fun g hg e => ?_)
          have := own_ge HO1.out g hg
          omega
        refine (many_any _ a1 R c1 _ hr4 (by omega)).mono ?_
        rintro e w5 ⟨rfl, hu5⟩
        go_wp2_with fail
        go_ret
        have hx := HX.out
        rw [HREQ.out]
        exact ⟨_, rfl, hx.1.keep hu5, hx.2.1.thenNew hu5, hx.2.2⟩
end Go.Proofs.Ytjjiemicacbmaaa
