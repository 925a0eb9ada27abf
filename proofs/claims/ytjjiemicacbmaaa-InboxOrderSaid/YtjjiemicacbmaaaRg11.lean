/- Contract: (*Ranges).Add. -/
import Derived.Test.YtjjiemicacbmaaaRg10
namespace Go.Proofs.Ytjjiemicacbmaaa
open Go.RowKit Go.Shelf

/-- The piece of rows that touched names. -/
def tLo (l : List (Int × Int)) (f : Int) : Nat := bs (pLo l f) l.length
def tHi (l : List (Int × Int)) (f t : Int) : Nat := max (tLo l f) (bs (pHi l t) l.length)
theorem tLo_le (l : List (Int × Int)) (f : Int) : tLo l f ≤ l.length := (bs_spec _ _).1
theorem tHi_le (l : List (Int × Int)) (f t : Int) : tHi l f t ≤ l.length := by have := tLo_le l f; have := (bs_spec (pHi l t) l.length).1; unfold tHi; omega
theorem tLo_tHi (l : List (Int × Int)) (f t : Int) : tLo l f ≤ tHi l f t := by unfold tHi; omega

/-- Add behind its bounds. -/
def addE (l : List (Int × Int)) (f t : Int) (i j : Nat) : Int × List (Int × Int) :=
  let f1 := if i < j then min f (l.getD i (0, 0)).1 else f
  let t1 := if i < j then max t (l.getD (j - 1) (0, 0)).2 else t
  (wrap64 (wrap64 (t1 - f1) - manyW ((l.take j).drop i) 0), l.take i ++ [(f1, t1)] ++ l.drop j)
def addL (l : List (Int × Int)) (f t : Int) : Int × List (Int × Int) :=
  if min t 4611686018427387904 ≤ max f 0 then (0, l) else addE l (max f 0) (min t 4611686018427387904) (tLo l (max f 0)) (tHi l (max f 0) (min t 4611686018427387904))

/-- What becomes of the blocks of ranges behind a call that writes them. -/
def RGmoved (w w' : World) (b : Nat) (o o' : Option Nat) : Prop := Upd (fun k => k = b ∨ o = some k) w w' ∧ (o' = o ∨ Fresh w o')

theorem RG.ne {w : World} {b : Nat} {o : Option Nat} {l : List (Int × Int)} (h : RG w b o l) : ∀ g, o = some g → g ≠ b := by
  obtain ⟨v, h1, h2, rfl⟩ := h
  intro g hg e
  obtain ⟨c, L, rfl, _, _, _, hG, _⟩ := own_row h2 hg
  rw [e, h1] at hG
  injection hG with hG
  injection hG with _ hG
  cases hG
theorem RG.olt {w : World} {b : Nat} {o : Option Nat} {l : List (Int × Int)} (h : RG w b o l) : ∀ g, o = some g → g < w.heap.size := by
  obtain ⟨v, h1, h2, rfl⟩ := h
  exact own_lt h2

/-- The last steps of Add and Cut: what Replace made is stored. -/
theorem rg_store {w w3 w4 : World} {b : Nat} {o : Option Nat} {l l' : List (Int × Int)} (h : RG w b o l) {a a' : Option Addr} {n c k c' : Nat} (ho : (Value.slice a n c).ownBlock = o)
    (h3 : Upd none_ w w3) (hu : Upd (fun k => (Value.slice a n c).ownBlock = some k) w3 w4) (hk : k = l'.length) (hown : w4.ownsRow 0 33 2 (.slice a' k c') k (flat l')) (hm : (Value.slice a' k c').ownBlock = (Value.slice a n c).ownBlock ∨ Fresh w3 (Value.slice a' k c').ownBlock) :
    RG (w4.setCell ⟨b, 0, none⟩ (.slice a' k c')) b (Value.slice a' k c').ownBlock l' ∧ RGmoved w (w4.setCell ⟨b, 0, none⟩ (.slice a' k c')) b o (Value.slice a' k c').ownBlock := by
  subst hk
  have hb3 : b < w3.heap.size := Nat.lt_of_lt_of_le h.lt h3.size
  have hne := h.ne
  obtain ⟨v, hb, _, _⟩ := h
  have hb4 := hu.heap (h3.heap hb id) (fun e => hne b (by rw [← ho]; exact e) rfl)
  refine ⟨⟨_, one_setCell hb4, ?_, rfl⟩, ?_, ?_⟩
  · refine Upd.own (S := fun k => k = b) (Upd.setCell (S := fun k => k = b) (p := ⟨b, 0, none⟩) (Upd.refl _ w4) (fun _ => rfl) _) hown (fun g hg e => ?_)
    subst e
    rcases hm with hm | hm
    · rw [hm, ho] at hg; exact hne g hg rfl
    · exact absurd (hm g hg) (by omega)
  · refine Upd.setCell ?_ (fun _ => .inl rfl) _
    exact Upd.trans' (h3.mono (fun _ _ h => h.elim)) hu (fun k _ e => .inr (by rw [← ho]; exact e))
  · rcases hm with hm | hm
    · exact .inl (by rw [hm, ho])
    · exact .inr (fun g hg => Nat.le_trans h3.size (hm g hg))

set_option maxHeartbeats 4000000 in
set_option maxRecDepth 20000 in
theorem add_any (b : Nat) (o : Option Nat) (l : List (Int × Int)) (f t : Int) (w : World) (h : RG w b o l) (hn : (l.length + 1) * 16 ≤ 140737488355328) :
    Calls Try.prog 16 #[.pointer (some ⟨b, 0, none⟩), .int .i64 f, .int .i64 t] w fun e w' =>
      ∃ o', e = .returned (.int .i64 (addL l f t).1) ∧ RG w' b o' (addL l f t).2 ∧ RGmoved w w' b o o' := by
  obtain ⟨f0, hf0⟩ : ∃ f0, max f 0 = f0 := ⟨_, rfl⟩
  obtain ⟨t0, ht0⟩ : ∃ t0, min t 4611686018427387904 = t0 := ⟨_, rfl⟩
  have hin : ∀ W, Calls Try.prog 72 #[.int .i64 f, .int .i64 t] W fun e w' => e = .returned (.tuple #[.int .i64 f0, .int .i64 t0]) ∧ W = w' := fun W => by rw [← ht0, ← hf0]; exact inside_any f t W
  unfold addL
  rw [hf0, ht0]
  clear hf0 ht0
  by_cases hlt : t0 ≤ f0
  · rw [if_pos hlt]
    have HR := hide h
    clear h
    go_enter Try.func16, Try.ntmps16
    go_wp2_with (go_at_call 72; refine (hin _).mono ?_; rintro e w' ⟨rfl, rfl⟩)
    go_ret
    exact ⟨o, rfl, HR.out, Upd.refl _ _, .inl rfl⟩
  · rw [if_neg hlt]
    have htc := touched_any b o l f0 t0 w h (by omega)
    have hi := tLo_le l f0
    have hj := tHi_le l f0 t0
    have hij := tLo_tHi l f0 t0
    rw [show (max (bs (pLo l f0) l.length) (bs (pHi l t0) l.length)) = tHi l f0 t0 from rfl, show bs (pLo l f0) l.length = tLo l f0 from rfl] at htc
    generalize tLo l f0 = i at htc hi hij
    generalize tHi l f0 t0 = j at htc hj hij
    obtain ⟨a, cap, hc, hcap, hb, hown, hob, hk⟩ := h.slice
    have hblt : b < w.heap.size := h.lt
    obtain ⟨-, hrd⟩ := rd_own' hown
    have hcut := hrd.cut cap i j hij hj hcap
    have hml : ∀ ad' W, Rd (fun k => (Value.slice a l.length cap).ownBlock = some k) W ad' (j - i) 2 ((flat l).take (j * 2) |>.drop (i * 2)) → Calls Try.prog 74 #[.slice ad' (j - i) (cap - i)] W fun e w' => e = .returned (.int .i64 (manyW ((l.take j).drop i) 0)) ∧ Upd none_ W w' := by
      intro ad' W hr
      rw [flat_take, flat_drop] at hr
      have hlen : ((l.take j).drop i).length = j - i := by simp; omega
      have := many_any _ ad' ((l.take j).drop i) (cap - i) W (by rw [hlen]; exact hr) (by rw [hlen]; omega)
      rwa [hlen] at this
    have hrep : ∀ (f1 t1 : Int) (W : World), Upd none_ w W → Calls Try.prog 75 #[.slice a l.length cap, .int .i64 i, .int .i64 j, .slice (some ⟨W.heap.size, 0, none⟩) 1 1] (W.alloc (.cells #[.int .i64 f1, .int .i64 t1] 33)) fun e w' =>
        ∃ a' c' k, e = .returned (.slice a' k c') ∧ k = (l.take i ++ [(f1, t1)] ++ l.drop j).length ∧ w'.ownsRow 0 33 2 (.slice a' k c') k (flat (l.take i ++ [(f1, t1)] ++ l.drop j)) ∧ Upd (fun k => (Value.slice a l.length cap).ownBlock = some k) (W.alloc (.cells #[.int .i64 f1, .int .i64 t1] 33)) w' ∧
        ((Value.slice a' k c').ownBlock = (Value.slice a l.length cap).ownBlock ∨ Fresh (W.alloc (.cells #[.int .i64 f1, .int .i64 t1] 33)) (Value.slice a' k c').ownBlock) := by
      intro f1 t1 W hu
      have hA : Upd none_ w (W.alloc (.cells #[.int .i64 f1, .int .i64 t1] 33)) := hu.alloc _
      refine (replace_any a l.length cap i j (flat l) (some ⟨W.heap.size, 0, none⟩) 1 1 [.int .i64 f1, .int .i64 t1] _ (hA.own hown (fun _ _ => id)) hij hj
        (own_mk (c := 1) (L := [.int .i64 f1, .int .i64 t1]) 0 (Nat.zero_le _) (Nat.le_refl _) (by decide) (heapA_at _ _ _ rfl) rfl rfl) (flat_one l) (fun u hu => by simp at hu; rcases hu with rfl | rfl <;> rfl) (fun g hg e => ?_) hn).mono ?_
      · have e2 : some W.heap.size = some g := e
        injection e2 with e3
        have := own_lt hown g hg
        have := hu.size
        omega
      · rintro e w' ⟨a', c', rfl, h1, h2, h3⟩
        refine ⟨a', c', _, rfl, ?_, ?_, h2, h3⟩
        · simp; omega
        · rw [flat_append, flat_append, ← flat_take, ← flat_drop]; exact h1
    obtain ⟨adc, hadc⟩ : ∃ x, (if cap = i then a else a.map (·.add (i * 2))) = x := ⟨_, rfl⟩
    rw [hadc] at hcut
    have hr0 : ∀ W, (Instr.sliceAt 30 (.slice a l.length cap) (some (.int .i64 i)) (some (.int .i64 j)) none).run Try.prog W = .ok (.slice adc (j - i) (cap - i)) W :=
      fun W => by rw [← hadc]; exact run_slice_rd 30 33 Try.underlying30 2 elem_rng.size _ l.length cap i j (by omega) (by omega) .i64 .i64
    have hmx := run_max2 Try.prog
    have hmn := run_min2 Try.prog
    unfold addE
    have HR := hide h
    have HREP := hide hrep
    have HML := hide hml
    have HCUT := hide hcut
    have HB := hide hb
    have HOB := hide hob
    have HK := hide hk
    have HC := hide hc
    clear hadc hcut hml hrep h hown hrd hb hob hk hc
    by_cases hijl : i < j
    · rw [if_pos hijl, if_pos hijl]
      obtain ⟨g, rfl, -, e1, -⟩ := HK.out i (by omega)
      obtain ⟨g2, he2, -, -, e2⟩ := HK.out (j - 1) (by omega)
      obtain rfl : g = g2 := by injection he2 with h1; injection h1
      clear he2
      have f1 : IntKind.i64.wrap ((j : Int) - 1) = (j : Int) - 1 := IntWalk.i64_in _ (by omega)
      have f2 : ((j : Int) - 1).toNat = j - 1 := by omega
      have f3 : 0 ≤ (j : Int) - 1 := by omega
      have f4 : (j : Int) - 1 < (l.length : Int) := by omega
      have f5 : (i : Int) < (l.length : Int) := by omega
      have f6 : (1 : Int) ≤ (j : Int) := by omega
      generalize (l.getD i (0, 0)).1 = x1 at e1 ⊢
      generalize (l.getD (j - 1) (0, 0)).2 = x2 at e2 ⊢
      go_enter Try.func16, Try.ntmps16
      go_wp2_with (go_at_call 72; refine (hin _).mono ?_; rintro e w' ⟨rfl, rfl⟩)
      refine htc.mono ?_
      rintro e w1 ⟨rfl, hu1⟩
      have c1 := hu1.cell HC.out id
      go_wp2_with fail
      refine (HML.out adc w1 (HCUT.out.upd hu1 (fun _ _ => id))).mono ?_
      rintro e w2 ⟨rfl, hu2⟩
      have hU2 : Upd none_ w w2 := hu1.trans hu2
      have c2 := hU2.cell HC.out id
      clear hu1 hu2 c1
      have c3 := hU2.cell e1 id
      have c4 := hU2.cell e2 id
      go_wp2_with fail
      go_quiet (fail)
      clear f1 f2 f3 f4 f5 f6
      have hUd : Upd none_ w (w2.drewN nq) := hU2.drewN _
      have cd := hUd.cell HC.out id
      generalize w2.drewN nq = wd at hUd cd
      clear hU2 c2 c3 c4
      have hblw : b < wd.heap.size := Nat.lt_of_lt_of_le hblt hUd.size
      have hblw1 : b < wd.heap.size + 1 := by omega
      go_wp2_with (go_at_call 75; refine (HREP.out (min f0 x1) (max t0 x2) wd hUd).mono ?_; rintro e w4 ⟨a', c', k, rfl, hk, hown, hu4, hm⟩; have hx := rg_store HR.out HOB.out (hUd.alloc _) hu4 hk hown hm; have c5 := (hu4.heap ((hUd.alloc (.cells #[.int .i64 (min f0 x1), .int .i64 (max t0 x2)] 33)).heap HB.out id) (fun e => HR.out.ne b (by rw [← HOB.out]; exact e) rfl)); have c6 := cell_of_one c5; have c7 := free_of_one c5; clear hk hown hu4 hm c5)
      go_ret
      exact ⟨_, rfl, hx.1, hx.2⟩
    · rw [if_neg hijl, if_neg hijl]
      have f1 : (j : Int) ≤ (i : Int) := by omega
      go_enter Try.func16, Try.ntmps16
      go_wp2_with (go_at_call 72; refine (hin _).mono ?_; rintro e w' ⟨rfl, rfl⟩)
      refine htc.mono ?_
      rintro e w1 ⟨rfl, hu1⟩
      have c1 := hu1.cell HC.out id
      go_wp2_with fail
      refine (HML.out adc w1 (HCUT.out.upd hu1 (fun _ _ => id))).mono ?_
      rintro e w2 ⟨rfl, hu2⟩
      have hU2 : Upd none_ w w2 := hu1.trans hu2
      have c2 := hU2.cell HC.out id
      clear hu1 hu2 c1
      have hUd := hU2
      have cd := c2
      clear hU2 c2
      generalize hww : w2 = wd at hUd cd
      clear hww
      have hblw : b < wd.heap.size := Nat.lt_of_lt_of_le hblt hUd.size
      have hblw1 : b < wd.heap.size + 1 := by omega
      go_wp2_with (go_at_call 75; refine (HREP.out f0 t0 wd hUd).mono ?_; rintro e w4 ⟨a', c', k, rfl, hk, hown, hu4, hm⟩; have hx := rg_store HR.out HOB.out (hUd.alloc _) hu4 hk hown hm; have c5 := (hu4.heap ((hUd.alloc (.cells #[.int .i64 f0, .int .i64 t0] 33)).heap HB.out id) (fun e => HR.out.ne b (by rw [← HOB.out]; exact e) rfl)); have c6 := cell_of_one c5; have c7 := free_of_one c5; clear hk hown hu4 hm c5)
      go_ret
      exact ⟨_, rfl, hx.1, hx.2⟩
end Go.Proofs.Ytjjiemicacbmaaa
