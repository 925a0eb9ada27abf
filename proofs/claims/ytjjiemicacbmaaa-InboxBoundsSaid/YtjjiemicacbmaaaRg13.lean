/- Ranges of one's own, and the helpers of their laws. -/
import Derived.Test.YtjjiemicacbmaaaLw3
namespace Go.Proofs.Ytjjiemicacbmaaa
open Go.RowKit Go.Shelf

/-- A block apart from ranges. -/
def Apart (k b : Nat) (o : Option Nat) : Prop := k ≠ b ∧ o ≠ some k
theorem RGmoved.heap {w w' : World} {b k : Nat} {o o' : Option Nat} {ob : Obj} (h : RGmoved w w' b o o') (hk : w.heap[k]? = some ob) (ha : Apart k b o) : w'.heap[k]? = some ob :=
  h.1.heap hk (fun e => e.elim ha.1 ha.2)
theorem RGmoved.cell {w w' : World} {b : Nat} {o o' : Option Nat} {p : Addr} {v : Value} (h : RGmoved w w' b o o') (hk : w.cell? p = some v) (ha : Apart p.block b o) : w'.cell? p = some v :=
  h.1.cell hk (fun e => e.elim ha.1 ha.2)
theorem RGmoved.apart {w w' : World} {b k : Nat} {o o' : Option Nat} (h : RGmoved w w' b o o') (hk : k < w.heap.size) (ha : Apart k b o) : Apart k b o' := by
  refine ⟨ha.1, fun e => ?_⟩
  rcases h.2 with h2 | h2
  · exact ha.2 (h2 ▸ e)
  · have := h2 k e; omega
/-- A block that came behind ranges is apart from them. -/
theorem RG.apart {w : World} {b k : Nat} {o : Option Nat} {l : List (Int × Int)} (h : RG w b o l) (hk : w.heap.size ≤ k) : Apart k b o :=
  ⟨fun e => by have := h.lt; omega, fun e => by have := h.olt k e; omega⟩

/-- Ranges of one's own, since w0. -/
def RF (w0 w : World) (b : Nat) (o : Option Nat) (l : List (Int × Int)) : Prop := RG w b o l ∧ Upd none_ w0 w ∧ w0.heap.size ≤ b ∧ Fresh w0 o
theorem RF.keep {w0 w w' : World} {b : Nat} {o : Option Nat} {l : List (Int × Int)} (h : RF w0 w b o l) (hu : Upd none_ w w') : RF w0 w' b o l := ⟨h.1.keep hu, h.2.1.thenNew hu, h.2.2⟩
theorem RF.upd {w0 w w' : World} {b : Nat} {o o' : Option Nat} {l : List (Int × Int)} (h : RF w0 w b o l) (hm : RGmoved w w' b o o') : Upd none_ w0 w' :=
  Upd.trans' h.2.1 hm.1 (fun i hi e => by rcases e with e | e; · have := h.2.2.1; omega
                                          · have := h.2.2.2 i e; omega)
theorem RF.moved {w0 w w' : World} {b : Nat} {o o' : Option Nat} {l l' : List (Int × Int)} (h : RF w0 w b o l) (hm : RGmoved w w' b o o') (hg : RG w' b o' l') : RF w0 w' b o' l' :=
  ⟨hg, h.upd hm, h.2.2.1, by
    rcases hm.2 with e | e
    · rw [e]; exact h.2.2.2
    · exact fun g hg => Nat.le_trans h.2.1.size (e g hg)⟩
theorem new_own (w0 w : World) (h : Upd none_ w0 w) : Calls Try.prog 15 #[] w fun e w' => ∃ b', e = .returned (.pointer (some ⟨b', 0, none⟩)) ∧ RF w0 w' b' none [] ∧ w.heap.size ≤ b' ∧ Upd none_ w w' := by
  refine (rnew_any w).mono ?_
  rintro e w' ⟨b', rfl, h1, h2, h3⟩
  exact ⟨b', rfl, ⟨h1, h.thenNew h3, Nat.le_trans h.size h2, fun g hg => by cases hg⟩, h2, h3⟩
theorem add_own {w0 w : World} {b : Nat} {o : Option Nat} {l : List (Int × Int)} (h : RF w0 w b o l) (f t : Int) (hn : (l.length + 1) * 16 ≤ 140737488355328) :
    Calls Try.prog 16 #[.pointer (some ⟨b, 0, none⟩), .int .i64 f, .int .i64 t] w fun e w' =>
      ∃ o', e = .returned (.int .i64 (addL l f t).1) ∧ RF w0 w' b o' (addL l f t).2 ∧ RGmoved w w' b o o' :=
  (add_any b o l f t w h.1 hn).mono fun _ _ ⟨o', e, h1, h2⟩ => ⟨o', e, h.moved h2 h1, h2⟩
theorem cut_own {w0 w : World} {b : Nat} {o : Option Nat} {l : List (Int × Int)} (h : RF w0 w b o l) (f t : Int) (hn : l.length * 48 ≤ 140737488355328) :
    Calls Try.prog 23 #[.pointer (some ⟨b, 0, none⟩), .int .i64 f, .int .i64 t] w fun e w' =>
      ∃ o', e = .returned (.int .i64 (cutL l f t).1) ∧ RF w0 w' b o' (cutL l f t).2 ∧ RGmoved w w' b o o' :=
  (cut_any b o l f t w h.1 hn).mono fun _ _ ⟨o', e, h1, h2⟩ => ⟨o', e, h.moved h2 h1, h2⟩

set_option maxRecDepth 20000 in
set_option maxHeartbeats 4000000 in
theorem shown17 (w : World) : Calls Try.prog 14 #[] w fun e w' => e = .returned (.bool true) ∧ Upd none_ w w' := by
  go_enter Try.func14, Try.ntmps14
  go_wp2_with fail
  refine (new_own w w (Upd.refl _ _)).mono ?_
  rintro e w1 ⟨b, rfl, h1, -, -⟩
  go_wp2_with fail
  have c := add_own h1 2 5 (by decide)
  rw [show addL [] 2 5 = (3, [(2, 5)]) by decide +kernel] at c
  refine c.mono ?_
  clear c
  rintro e w2 ⟨o2, rfl, h2, -⟩
  clear h1
  go_wp2_with fail
  have c := add_own h2 4 8 (by decide)
  rw [show addL [(2, 5)] 4 8 = (3, [(2, 8)]) by decide +kernel] at c
  refine c.mono ?_
  clear c
  rintro e w3 ⟨o3, rfl, h3, -⟩
  clear h2
  go_wp2_with fail
  have c := add_own h3 9 10 (by decide)
  rw [show addL [(2, 8)] 9 10 = (1, [(2, 8), (9, 10)]) by decide +kernel] at c
  refine c.mono ?_
  clear c
  rintro e w4 ⟨o4, rfl, h4, -⟩
  clear h3
  go_wp2_with fail
  refine (list_any b o4 _ w4 h4.1 (by decide)).mono ?_
  rintro e w5 ⟨a5, c5, rfl, hown, hu5⟩
  have h5 := h4.keep hu5
  obtain ⟨g5, off, rfl, hg5, hc5⟩ := (rd_own' hown).2.2.resolve_left (by decide)
  have hap := h4.1.apart (own_ge hown g5 hg5)
  have hlt := own_lt hown g5 hg5
  have e0 := hc5 0 _ rfl
  rw [Nat.add_zero] at e0
  have e1 := hc5 1 _ rfl
  clear hc5 hown h4 hg5
  go_wp2_with fail
  refine (total_any b o4 _ w5 h5.1 (by decide)).mono ?_
  rintro e w6 ⟨rfl, hu6⟩
  rw [show manyW [(2, 8), (9, 10)] 0 = 7 by decide +kernel]
  have h6 := h5.keep hu6
  go_wp2_with fail
  refine (gap_any b o4 _ 2 12 w6 h6.1 (by decide)).mono ?_
  rintro e w7 ⟨rfl, hu7⟩
  have h7 := h6.keep hu7
  rw [show gapL [(2, 8), (9, 10)] 2 12 = ((8, 9), true) by decide +kernel]
  have f0 := hu7.cell (hu6.cell e0 id) id
  have f1 := hu7.cell (hu6.cell e1 id) id
  have hlt7 : g5 < w7.heap.size := Nat.lt_of_lt_of_le hlt (Nat.le_trans hu6.size hu7.size)
  clear e0 e1 hlt hu6 hu7 h5 h6
  go_wp2_with fail
  have hap2 := h7.1.apart (Nat.le_refl _)
  have hU : Upd none_ w7 (w7.alloc (.cells #[.int .i64 8, .int .i64 9] 33)) := (Upd.refl _ _).alloc _
  have hb : (w7.alloc (.cells #[.int .i64 8, .int .i64 9] 33)).heap[w7.heap.size]? = some (.cells #[.int .i64 8, .int .i64 9] 33 (0, 0)) := (by repeat' first | assumption | (refine heapA_at _ _ _ ?_; first | rfl | (simp; done) | omega) | (refine (heapA_past _ _ _ ?_).trans ?_; · first | (simp; done) | (simp; omega)) | refine (heapN _ _ _).trans ?_ | refine (heapD _ _).trans ?_)
  have h8 := h7.keep hU
  have f2 := hU.cell f0 id
  have f3 := hU.cell f1 id
  have hlt8 : g5 < (w7.alloc (.cells #[.int .i64 8, .int .i64 9] 33)).heap.size := Nat.lt_of_lt_of_le hlt7 hU.size
  clear hU f0 f1 hlt7 h7
  generalize (w7.alloc (.cells #[.int .i64 8, .int .i64 9] 33)) = w8 at hb h8 f2 f3 hlt8
  generalize w7.heap.size = G at hb hap2
  refine (gap_any b o4 _ 3 5 w8 h8.1 (by decide)).mono ?_
  rintro e w9 ⟨rfl, hu9⟩
  rw [show gapL [(2, 8), (9, 10)] 3 5 = ((0, 0), false) by decide +kernel]
  have h9 := h8.keep hu9
  have f4 := hu9.cell f2 id
  have f5 := hu9.cell f3 id
  have hb9 := hu9.heap hb id
  have hlt9 := Nat.lt_of_lt_of_le hlt8 hu9.size
  clear h8 f2 f3 hb hlt8 hu9
  go_wp2_with fail
  have hU : Upd none_ w9 (w9.alloc (.cells #[.int .i64 0, .int .i64 0] 33)) := (Upd.refl _ _).alloc _
  have h10 := h9.keep hU
  have f6 := hU.cell f4 id
  have f7 := hU.cell f5 id
  have hb10 := hU.heap hb9 id
  have hlt10 := Nat.lt_of_lt_of_le hlt9 hU.size
  clear h9 f4 f5 hb9 hlt9 hU
  generalize (w9.alloc (.cells #[.int .i64 0, .int .i64 0] 33)) = w10 at h10 f6 f7 hb10 hlt10
  refine (next_any b o4 _ 2 w10 h10.1 (by decide)).mono ?_
  rintro e w11 ⟨rfl, hu11⟩
  rw [show nextL [(2, 8), (9, 10)] 2 = 8 by decide +kernel]
  have h11 := h10.keep hu11
  go_wp2_with fail
  refine (next_any b o4 _ 0 w11 h11.1 (by decide)).mono ?_
  rintro e w12 ⟨rfl, hu12⟩
  rw [show nextL [(2, 8), (9, 10)] 0 = 0 by decide +kernel]
  have h12 := h11.keep hu12
  go_wp2_with fail
  refine (covers_any b o4 _ 9 9 w12 h12.1 (by decide)).mono ?_
  rintro e w13 ⟨rfl, hu13⟩
  rw [show (gapL [(2, 8), (9, 10)] 9 9).2 = false by decide +kernel]
  have h13 := h12.keep hu13
  have hU := (hu11.trans hu12).trans hu13
  have f8 := hU.cell f6 id
  have f9 := hU.cell f7 id
  have hb13 := hU.heap hb10 id
  have hlt13 := Nat.lt_of_lt_of_le hlt10 hU.size
  clear h10 h11 h12 hu11 hu12 hu13 hU f6 f7 hb10 hlt10
  go_wp2_with fail
  have c := cut_own h13 3 4 (by decide)
  rw [show cutL [(2, 8), (9, 10)] 3 4 = (1, [(2, 3), (4, 8), (9, 10)]) by decide +kernel] at c
  refine c.mono ?_
  clear c
  rintro e w14 ⟨o5, rfl, h14, hm⟩
  have f10 := hm.cell f8 hap
  have f11 := hm.cell f9 hap
  have hb14 := hm.heap hb13 hap2
  have hap3 := hm.apart hlt13 hap
  have hap4 := hm.apart (lt_of_block hb13) hap2
  have hlt14 := Nat.lt_of_lt_of_le hlt13 hm.1.size
  clear hm f8 f9 hb13 hlt13 hap hap2 h13
  go_wp2_with fail
  have c := add_own h14 (-5) 1 (by decide)
  rw [show addL [(2, 3), (4, 8), (9, 10)] (-5) 1 = (1, [(0, 1), (2, 3), (4, 8), (9, 10)]) by decide +kernel] at c
  refine c.mono ?_
  clear c
  rintro e w15 ⟨o6, rfl, h15, hm⟩
  have f12 := hm.cell f10 hap3
  have f13 := hm.cell f11 hap3
  have hb15 := hm.heap hb14 hap4
  have hap5 := hm.apart hlt14 hap3
  have hap6 := hm.apart (lt_of_block hb14) hap4
  have hlt15 := Nat.lt_of_lt_of_le hlt14 hm.1.size
  clear hm f10 f11 hb14 hlt14 hap3 hap4 h14
  go_wp2_with fail
  have c := add_own h15 7 3 (by decide)
  rw [show addL [(0, 1), (2, 3), (4, 8), (9, 10)] 7 3 = (0, [(0, 1), (2, 3), (4, 8), (9, 10)]) by decide +kernel] at c
  refine c.mono ?_
  clear c
  rintro e w16 ⟨o7, rfl, h16, hm⟩
  have f14 := hm.cell f12 hap5
  have f15 := hm.cell f13 hap5
  have hb16 := hm.heap hb15 hap6
  clear hm f12 f13 hb15 hlt15 hap5 hap6 h15
  have hcg : w16.cell? ⟨G, 0, none⟩ = some (.int .i64 8) := by rw [cell_of_row w16 G _ _ _ _ hb16]; rfl
  have hcg1 : w16.cell? ⟨G, 1, none⟩ = some (.int .i64 9) := by rw [cell_of_row w16 G _ _ _ _ hb16]; rfl
  go_wp2_with fail
  refine (has_any b o7 _ 0 w16 h16.1 (by decide)).mono ?_
  rintro e w17 ⟨rfl, hu17⟩
  rw [show hasL [(0, 1), (2, 3), (4, 8), (9, 10)] 0 = true by decide +kernel]
  have h17 := h16.keep hu17
  go_wp2_with fail
  refine (list_any b o7 _ w17 h17.1 (by decide)).mono ?_
  rintro e w18 ⟨a', c', rfl, -, hu18⟩
  have h18 := h17.keep hu18
  go_wp2_with fail
  go_ret
  exact ⟨rfl, h18.2.1⟩
end Go.Proofs.Ytjjiemicacbmaaa
