/- Contracts of package ranges: Has, Next, Gap, Covers, Total, New. -/
import Derived.Test.YtjjiemicacbmaaaRg3
namespace Go.Proofs.Ytjjiemicacbmaaa
open Go.RowKit Go.Shelf

theorem RG.upd {S : Nat → Prop} {w w' : World} {b : Nat} {o : Option Nat} {l : List (Int × Int)} (h : RG w b o l) (hu : Upd S w w') (hb : ¬ S b) (ho : ∀ g, o = some g → ¬ S g) : RG w' b o l := by
  obtain ⟨v, h1, h2, rfl⟩ := h
  exact ⟨v, hu.heap h1 hb, hu.own h2 ho, rfl⟩
theorem RG.keep {w w' : World} {b : Nat} {o : Option Nat} {l : List (Int × Int)} (h : RG w b o l) (hu : Upd none_ w w') : RG w' b o l := h.upd hu id fun _ _ => id
theorem RG.lt {w : World} {b : Nat} {o : Option Nat} {l : List (Int × Int)} (h : RG w b o l) : b < w.heap.size := by
  obtain ⟨v, h1, _⟩ := h; exact (Array.getElem?_eq_some_iff.1 h1).1

def hasL (l : List (Int × Int)) (n : Int) : Bool := (atL l n).2
def nextL (l : List (Int × Int)) (n : Int) : Int := if (atL l (max n 0)).2 then (atL l (max n 0)).1.2 else max n 0

set_option maxHeartbeats 1000000 in
theorem has_any (b : Nat) (o : Option Nat) (l : List (Int × Int)) (n : Int) (w : World) (h : RG w b o l) (hn : l.length < 4611686018427387904) :
    Calls Try.prog 21 #[.pointer (some ⟨b, 0, none⟩), .int .i64 n] w fun e w' => e = .returned (.bool (hasL l n)) ∧ Upd none_ w w' := by
  have hat := at_any b o l n w h hn
  have HU : ∀ w', Upd none_ w w' → Hid (Upd none_ w w') := fun _ => hide
  unfold hasL
  clear h
  go_enter Try.func21, Try.ntmps21
  go_wp2_with (go_at_call 79; refine hat.mono ?_; rintro e w' ⟨rfl, hu⟩)
  go_ret
  exact ⟨rfl, (by repeat' first | exact Upd.refl _ _ | assumption | apply Upd.drewN | apply Upd.drew | apply Upd.alloc | (refine Upd.setCell ?_ (fun hh => by exfalso; revert hh; simp; try omega) _))⟩

set_option maxHeartbeats 1000000 in
theorem next_any (b : Nat) (o : Option Nat) (l : List (Int × Int)) (n : Int) (w : World) (h : RG w b o l) (hn : l.length < 4611686018427387904) :
    Calls Try.prog 30 #[.pointer (some ⟨b, 0, none⟩), .int .i64 n] w fun e w' => e = .returned (.int .i64 (nextL l n)) ∧ Upd none_ w w' := by
  have hat := at_any b o l (max n 0) w h hn
  have hmx := run_max2 Try.prog
  unfold nextL
  obtain ⟨x, hx⟩ : ∃ x, atL l (max n 0) = x := ⟨_, rfl⟩
  rw [hx] at hat ⊢
  clear hx h
  obtain ⟨⟨x1, x2⟩, is⟩ := x
  simp only at hat ⊢
  cases is with
  | true =>
    rw [if_pos rfl]
    go_enter Try.func30, Try.ntmps30
    go_wp2_with (go_at_call 79; refine hat.mono ?_; rintro e w' ⟨rfl, hu⟩)
    go_ret
    exact ⟨rfl, (by repeat' first | exact Upd.refl _ _ | assumption | apply Upd.drewN | apply Upd.drew | apply Upd.alloc | (refine Upd.setCell ?_ (fun hh => by exfalso; revert hh; simp; try omega) _))⟩
  | false =>
    rw [if_neg (by simp)]
    go_enter Try.func30, Try.ntmps30
    go_wp2_with (go_at_call 79; refine hat.mono ?_; rintro e w' ⟨rfl, hu⟩)
    go_ret
    exact ⟨rfl, (by repeat' first | exact Upd.refl _ _ | assumption | apply Upd.drewN | apply Upd.drew | apply Upd.alloc | (refine Upd.setCell ?_ (fun hh => by exfalso; revert hh; simp; try omega) _))⟩

/-- Gap's second half. -/
def gapE (l : List (Int × Int)) (a t : Int) : (Int × Int) × Bool :=
  if t ≤ a then ((0, 0), false) else ((a, if bs (pHi l a) l.length < l.length then min t (l.getD (bs (pHi l a) l.length) (0, 0)).1 else t), true)
def gapL (l : List (Int × Int)) (f t : Int) : (Int × Int) × Bool := gapE l (nextL l (max f 0)) (min t 4611686018427387904)

set_option maxHeartbeats 2000000 in
theorem gap_any (b : Nat) (o : Option Nat) (l : List (Int × Int)) (f t : Int) (w : World) (h : RG w b o l) (hn : l.length < 4611686018427387904) :
    Calls Try.prog 20 #[.pointer (some ⟨b, 0, none⟩), .int .i64 f, .int .i64 t] w fun e w' =>
      e = .returned (.tuple #[.agg #[.int .i64 (gapL l f t).1.1, .int .i64 (gapL l f t).1.2], .bool (gapL l f t).2]) ∧ Upd none_ w w' := by
  obtain ⟨a, cap, hc, hcap, hb, -, -, hk⟩ := h.slice
  have hlt : b < w.heap.size := World.block_lt_of_cell? w _ hc
  have hlt1 : b < w.heap.size + 1 := by omega
  have hlt2 : b < w.heap.size + 1 + 1 := by omega
  have hmn := run_min2 Try.prog
  have HR := hide h
  have HK := hide hk
  clear hk h
  unfold gapL
  have hnx : ∀ W, Upd none_ w W → Calls Try.prog 30 #[.pointer (some ⟨b, 0, none⟩), .int .i64 (max f 0)] W fun e w' => e = .returned (.int .i64 (nextL l (max f 0))) ∧ Upd none_ W w' :=
    fun W hu => next_any b o l (max f 0) W (HR.out.keep hu) hn
  generalize nextL l (max f 0) = a0 at hnx
  obtain ⟨t0, ht0⟩ : ∃ t0, min t 4611686018427387904 = t0 := ⟨_, rfl⟩
  have hin : ∀ W, Calls Try.prog 72 #[.int .i64 f, .int .i64 t] W fun e w' => e = .returned (.tuple #[.int .i64 (max f 0), .int .i64 t0]) ∧ W = w' := fun W => by rw [← ht0]; exact inside_any f t W
  rw [ht0]
  clear ht0
  have HNX := hide hnx
  clear hnx
  by_cases hta : t0 ≤ a0
  · unfold gapE
    rw [if_pos hta]
    go_enter Try.func20, Try.ntmps20
    go_wp2_with (first | (go_at_call 72; refine (hin _).mono ?_; rintro e w' ⟨rfl, rfl⟩))
    refine (HNX.out _ (by repeat' first | exact Upd.refl _ _ | apply Upd.drewN | apply Upd.alloc)).mono ?_
    rintro e w1 ⟨rfl, hu⟩
    obtain ⟨-, c0, f0, s0⟩ := hu.one (k := w.heap.size) (by repeat' first | assumption | (refine heapA_at _ _ _ ?_; first | rfl | (simp; done) | omega) | (refine (heapA_past _ _ _ ?_).trans ?_; · first | (simp; done) | (simp; omega)) | refine (heapN _ _ _).trans ?_ | refine (heapD _ _).trans ?_) id
    obtain ⟨-, c1, f1, s1⟩ := hu.one (k := w.heap.size + 1) (by repeat' first | assumption | (refine heapA_at _ _ _ ?_; first | rfl | (simp; done) | omega) | (refine (heapA_past _ _ _ ?_).trans ?_; · first | (simp; done) | (simp; omega)) | refine (heapN _ _ _).trans ?_ | refine (heapD _ _).trans ?_) id
    obtain ⟨b2, c2, c2', f2, f2', s2⟩ := hu.two (k := w.heap.size + 1 + 1) (by repeat' first | assumption | (refine heapA_at _ _ _ ?_; first | rfl | (simp; done) | omega) | (refine (heapA_past _ _ _ ?_).trans ?_; · first | (simp; done) | (simp; omega)) | refine (heapN _ _ _).trans ?_ | refine (heapD _ _).trans ?_) id
    have hU : Upd none_ w w1 := Upd.thenNew (by repeat' first | exact Upd.refl _ _ | assumption | apply Upd.drewN | apply Upd.drew | apply Upd.alloc | (refine Upd.setCell ?_ (fun hh => by exfalso; revert hh; simp; try omega) _)) hu
    clear hu b2
    go_wp2
    refine bodyPost_ret (v := .tuple #[.agg #[.int .i64 0, .int .i64 0], .bool false]) (by simp [results, Try.results20, go_sem, c2, c2']) rfl ⟨rfl, (by repeat' first | exact Upd.refl _ _ | assumption | apply Upd.drewN | apply Upd.drew | apply Upd.alloc | (refine Upd.setCell ?_ (fun hh => by exfalso; revert hh; simp; try omega) _))⟩
  · unfold gapE
    rw [if_neg hta]
    generalize hJ : bs (pHi l a0) l.length = j
    have hjl := (bs_spec (pHi l a0) l.length).1
    rw [hJ] at hjl
    have HJ := hide hJ
    clear hJ
    by_cases hjn : j < l.length
    · rw [if_pos hjn]
      have hji : (j : Int) < (l.length : Int) := by omega
      obtain ⟨g, rfl, -, e1, -⟩ := HK.out j hjn
      have hgl : g < w.heap.size := World.block_lt_of_cell? w _ e1
      generalize (l.getD j (0, 0)).1 = x at e1
      go_enter Try.func20, Try.ntmps20
      go_wp2_with (first | (go_at_call 72; refine (hin _).mono ?_; rintro e w' ⟨rfl, rfl⟩))
      refine (HNX.out _ (by repeat' first | exact Upd.refl _ _ | apply Upd.drewN | apply Upd.alloc)).mono ?_
      rintro e w1 ⟨rfl, hu⟩
      obtain ⟨-, c0, f0, s0⟩ := hu.one (k := w.heap.size) (by repeat' first | assumption | (refine heapA_at _ _ _ ?_; first | rfl | (simp; done) | omega) | (refine (heapA_past _ _ _ ?_).trans ?_; · first | (simp; done) | (simp; omega)) | refine (heapN _ _ _).trans ?_ | refine (heapD _ _).trans ?_) id
      obtain ⟨-, c1, f1, s1⟩ := hu.one (k := w.heap.size + 1) (by repeat' first | assumption | (refine heapA_at _ _ _ ?_; first | rfl | (simp; done) | omega) | (refine (heapA_past _ _ _ ?_).trans ?_; · first | (simp; done) | (simp; omega)) | refine (heapN _ _ _).trans ?_ | refine (heapD _ _).trans ?_) id
      obtain ⟨b2, c2, c2', f2, f2', s2⟩ := hu.two (k := w.heap.size + 1 + 1) (by repeat' first | assumption | (refine heapA_at _ _ _ ?_; first | rfl | (simp; done) | omega) | (refine (heapA_past _ _ _ ?_).trans ?_; · first | (simp; done) | (simp; omega)) | refine (heapN _ _ _).trans ?_ | refine (heapD _ _).trans ?_) id
      have hU : Upd none_ w w1 := Upd.thenNew (by repeat' first | exact Upd.refl _ _ | assumption | apply Upd.drewN | apply Upd.drew | apply Upd.alloc | (refine Upd.setCell ?_ (fun hh => by exfalso; revert hh; simp; try omega) _)) hu
      clear hu b2
      have c3 := hU.cell hc id
      have c4 := hU.cell e1 id
      have hcl := (RG.closures HR.out a0 w.heap.size (w.heap.size + 1) (w1.setCell ⟨w.heap.size + 1, 0, none⟩ (.int .i64 a0)) (by repeat' first | exact Upd.refl _ _ | assumption | apply Upd.drewN | apply Upd.drew | apply Upd.alloc | (refine Upd.setCell ?_ (fun hh => by exfalso; revert hh; simp; try omega) _)) (by go_simp) (by go_simp)).2.2.2
      go_wp2_with (go_at_call 77; ((with_reducible refine (search_any 78 _ l.length (pHi l a0) _ enters78 hn ?hf1).mono ?_); rotate_left; rintro e w' ⟨rfl, q, rfl⟩; rw [HJ.out]))
      case hf1 => exact hcl
      refine bodyPost_ret (v := .tuple #[.agg #[.int .i64 a0, .int .i64 (min t0 x)], .bool true]) (by simp [results, Try.results20, go_sem, c2, c2']) rfl ⟨rfl, (by repeat' first | exact Upd.refl _ _ | assumption | apply Upd.drewN | apply Upd.drew | apply Upd.alloc | (refine Upd.setCell ?_ (fun hh => by exfalso; revert hh; simp; try omega) _))⟩
    · rw [if_neg hjn]
      obtain rfl : j = l.length := by omega
      go_enter Try.func20, Try.ntmps20
      go_wp2_with (first | (go_at_call 72; refine (hin _).mono ?_; rintro e w' ⟨rfl, rfl⟩))
      refine (HNX.out _ (by repeat' first | exact Upd.refl _ _ | apply Upd.drewN | apply Upd.alloc)).mono ?_
      rintro e w1 ⟨rfl, hu⟩
      obtain ⟨-, c0, f0, s0⟩ := hu.one (k := w.heap.size) (by repeat' first | assumption | (refine heapA_at _ _ _ ?_; first | rfl | (simp; done) | omega) | (refine (heapA_past _ _ _ ?_).trans ?_; · first | (simp; done) | (simp; omega)) | refine (heapN _ _ _).trans ?_ | refine (heapD _ _).trans ?_) id
      obtain ⟨-, c1, f1, s1⟩ := hu.one (k := w.heap.size + 1) (by repeat' first | assumption | (refine heapA_at _ _ _ ?_; first | rfl | (simp; done) | omega) | (refine (heapA_past _ _ _ ?_).trans ?_; · first | (simp; done) | (simp; omega)) | refine (heapN _ _ _).trans ?_ | refine (heapD _ _).trans ?_) id
      obtain ⟨b2, c2, c2', f2, f2', s2⟩ := hu.two (k := w.heap.size + 1 + 1) (by repeat' first | assumption | (refine heapA_at _ _ _ ?_; first | rfl | (simp; done) | omega) | (refine (heapA_past _ _ _ ?_).trans ?_; · first | (simp; done) | (simp; omega)) | refine (heapN _ _ _).trans ?_ | refine (heapD _ _).trans ?_) id
      have hU : Upd none_ w w1 := Upd.thenNew (by repeat' first | exact Upd.refl _ _ | assumption | apply Upd.drewN | apply Upd.drew | apply Upd.alloc | (refine Upd.setCell ?_ (fun hh => by exfalso; revert hh; simp; try omega) _)) hu
      clear hu b2
      have c3 := hU.cell hc id
      have hcl := (RG.closures HR.out a0 w.heap.size (w.heap.size + 1) (w1.setCell ⟨w.heap.size + 1, 0, none⟩ (.int .i64 a0)) (by repeat' first | exact Upd.refl _ _ | assumption | apply Upd.drewN | apply Upd.drew | apply Upd.alloc | (refine Upd.setCell ?_ (fun hh => by exfalso; revert hh; simp; try omega) _)) (by go_simp) (by go_simp)).2.2.2
      go_wp2_with (go_at_call 77; ((with_reducible refine (search_any 78 _ l.length (pHi l a0) _ enters78 hn ?hf1).mono ?_); rotate_left; rintro e w' ⟨rfl, q, rfl⟩; rw [HJ.out]))
      case hf1 => exact hcl
      refine bodyPost_ret (v := .tuple #[.agg #[.int .i64 a0, .int .i64 t0], .bool true]) (by simp [results, Try.results20, go_sem, c2, c2']) rfl ⟨rfl, (by repeat' first | exact Upd.refl _ _ | assumption | apply Upd.drewN | apply Upd.drew | apply Upd.alloc | (refine Upd.setCell ?_ (fun hh => by exfalso; revert hh; simp; try omega) _))⟩
end Go.Proofs.Ytjjiemicacbmaaa
