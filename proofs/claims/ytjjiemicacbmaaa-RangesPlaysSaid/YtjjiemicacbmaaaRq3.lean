/- The document's ranges: Gap, Covers. -/
import Derived.Test.YtjjiemicacbmaaaRq2
namespace Go.Proofs.Ytjjiemicacbmaaa
open Go.RowKit Go.Shelf

set_option maxRecDepth 20000 in
set_option maxHeartbeats 4000000 in
theorem qgap_any (b : Nat) (o : Option Nat) (l : List (Int × Int)) (f t : Int) (w : World) (h : RQ w b o l) (hw : WF l) (hn : l.length < 4611686018427387904) :
    Calls Try.prog 26 #[.pointer (some ⟨b, 0, none⟩), .int .i64 f, .int .i64 t] w fun e w' =>
      e = .returned (.tuple #[.agg #[.int .i64 (gapL l f t).1.1, .int .i64 (gapL l f t).1.2], .bool (gapL l f t).2]) ∧ Upd none_ w w' := by
  obtain ⟨a, cap, hc, hcap, -, -, -, hk⟩ := h.slice
  have hblt : b < w.heap.size := h.lt
  have hmn := run_min2 Try.prog
  have HC := hide hc
  have HK := hide hk
  have HW := hide hw
  unfold gapL
  have hnx : ∀ W, Upd none_ w W → Calls Try.prog 31 #[.pointer (some ⟨b, 0, none⟩), .int .i64 (max f 0)] W fun e w' => e = .returned (.int .i64 (nextL l (max f 0))) ∧ Upd none_ W w' :=
    fun W hu => qnext_any b o l (max f 0) W (h.keep hu) hw hn
  generalize nextL l (max f 0) = a0 at hnx
  obtain ⟨t0, ht0⟩ : ∃ t0, min t 4611686018427387904 = t0 := ⟨_, rfl⟩
  have hin : ∀ W, Calls Try.prog 80 #[.int .i64 f, .int .i64 t] W fun e w' => e = .returned (.tuple #[.int .i64 (max f 0), .int .i64 t0]) ∧ W = w' := fun W => by rw [← ht0]; exact qinside_any f t W
  rw [ht0]
  have HNX := hide hnx
  clear ht0 hnx h hc hk hw
  by_cases hta : t0 ≤ a0
  · unfold gapE
    rw [if_pos hta]
    go_enter Try.func26, Try.ntmps26
    go_wp2_with (first | (go_at_call 80; refine (hin _).mono ?_; rintro e w' ⟨rfl, rfl⟩))
    refine (HNX.out _ (by repeat' first | exact Upd.refl _ _ | assumption | apply Upd.drewN | apply Upd.drew | apply Upd.alloc | (refine Upd.setCell ?_ (fun hh => by exfalso; revert hh; simp; try omega) _))).mono ?_
    rintro e w1 ⟨rfl, hu⟩
    obtain ⟨b2, c2, c2', f2, f2', s2⟩ := hu.two (k := w.heap.size) (by repeat' first | assumption | (refine heapA_at _ _ _ ?_; first | rfl | (simp; done) | omega) | (refine (heapA_past _ _ _ ?_).trans ?_; · first | (simp; done) | (simp; omega)) | refine (heapN _ _ _).trans ?_ | refine (heapD _ _).trans ?_) id
    have hU : Upd none_ w w1 := Upd.thenNew (by repeat' first | exact Upd.refl _ _ | assumption | apply Upd.drewN | apply Upd.drew | apply Upd.alloc | (refine Upd.setCell ?_ (fun hh => by exfalso; revert hh; simp; try omega) _)) hu
    clear hu b2
    go_wp2
    refine bodyPost_ret (v := .tuple #[.agg #[.int .i64 0, .int .i64 0], .bool false]) (by simp [results, Try.results26, go_sem, c2, c2']) rfl ⟨rfl, (by repeat' first | exact Upd.refl _ _ | assumption | apply Upd.drewN | apply Upd.drew | apply Upd.alloc | (refine Upd.setCell ?_ (fun hh => by exfalso; revert hh; simp; try omega) _))⟩
  · unfold gapE
    rw [if_neg hta]
    have HRES := hide (show ∀ v, ((v = t0 ∧ ∀ m, (hm : m < l.length) → m < l.length → l[m].1 ≤ a0) ∨ (∃ j, ∃ hj : j < l.length, j < l.length ∧ a0 < l[j].1 ∧ (∀ m, (hm : m < l.length) → m < j → l[m].1 ≤ a0) ∧ v = min t0 l[j].1)) → (if bs (pHi l a0) l.length < l.length then min t0 (l.getD (bs (pHi l a0) l.length) (0, 0)).1 else t0) = v from fun v hv => by
      rcases hv with ⟨h1, h2⟩ | ⟨j, hj, -, h1, h2, h3⟩
      · rw [if_neg (hi_none a0 fun m hm => h2 m hm hm), h1]
      · rw [hi_first HW.out a0 hj h1 h2, if_pos hj, h3, getD_in l j hj])
    generalize (if bs (pHi l a0) l.length < l.length then min t0 (l.getD (bs (pHi l a0) l.length) (0, 0)).1 else t0) = tr at HRES
    go_enter Try.func26, Try.ntmps26
    go_wp2_with (first | (go_at_call 80; refine (hin _).mono ?_; rintro e w' ⟨rfl, rfl⟩))
    refine (HNX.out _ (by repeat' first | exact Upd.refl _ _ | assumption | apply Upd.drewN | apply Upd.drew | apply Upd.alloc | (refine Upd.setCell ?_ (fun hh => by exfalso; revert hh; simp; try omega) _))).mono ?_
    rintro e w1 ⟨rfl, hu⟩
    obtain ⟨b2, -, -, -, -, -⟩ := hu.two (k := w.heap.size) (by repeat' first | assumption | (refine heapA_at _ _ _ ?_; first | rfl | (simp; done) | omega) | (refine (heapA_past _ _ _ ?_).trans ?_; · first | (simp; done) | (simp; omega)) | refine (heapN _ _ _).trans ?_ | refine (heapD _ _).trans ?_) id
    have hU : Upd none_ w w1 := Upd.thenNew (by repeat' first | exact Upd.refl _ _ | assumption | apply Upd.drewN | apply Upd.drew | apply Upd.alloc | (refine Upd.setCell ?_ (fun hh => by exfalso; revert hh; simp; try omega) _)) hu
    have HU1 := hide hU
    have HB2 := hide b2
    clear hu b2 hU
    go_wp2_with fail
    go_loopw [2, 9] (fun s i wr => ∃ k : Nat, ∃ v : Int, k ≤ l.length ∧ i = Value.int .i64 ((k : Nat) : Int) ∧ s = Value.int .i64 v ∧ Upd none_ w wr ∧ wr.heap[w.heap.size]? = some (.cells #[.int .i64 0, .int .i64 0] 33 (0, 0)) ∧
      ((v = t0 ∧ ∀ m, (hm : m < l.length) → m < k → l[m].1 ≤ a0) ∨ (∃ j, ∃ hj : j < l.length, j < k ∧ a0 < l[j].1 ∧ (∀ m, (hm : m < l.length) → m < j → l[m].1 ≤ a0) ∧ v = min t0 l[j].1))) (fun _ i _ => l.length - (intOf i).toNat)
    case atStart => exact ⟨0, t0, Nat.zero_le _, rfl, rfl, HU1.out, HB2.out, .inl ⟨rfl, fun m _ h => absurd h (Nat.not_lt_zero _)⟩⟩
    case round =>
      clear HU1 HB2
      obtain ⟨k, v, hk, rfl, rfl, hu, hb2, hst⟩ := hrel
      have c0 := hu.cell HC.out id
      have HU := hide hu
      have HST := hide hst
      have HB2 := hide hb2
      clear hu hst hb2
      by_cases hlt : k < l.length
      · obtain ⟨g, rfl, -, e1, -⟩ := HK.out k hlt
        have e3 := HU.out.cell e1 id
        clear e1
        rw [getD_in l k hlt] at e3
        generalize hx : l[k] = x at e3
        have HX := hide hx
        clear hx
        have f1 : (0 : Int) ≤ (k : Int) := by omega
        have f2 : (k : Int) < (l.length : Int) := by omega
        have f3 : (k : Int).toNat = k := by omega
        by_cases g1 : a0 < x.1
        · go_wp2_with fail
          go_roundw
          case rel => exact ⟨k + 1, min v x.1, by omega, by go_num, rfl, HU.out, HB2.out, by
            right
            rcases HST.out with h | ⟨j, hj, h1, h2, h3, h4⟩
            · exact ⟨k, hlt, by omega, by rw [HX.out]; exact g1, h.2, by rw [HX.out, h.1]⟩
            · have := HW.out.rise hj hlt h1
              have := HW.out.at' hj
              rw [HX.out] at *
              exact ⟨j, hj, by omega, h2, h3, by omega⟩⟩
          case measure => simp [intOf]; omega
        · go_wp2_with fail
          go_roundw
          case rel => exact ⟨k + 1, v, by omega, by go_num, rfl, HU.out, HB2.out, by
            rcases HST.out with h | ⟨j, hj, h1, h2, h3, h4⟩
            · refine .inl ⟨h.1, fun m hm hmk => ?_⟩
              by_cases e : m = k
              · subst e; rw [HX.out]; omega
              · exact h.2 m hm (by omega)
            · exact .inr ⟨j, hj, by omega, h2, h3, h4⟩⟩
          case measure => simp [intOf]; omega
      · obtain rfl : k = l.length := by omega
        obtain ⟨b2, c2, c2', f2, f2', s2⟩ := (Upd.refl none_ wr).two HB2.out id
        have hU := HU.out
        obtain rfl := HRES.out v HST.out
        clear b2
        go_wp2
        refine bodyPost_ret (v := .tuple #[.agg #[.int .i64 a0, .int .i64 tr], .bool true]) (by simp [results, Try.results26, go_sem, c2, c2']) rfl ⟨rfl, (by repeat' first | exact Upd.refl _ _ | assumption | apply Upd.drewN | apply Upd.drew | apply Upd.alloc | (refine Upd.setCell ?_ (fun hh => by exfalso; revert hh; simp; try omega) _))⟩

set_option maxHeartbeats 1000000 in
theorem qcovers_any (b : Nat) (o : Option Nat) (l : List (Int × Int)) (f t : Int) (w : World) (h : RQ w b o l) (hw : WF l) (hn : l.length < 4611686018427387904) :
    Calls Try.prog 33 #[.pointer (some ⟨b, 0, none⟩), .int .i64 f, .int .i64 t] w fun e w' => e = .returned (.bool (!(gapL l f t).2)) ∧ Upd none_ w w' := by
  have hg := qgap_any b o l f t w h hw hn
  generalize gapL l f t = x at hg
  clear h hw
  go_enter Try.func33, Try.ntmps33
  go_wp2_with (go_at_call 26; refine hg.mono ?_; rintro e w' ⟨rfl, hu⟩)
  go_ret
  exact ⟨rfl, (by repeat' first | exact Upd.refl _ _ | assumption | apply Upd.drewN | apply Upd.drew | apply Upd.alloc | (refine Upd.setCell ?_ (fun hh => by exfalso; revert hh; simp; try omega) _))⟩
end Go.Proofs.Ytjjiemicacbmaaa
