/- The document's ranges: Cut. -/
import Derived.Test.YtjjiemicacbmaaaRq4
namespace Go.Proofs.Ytjjiemicacbmaaa
open Go.RowKit Go.Shelf

/-- What becomes of the blocks of the document's ranges behind a call that writes them: its block alone; its row is new or was there. -/
def RQmoved (w w' : World) (b : Nat) (o o' : Option Nat) : Prop := Upd (fun k => k = b) w w' ∧ (o' = o ∨ Fresh w o')

set_option maxHeartbeats 4000000 in
theorem qcut_any (b : Nat) (o : Option Nat) (l : List (Int × Int)) (f t : Int) (w : World) (h : RQ w b o l) (hw : WF l) (hn : l.length * 48 ≤ 140737488355328) :
    Calls Try.prog 24 #[.pointer (some ⟨b, 0, none⟩), .int .i64 f, .int .i64 t] w fun e w' =>
      ∃ o', e = .returned (.int .i64 (cutL l f t).1) ∧ RQ w' b o' (cutL l f t).2 ∧ RQmoved w w' b o o' := by
  obtain ⟨cw, -, c3, c4, c5⟩ := cut_law hw f t
  rw [c3]
  obtain ⟨f0, hf0⟩ : ∃ f0, max f 0 = f0 := ⟨_, rfl⟩
  obtain ⟨t0, ht0⟩ : ∃ t0, min t 4611686018427387904 = t0 := ⟨_, rfl⟩
  have hin : ∀ W, Calls Try.prog 80 #[.int .i64 f, .int .i64 t] W fun e w' => e = .returned (.tuple #[.int .i64 f0, .int .i64 t0]) ∧ W = w' := fun W => by rw [← ht0, ← hf0]; exact qinside_any f t W
  rw [ht0, hf0] at c5
  clear hf0 ht0 c3
  by_cases hlt : t0 ≤ f0
  · rw [if_pos hlt] at c5
    rw [c5]
    have HQ := hide h
    clear h c5 c4 cw
    go_enter Try.func24, Try.ntmps24
    go_wp2_with (go_at_call 80; refine (hin _).mono ?_; rintro e w' ⟨rfl, rfl⟩)
    go_ret
    exact ⟨o, by rw [Int.sub_self]; rfl, HQ.out, Upd.refl _ _, .inl rfl⟩
  · rw [if_neg hlt] at c5
    have hb1 := hw.tot
    have hb2 := cw.tot
    rw [c5] at c4 hb2 cw ⊢
    have HSUB := hide (show IntKind.i64.wrap (tot l - tot (rests f0 t0 l)) = tot l - tot (rests f0 t0 l) from IntWalk.i64_in _ (by omega))
    obtain ⟨a, cap, hc, hcap, hb, hown, hob, hk⟩ := h.slice
    have hblt : b < w.heap.size := h.lt
    obtain ⟨-, hrd⟩ := rd_own' hown
    have hqt : ∀ W, Upd none_ w W → Calls Try.prog 28 #[.pointer (some ⟨b, 0, none⟩)] W fun e w' => e = .returned (.int .i64 (tot l)) ∧ Upd none_ W w' := fun W hu => qtotal_any b o l W (h.keep hu) hw (by omega)
    have hwo : ∀ W, Upd none_ w W → Calls Try.prog 81 #[.slice a l.length cap, .int .i64 f0, .int .i64 t0] W fun e w' =>
      ∃ a' c' k, e = .returned (.slice a' k c') ∧ k = (rests f0 t0 l).length ∧ w'.ownsRow W.heap.size 33 2 (.slice a' k c') k (flat (rests f0 t0 l)) ∧ Upd none_ W w' := fun W hu => without_any _ a cap l f0 t0 W (hrd.upd hu (fun _ _ => id)) hn
    have HB := hide hb
    have HC := hide hc
    have HQT := hide hqt
    have HWO := hide hwo
    have HCW := hide cw
    have HC4 := hide c4
    clear hb hc hqt hwo cw c4 c5 h hk hown hrd hob
    generalize rests f0 t0 l = R at HWO HSUB HCW HC4 hb2 ⊢
    go_enter Try.func24, Try.ntmps24
    go_wp2_with (go_at_call 80; refine (hin _).mono ?_; rintro e w' ⟨rfl, rfl⟩)
    refine (HQT.out w (Upd.refl _ _)).mono ?_
    rintro e w1 ⟨rfl, hu1⟩
    have d1 := hu1.cell HC.out id
    have hb1' := hu1.heap HB.out id
    have hfz := free_of_one hb1'
    have hU1 : Upd none_ w w1 := hu1
    clear hb1 hb2
    have HU1 := hide hU1
    have HB1 := hide hb1'
    clear hu1 hU1 hb1'
    go_wp2_with fail
    refine (HWO.out w1 HU1.out).mono ?_
    rintro e w2 ⟨a', c', k, rfl, hk, hown, hu2⟩
    have hU2 := HU1.out.trans hu2
    have hb2 := hu2.heap HB1.out id
    have d2 := cell_of_one hb2
    have hfz2 := free_of_one hb2
    have hlt2 : b < w2.heap.size := lt_of_block hb2
    have HOW := hide hown
    have HK := hide hk
    have HU2 := hide hU2
    have HB2 := hide hb2
    have HLE := hide (HU1.out.size)
    clear d1 hfz hk hown hU2 hu2 hb2
    go_wp2_with fail
    have hgen : ∀ g, (Value.slice a' k c').ownBlock = some g → w.heap.size ≤ g := fun g hg => Nat.le_trans HLE.out (own_ge HOW.out g hg)
    have hq : RQ (w2.setCell ⟨b, 0, none⟩ (.slice a' k c')) b (Value.slice a' k c').ownBlock R := by
      have hk := HK.out
      have ho := HOW.out
      subst hk
      refine ⟨_, one_setCell HB2.out, ?_, rfl⟩
      exact Upd.own (S := fun k => k = b) (Upd.setCell (S := fun k => k = b) (p := ⟨b, 0, none⟩) (Upd.refl _ w2) (fun _ => rfl) _) (own_base ho 0 (fun _ _ => Nat.zero_le _)) (fun g hg e => by have := hgen g hg; omega)
    have hmv : Upd (fun k => k = b) w (w2.setCell ⟨b, 0, none⟩ (.slice a' k c')) := Upd.setCell (S := fun k => k = b) (p := ⟨b, 0, none⟩) (HU2.out.mono (fun _ _ h => h.elim)) (fun _ => rfl) _
    refine (qtotal_any b _ R _ hq HCW.out (by have := HC4.out; omega)).mono ?_
    rintro e w5 ⟨rfl, hu5⟩
    have hs := HSUB.out
    have HQ := hide hq
    have HMV := hide hmv
    have HU5 := hide hu5
    have HGEN := hide hgen
    clear hq hmv hu5 hgen
    go_wp2_with fail
    go_ret
    exact ⟨_, rfl, HQ.out.keep HU5.out, HMV.out.thenNew HU5.out, .inr HGEN.out⟩
end Go.Proofs.Ytjjiemicacbmaaa
