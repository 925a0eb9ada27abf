/- The document's ranges: without, Cut. -/
import Derived.Test.YtjjiemicacbmaaaRq3
import Derived.BigRegion
namespace Go.Proofs.Ytjjiemicacbmaaa
open Go.RowKit Go.Shelf

theorem rest2_eq (f t : Int) (x : Int × Int) : rest2 f t x = (if x.1 < min x.2 f then [(x.1, min x.2 f)] else []) ++ (if max x.1 t < x.2 then [(max x.1 t, x.2)] else []) := by
  simp only [rest2, List.filter_cons, pieceB, List.filter_nil, decide_eq_true_eq]
  split <;> split <;> simp
theorem app_one (R : List (Int × Int)) (p q : Int) : (R ++ [(p, q)]).length = R.length + 1 ∧ flat (R ++ [(p, q)]) = flat R ++ [.int .i64 p, .int .i64 q] := by
  refine ⟨by simp, ?_⟩
  rw [flat_append]; rfl
/-- What an append to a slice of one's own leaves. -/
theorem app_keep {w wb wc : World} {v : Value} {ob : Obj} {B e sz n : Nat} {xs : List Value} (hu : Upd none_ w wb) (ho : wb.ownsRow B e sz v n xs) (hB : w.heap.size ≤ B) (h : Upd (fun k => v.ownBlock = some k) (wb.alloc ob) wc) :
    Upd none_ w wc ∧ ∀ G o2, wb.heap[G]? = some o2 → v.ownBlock ≠ some G → wc.heap[G]? = some o2 := by
  refine ⟨Upd.trans' (S := none_) (hu.alloc _) h (fun g hg e => absurd (own_ge ho g e) (by omega)), fun G o2 hG hne => ?_⟩
  exact h.heap ((heapA_past _ _ _ (lt_of_block hG)).trans hG) hne

set_option maxRecDepth 20000 in
set_option maxHeartbeats 8000000 in
theorem without_any (F : Nat → Prop) (a : Option Addr) (c : Nat) (l : List (Int × Int)) (f t : Int) (w : World) (hr : Rd F w a l.length 2 (flat l)) (hn : l.length * 48 ≤ 140737488355328) :
    Calls Try.prog 81 #[.slice a l.length c, .int .i64 f, .int .i64 t] w fun e w' =>
      ∃ a' c' k, e = .returned (.slice a' k c') ∧ k = (rests f t l).length ∧ w'.ownsRow w.heap.size 33 2 (.slice a' k c') k (flat (rests f t l)) ∧ Upd none_ w w' := by
  have hmx := run_max2 Try.prog
  have hmn := run_min2 Try.prog
  have HR := hide hr
  clear hr
  go_enter Try.func81, Try.ntmps81
  go_wp2_with fail
  go_loopw [7, 8] (fun s7 s8 wr => ∃ k a1 c1, k ≤ l.length ∧ s8 = Value.int .i64 ((k : Nat) : Int) ∧ s7 = Value.slice a1 (rests f t (l.take k)).length c1 ∧ wr.ownsRow w.heap.size 33 2 (.slice a1 (rests f t (l.take k)).length c1) (rests f t (l.take k)).length (flat (rests f t (l.take k))) ∧ Upd none_ w wr) (fun _ s _ => l.length - (intOf s).toNat)
  case atStart => exact ⟨0, none, 0, Nat.zero_le _, rfl, rfl, World.ownsRow_nil _ _ _ _, Upd.refl _ _⟩
  case round =>
    obtain ⟨k, a1, c1, hk, rfl, rfl, hown1, hu⟩ := hrel
    have HU := hide hu
    have HO1 := hide hown1
    clear hu hown1
    by_cases hkl : k < l.length
    · obtain ⟨g, off, rfl, -, hcc⟩ := HR.out.2.resolve_left (by omega)
      have e1 := HU.out.cell (hcc _ _ (flat_get l k hkl).1) id
      have e2 := HU.out.cell (hcc _ _ (flat_get l k hkl).2) id
      clear hcc
      rw [← Nat.add_assoc] at e2
      have HSN := hide (rests_snoc f t l k hkl)
      have hrl := rests_len f t (l.take k)
      have HRL := hide (show (rests f t (l.take k)).length ≤ 2 * k by rw [List.length_take] at hrl; omega)
      clear hrl
      generalize l.getD k (0, 0) = x at e1 e2 HSN
      obtain ⟨x1, x2⟩ := x
      rw [rest2_eq] at HSN
      generalize rests f t (l.take k) = R at HO1 HSN HRL
      have f1 : (0 : Int) ≤ (k : Int) := by omega
      have f2 : (k : Int) < (l.length : Int) := by omega
      have f3 : (k : Int).toNat = k := by omega
      have hgl : g < wr.heap.size := World.block_lt_of_cell? wr _ e1
      have hgl1 : g < wr.heap.size + 1 := by omega
      go_wp2_with fail
      go_region
      have hb1 : ((wr.alloc (.cells #[.int .i64 x1, .int .i64 (min x2 f)] 33)).drew).heap[wr.heap.size]? = some (.cells #[.int .i64 x1, .int .i64 (min x2 f)] 33 (0, 0)) := (by repeat' first | assumption | (refine heapA_at _ _ _ ?_; first | rfl | (simp; done) | omega) | (refine (heapA_past _ _ _ ?_).trans ?_; · first | (simp; done) | (simp; omega)) | refine (heapN _ _ _).trans ?_ | refine (heapD _ _).trans ?_)
      have hu1 : Upd none_ wr (wr.alloc (.cells #[.int .i64 x1, .int .i64 (min x2 f)] 33)).drew := (by repeat' first | exact Upd.refl _ _ | assumption | apply Upd.drewN | apply Upd.drew | apply Upd.alloc | (refine Upd.setCell ?_ (fun hh => by exfalso; revert hh; simp; try omega) _))
      have hne1 : (Value.slice a1 R.length c1).ownBlock ≠ some wr.heap.size := fun e => by have := own_lt HO1.out _ e; omega
      have HOA := hide (hu1.own HO1.out (fun _ _ => id))
      have HUA := hide (HU.out.trans hu1)
      have e3 := hu1.cell e1 id
      have e4 := hu1.cell e2 id
      have HB1 := hide hb1
      have HN1 := hide hne1
      clear hb1 hu1 hne1 e1 e2 hgl hgl1 HU HO1
      generalize (wr.alloc (.cells #[.int .i64 x1, .int .i64 (min x2 f)] 33)).drew = wa at HOA HUA e3 e4 HB1
      generalize wr.heap.size = G1 at HB1 HN1
      have hgl : g < wa.heap.size := World.block_lt_of_cell? wa _ e3
      have hgl1 : g < wa.heap.size + 1 := by omega
      go_wp2_with fail
      go_region
      have hb2 : ((wa.alloc (.cells #[.int .i64 (max x1 t), .int .i64 x2] 33)).drew).heap[wa.heap.size]? = some (.cells #[.int .i64 (max x1 t), .int .i64 x2] 33 (0, 0)) := (by repeat' first | assumption | (refine heapA_at _ _ _ ?_; first | rfl | (simp; done) | omega) | (refine (heapA_past _ _ _ ?_).trans ?_; · first | (simp; done) | (simp; omega)) | refine (heapN _ _ _).trans ?_ | refine (heapD _ _).trans ?_)
      have hu1 : Upd none_ wa (wa.alloc (.cells #[.int .i64 (max x1 t), .int .i64 x2] 33)).drew := (by repeat' first | exact Upd.refl _ _ | assumption | apply Upd.drewN | apply Upd.drew | apply Upd.alloc | (refine Upd.setCell ?_ (fun hh => by exfalso; revert hh; simp; try omega) _))
      have hne2 : (Value.slice a1 R.length c1).ownBlock ≠ some wa.heap.size := fun e => by have := own_lt HOA.out _ e; omega
      have HOB := hide (hu1.own HOA.out (fun _ _ => id))
      have HUB := hide (HUA.out.trans hu1)
      have hb1 := hu1.heap HB1.out id
      have HN2 := hide hne2
      have HB2 := hide hb2
      have hG12 : G1 < wa.heap.size := lt_of_block HB1.out
      clear hu1 hne2 e3 e4 hgl hgl1 HUA HOA HB1 hb2
      have HB1 := hide hb1
      clear hb1
      generalize (wa.alloc (.cells #[.int .i64 (max x1 t), .int .i64 x2] 33)).drew = wb at HOB HUB HB1 HB2
      generalize wa.heap.size = G2 at HB2 HN2 hG12
      have HRLA := hide (show R.length + 2 ≤ 2 * l.length by have := HRL.out; omega)
      generalize min x2 f = p2 at HSN HB1 ⊢
      generalize max x1 t = q1 at HSN HB2 ⊢
      have b1 : wb.cell? ⟨G1, 0, none⟩ = some (.int .i64 x1) := by rw [cell_of_row wb G1 _ _ _ _ HB1.out]; rfl
      have b2 : wb.cell? ⟨G1, 1, none⟩ = some (.int .i64 p2) := by rw [cell_of_row wb G1 _ _ _ _ HB1.out]; rfl
      have b3 : wb.cell? ⟨G2, 0, none⟩ = some (.int .i64 q1) := by rw [cell_of_row wb G2 _ _ _ _ HB2.out]; rfl
      have b4 : wb.cell? ⟨G2, 1, none⟩ = some (.int .i64 x2) := by rw [cell_of_row wb G2 _ _ _ _ HB2.out]; rfl
      by_cases hA : x1 < p2
      · rw [if_pos hA] at HSN
        by_cases hB : q1 < x2
        · rw [if_pos hB] at HSN
          go_wp2_with (first | (at_builtin; (refine wpL_app rfl _ _ _ rfl w.heap.size 33 _ 2 16 Try.underlying30 elem_rng (.slice a1 (R.length) c1) (R.length) (flat R) rfl (Upd.own (S := none_) ((Upd.refl none_ wb).alloc _) HOB.out (fun _ _ => id)) (F := fun _ => True) (some ⟨wb.heap.size, 0, none⟩) 1 1 [.int .i64 x1, .int .i64 p2] rfl (rd_row1 (by repeat' first | assumption | (refine heapA_at _ _ _ ?_; first | rfl | (simp; done) | omega) | (refine (heapA_past _ _ _ ?_).trans ?_; · first | (simp; done) | (simp; omega)) | refine (heapN _ _ _).trans ?_ | refine (heapD _ _).trans ?_) trivial) (fun u hu => by simp at hu; rcases hu with rfl | rfl <;> rfl) (by have := HRLA.out; omega) (by have := HRLA.out; omega) (HUB.out.alloc _).size ?_; intro v' wc hown hu hmv _ _; obtain ⟨a2, c2, rfl⟩ := own_shape hown; obtain ⟨hu2, hkp⟩ := app_keep HUB.out HOB.out (Nat.le_refl _) hu; have hb3 := hkp G2 _ HB2.out HN2.out; have HUC := hide hu2; have HOC := hide hown; have d1 : wc.cell? ⟨G2, 0, none⟩ = some (.int .i64 q1) := (by rw [cell_of_row wc G2 _ _ _ _ hb3]; rfl); have d2 : wc.cell? ⟨G2, 1, none⟩ = some (.int .i64 x2) := (by rw [cell_of_row wc G2 _ _ _ _ hb3]; rfl); clear hb3 hkp hu2 hu hown hmv)) | (at_builtin; (refine wpL_app rfl _ _ _ rfl w.heap.size 33 _ 2 16 Try.underlying30 elem_rng (.slice a2 (R.length + 1) c2) (R.length + 1) (flat R ++ [.int .i64 x1, .int .i64 p2]) rfl (Upd.own (S := none_) ((Upd.refl none_ wc).alloc _) HOC.out (fun _ _ => id)) (F := fun _ => True) (some ⟨wc.heap.size, 0, none⟩) 1 1 [.int .i64 q1, .int .i64 x2] rfl (rd_row1 (by repeat' first | assumption | (refine heapA_at _ _ _ ?_; first | rfl | (simp; done) | omega) | (refine (heapA_past _ _ _ ?_).trans ?_; · first | (simp; done) | (simp; omega)) | refine (heapN _ _ _).trans ?_ | refine (heapD _ _).trans ?_) trivial) (fun u hu => by simp at hu; rcases hu with rfl | rfl <;> rfl) (by have := HRLA.out; omega) (by have := HRLA.out; omega) (HUC.out.alloc _).size ?_; intro v' wd hown hu hmv _ _; obtain ⟨a3, c3, rfl⟩ := own_shape hown; obtain ⟨hu3, -⟩ := app_keep HUC.out HOC.out (Nat.le_refl _) hu; have HUD := hide hu3; have HOD := hide hown; clear hu3 hu hown hmv)))
          go_roundw
          case rel =>
            have hz : rests f t (l.take (k + 1)) = R ++ [(x1, p2)] ++ [(q1, x2)] := by rw [HSN.out]; simp
            refine ⟨k + 1, a3, c3, by omega, by go_num, ?_, ?_, HUD.out⟩
            · rw [hz]; try simp
            · rw [hz]; simpa [flat] using HOD.out
          case measure => simp [intOf]; omega

        · rw [if_neg hB] at HSN
          go_wp2_with (at_builtin; (refine wpL_app rfl _ _ _ rfl w.heap.size 33 _ 2 16 Try.underlying30 elem_rng (.slice a1 (R.length) c1) (R.length) (flat R) rfl (Upd.own (S := none_) ((Upd.refl none_ wb).alloc _) HOB.out (fun _ _ => id)) (F := fun _ => True) (some ⟨wb.heap.size, 0, none⟩) 1 1 [.int .i64 x1, .int .i64 p2] rfl (rd_row1 (by repeat' first | assumption | (refine heapA_at _ _ _ ?_; first | rfl | (simp; done) | omega) | (refine (heapA_past _ _ _ ?_).trans ?_; · first | (simp; done) | (simp; omega)) | refine (heapN _ _ _).trans ?_ | refine (heapD _ _).trans ?_) trivial) (fun u hu => by simp at hu; rcases hu with rfl | rfl <;> rfl) (by have := HRLA.out; omega) (by have := HRLA.out; omega) (HUB.out.alloc _).size ?_; intro v' wc hown hu hmv _ _; obtain ⟨a2, c2, rfl⟩ := own_shape hown; obtain ⟨hu2, hkp⟩ := app_keep HUB.out HOB.out (Nat.le_refl _) hu; have hb3 := hkp G2 _ HB2.out HN2.out; have HUC := hide hu2; have HOC := hide hown; have d1 : wc.cell? ⟨G2, 0, none⟩ = some (.int .i64 q1) := (by rw [cell_of_row wc G2 _ _ _ _ hb3]; rfl); have d2 : wc.cell? ⟨G2, 1, none⟩ = some (.int .i64 x2) := (by rw [cell_of_row wc G2 _ _ _ _ hb3]; rfl); clear hb3 hkp hu2 hu hown hmv))
          go_roundw
          case rel =>
            have hz : rests f t (l.take (k + 1)) = R ++ [(x1, p2)] := by rw [HSN.out]; simp
            refine ⟨k + 1, a2, c2, by omega, by go_num, ?_, ?_, HUC.out⟩
            · rw [hz]; try simp
            · rw [hz]; simpa [flat] using HOC.out
          case measure => simp [intOf]; omega

      · rw [if_neg hA] at HSN
        by_cases hB : q1 < x2
        · rw [if_pos hB] at HSN
          go_wp2_with (at_builtin; (refine wpL_app rfl _ _ _ rfl w.heap.size 33 _ 2 16 Try.underlying30 elem_rng (.slice a1 (R.length) c1) (R.length) (flat R) rfl (Upd.own (S := none_) ((Upd.refl none_ wb).alloc _) HOB.out (fun _ _ => id)) (F := fun _ => True) (some ⟨wb.heap.size, 0, none⟩) 1 1 [.int .i64 q1, .int .i64 x2] rfl (rd_row1 (by repeat' first | assumption | (refine heapA_at _ _ _ ?_; first | rfl | (simp; done) | omega) | (refine (heapA_past _ _ _ ?_).trans ?_; · first | (simp; done) | (simp; omega)) | refine (heapN _ _ _).trans ?_ | refine (heapD _ _).trans ?_) trivial) (fun u hu => by simp at hu; rcases hu with rfl | rfl <;> rfl) (by have := HRLA.out; omega) (by have := HRLA.out; omega) (HUB.out.alloc _).size ?_; intro v' wd hown hu hmv _ _; obtain ⟨a3, c3, rfl⟩ := own_shape hown; obtain ⟨hu3, -⟩ := app_keep HUB.out HOB.out (Nat.le_refl _) hu; have HUD := hide hu3; have HOD := hide hown; clear hu3 hu hown hmv))
          go_roundw
          case rel =>
            have hz : rests f t (l.take (k + 1)) = R ++ [(q1, x2)] := by rw [HSN.out]; simp
            refine ⟨k + 1, a3, c3, by omega, by go_num, ?_, ?_, HUD.out⟩
            · rw [hz]; try simp
            · rw [hz]; simpa [flat] using HOD.out
          case measure => simp [intOf]; omega

        · rw [if_neg hB] at HSN
          go_wp2_with fail
          go_roundw
          case rel =>
            have hz : rests f t (l.take (k + 1)) = R := by rw [HSN.out]; simp
            refine ⟨k + 1, a1, c1, by omega, by go_num, ?_, ?_, HUB.out⟩
            · rw [hz]; try simp
            · rw [hz]; simpa [flat] using HOB.out
          case measure => simp [intOf]; omega

    · obtain rfl : k = l.length := by omega
      rw [List.take_length] at HO1
      go_wp2_with fail
      go_ret
      exact ⟨a1, c1, _, rfl, by rw [List.take_length], by rw [List.take_length]; exact HO1.out, HU.out⟩
end Go.Proofs.Ytjjiemicacbmaaa
