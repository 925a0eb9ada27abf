/- Contracts of package ranges: at, Has, Next, Gap, Covers. -/
import Derived.Test.YtjjiemicacbmaaaRg2
namespace Go.Proofs.Ytjjiemicacbmaaa
open Go.RowKit Go.Shelf

/-- What at answers, where its search ends at j. -/
def atR (l : List (Int × Int)) (n : Int) (j : Nat) : (Int × Int) × Bool :=
  if j < l.length then (if (l.getD j (0, 0)).1 ≤ n then (l.getD j (0, 0), true) else ((0, 0), false)) else ((0, 0), false)

def atL (l : List (Int × Int)) (n : Int) : (Int × Int) × Bool := atR l n (bs (pAt l n) l.length)

set_option maxHeartbeats 1000000 in
theorem at_any (b : Nat) (o : Option Nat) (l : List (Int × Int)) (n : Int) (w : World) (h : RG w b o l) (hn : l.length < 4611686018427387904) :
    Calls Try.prog 79 #[.pointer (some ⟨b, 0, none⟩), .int .i64 n] w fun e w' =>
      e = .returned (.tuple #[.agg #[.int .i64 (atL l n).1.1, .int .i64 (atL l n).1.2], .bool (atL l n).2]) ∧ Upd none_ w w' := by
  obtain ⟨a, cap, hc, hcap, hb, -, -, hk⟩ := h.slice
  have hlt : b < w.heap.size := World.block_lt_of_cell? w _ hc
  have hlt1 : b < w.heap.size + 1 := by omega
  have hlt2 : b < w.heap.size + 1 + 1 := by omega
  have hcl := hide (RG.closures h)
  have HK := hide hk
  clear hk h
  obtain ⟨j, hj⟩ : ∃ j, bs (pAt l n) l.length = j := ⟨_, rfl⟩
  have hjl : (j : Int) ≤ (l.length : Int) := by have := (bs_spec (pAt l n) l.length).1; omega
  rw [show atL l n = atR l n j by rw [← hj]; rfl]
  have HJ := hide hj
  clear hj
  go_enter Try.func79, Try.ntmps79
  go_wp2_with (go_at_call 77; ((with_reducible refine (search_any 96 _ l.length (pAt l n) _ enters96 hn ?hf1).mono ?_); rotate_left; rintro e w' ⟨rfl, q, rfl⟩; rw [HJ.out]))
  case hf1 => exact (hcl.out n _ _ _ ((((Upd.refl _ _).alloc _).alloc _).alloc _) (by go_simp) (by go_simp)).2.2.1
  by_cases hjn : j < l.length
  · obtain ⟨g, rfl, -, e1, e2⟩ := HK.out j hjn
    have hgl : g < w.heap.size := World.block_lt_of_cell? w _ e1
    have hgl1 : g < w.heap.size + 1 := by omega
    have hgl2 : g < w.heap.size + 1 + 1 := by omega
    have hne : ((j : Int) == (l.length : Int)) = false := by simp; omega
    have hji : (j : Int) < (l.length : Int) := by omega
    have hat : atR l n j = if (l.getD j (0, 0)).1 ≤ n then (l.getD j (0, 0), true) else ((0, 0), false) := by unfold atR; rw [if_pos hjn]
    have HAT := hide hat
    clear hat
    generalize l.getD j (0, 0) = x at e1 e2 HAT
    obtain ⟨x1, x2⟩ := x
    simp only at e1 e2
    by_cases hle : x1 ≤ n
    · go_quiet (fail)
      go_wp2
      refine bodyPost_ret (v := .tuple #[.agg #[.int .i64 x1, .int .i64 x2], .bool true]) (by simp [results, Try.results79, go_sem]) rfl ⟨?_, (by repeat' first | exact Upd.refl _ _ | assumption | apply Upd.drewN | apply Upd.drew | apply Upd.alloc | (refine Upd.setCell ?_ (fun hh => by exfalso; revert hh; simp; try omega) _))⟩
      rw [HAT.out, if_pos hle]
    · go_quiet (fail)
      go_wp2
      refine bodyPost_ret (v := .tuple #[.agg #[.int .i64 0, .int .i64 0], .bool false]) (by simp [results, Try.results79, go_sem]) rfl ⟨?_, (by repeat' first | exact Upd.refl _ _ | assumption | apply Upd.drewN | apply Upd.drew | apply Upd.alloc | (refine Upd.setCell ?_ (fun hh => by exfalso; revert hh; simp; try omega) _))⟩
      rw [HAT.out, if_neg (by omega)]
  · obtain rfl : j = l.length := by omega
    have HAT := hide (show atR l n l.length = ((0, 0), false) by unfold atR; rw [if_neg hjn])
    go_quiet (fail)
    go_wp2
    refine bodyPost_ret (v := .tuple #[.agg #[.int .i64 0, .int .i64 0], .bool false]) (by simp [results, Try.results79, go_sem]) rfl ⟨?_, (by repeat' first | exact Upd.refl _ _ | assumption | apply Upd.drewN | apply Upd.drew | apply Upd.alloc | (refine Upd.setCell ?_ (fun hh => by exfalso; revert hh; simp; try omega) _))⟩
    rw [HAT.out]
end Go.Proofs.Ytjjiemicacbmaaa
