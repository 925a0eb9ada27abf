/- Package inbox: Beyond. -/
import Derived.Test.YtjjiemicacbmaaaIn5
namespace Go.Proofs.Ytjjiemicacbmaaa
open Go.RowKit Go.Shelf

/-- The rows above the first number that is not there, the first eight. -/
def beyondF (l : List (Int × Int)) (done : Int) : List (Int × Int) := l.filter fun x => !decide (x.1 ≤ nextL l done)
def beyondL (l : List (Int × Int)) (done : Int) : List (Int × Int) := (beyondF l done).take 8

/-- x[:k] of an own row lies where it lay. -/
theorem own_hi {P : Program} {w : World} {base E sz n c : Nat} {a : Option Addr} {xs : List Value} (t e : TypeId) (ht : P.underlying t = some (.slice e)) (hsz : (P.info? e).map (·.size) = some sz) (h : w.ownsRow base E sz (.slice a n c) n xs) (k : Nat) (hk : k ≤ n) :
    ∀ W, (Instr.sliceAt t (.slice a n c) none (some (.int .i64 (k : Int))) none).run P W = .ok (.slice a k c) W := by
  intro W
  obtain ⟨hc, -⟩ := rd_own' h
  rw [run_slice_rd_hi t e ht sz hsz a n c k (by omega) .i64]
  rcases h.2 with ⟨h2, -⟩ | ⟨g, cap, cur, he, -⟩
  · injection h2 with e1 e2 e3
    subst e1 e3
    simp
  · injection he with e1 _ _
    subst e1
    simp [addr_add]

set_option maxHeartbeats 1000000 in
theorem beyond1_any (x : Int × Int) (bh : Nat) (here : Int) (w : World) (h : w.cell? ⟨bh, 0, none⟩ = some (.int .i64 here)) :
    Calls Try.prog 84 #[.agg #[.int .i64 x.1, .int .i64 x.2], .pointer (some ⟨bh, 0, none⟩)] w fun e w' => e = .returned (.bool (decide (x.1 ≤ here))) ∧ Upd none_ w w' := by
  obtain ⟨x1, x2⟩ := x
  have hl := World.block_lt_of_cell? w _ h
  simp only at hl
  go_enter Try.func84, Try.ntmps84
  go_wp2_with fail
  go_ret
  exact ⟨rfl, (Upd.refl _ _).alloc _⟩

set_option maxRecDepth 20000 in
set_option maxHeartbeats 4000000 in
theorem ibeyond_any (bx bi : Nat) (o ob : Option Nat) (size done : Int) (buf : List UInt8) (l : List (Int × Int)) (w : World) (h : IX w bx bi o ob size done buf l) (hn : l.length * 16 ≤ 140737488355328) :
    Calls Try.prog 41 #[.pointer (some ⟨bx, 0, none⟩)] w fun e w' => ∃ a c m, e = .returned (.slice a m c) ∧ m = (beyondL l done).length ∧ w'.ownsRow w.heap.size 33 2 (.slice a m c) m (flat (beyondL l done)) ∧ Upd none_ w w' := by
  have hmn := run_min2 Try.prog
  have hhe := ihere_any bx bi o ob size done buf l w h (by omega)
  obtain ⟨a, c, -, -, -, e3, -, hlt, -, -, -, hR⟩ := h.cells
  unfold beyondL beyondF
  generalize nextL l done = here at hhe
  have HLI := hide (show ∀ W, Upd none_ w W → Calls Try.prog 17 #[.pointer (some ⟨bi, 0, none⟩)] W fun e w' => ∃ a' c', e = .returned (.slice a' l.length c') ∧ w'.ownsRow W.heap.size 33 2 (.slice a' l.length c') l.length (flat l) ∧ Upd none_ W w' from
    fun W hW => list_any bi o l W (hR.keep hW) (by omega))
  have hdf := fun (W : World) (a' : Option Addr) (c' bh : Nat) (hb : W.heap[bh]? = some (.cells #[.int .i64 here] 3 (0, 0))) (B : Nat) (ho : W.ownsRow B 33 2 (.slice a' l.length c') l.length (flat l)) =>
    delfunc_any B a' c' l (fun x => decide (x.1 ≤ here)) 84 #[.pointer (some ⟨bh, 0, none⟩)] W ho (enters_of Try.func84 (by kernel_rfl) rfl) (by omega) (fun W' x hW' => beyond1_any x bh here W' (cell_of_one (hW'.heap hb (fun e => by
      obtain ⟨cur, hc⟩ := own_blk ho e
      exact ne_of_type hc hb (by decide) rfl))))
  have HDF := hide hdf
  clear hdf h hR
  go_enter Try.func41, Try.ntmps41
  go_wp2_with fail
  refine hhe.mono ?_
  clear hhe
  rintro e w1 ⟨rfl, hu1⟩
  have hU1 : Upd none_ w (w1.alloc (.cells #[.int .i64 here] 3)) := hu1.alloc _
  have d3 := hu1.cell e3 id
  have hb1 : (w1.alloc (.cells #[.int .i64 here] 3)).heap[w1.heap.size]? = some (.cells #[.int .i64 here] 3 (0, 0)) := heapA_at _ _ _ rfl
  have hlt1 : bx < w1.heap.size := World.block_lt_of_cell? w1 _ d3
  have HU1 := hide hU1
  have HB1 := hide hb1
  clear hu1 hU1 hb1 e3 hlt
  go_wp2_with fail
  refine (HLI.out _ HU1.out).mono ?_
  rintro e w2 ⟨a2, c2, rfl, hown2, hu2⟩
  have HB2 := hide (hu2.heap HB1.out id)
  have HO2 := hide hown2
  have HU2 := hide (HU1.out.trans hu2)
  have HW1 := hide (show w.heap.size ≤ (w1.alloc (.cells #[.int .i64 here] 3)).heap.size from HU1.out.size)
  clear d3 hown2 hu2
  go_wp2_with fail
  refine (HDF.out w2 a2 c2 _ HB2.out _ HO2.out).mono ?_
  rintro e w3 ⟨m, hm, rfl, hown3, hu3⟩
  obtain ⟨k, hk⟩ : ∃ k : Nat, min (m : Int) 8 = (k : Int) := ⟨min m 8, by omega⟩
  have hmn8 : ∀ ats t W, (Builtin.min_ ats t #[.int .i64 (m : Int), .int .i64 8]).run Try.prog W = .ok (.int .i64 k) W := fun ats t W => by rw [hmn, hk]
  have hcut := own_hi (P := Try.prog) 30 33 Try.underlying30 elem_rng.size hown3 k (by omega)
  have hgen : ∀ g, (Value.slice a2 l.length c2).ownBlock = some g → w.heap.size ≤ g := fun g hg => Nat.le_trans HW1.out (own_ge HO2.out g hg)
  have HO4 := hide (own_take hown3 k (by omega))
  have HK := hide (And.intro hm hk)
  have HU3 := hide (HU2.out.trans' hu3 (fun i hi e => absurd (hgen i e) (by omega)))
  have HGEN := hide hgen
  clear hown3 hu3 hm hk hgen hmn
  go_wp2_with fail
  go_ret
  obtain ⟨hm, hk⟩ := HK.out
  have hkl : k = ((l.filter fun x => !decide (x.1 ≤ here)).take 8).length := by rw [List.length_take, ← hm]; omega
  have hT : (flat (l.filter fun x => !decide (x.1 ≤ here))).take (k * 2) = flat ((l.filter fun x => !decide (x.1 ≤ here)).take 8) := by
    rw [flat_take, hkl, List.length_take]
    congr 1
    rw [← List.take_take, List.take_length]
  have ho := HO4.out
  rw [hT] at ho
  exact ⟨a2, c2, k, rfl, hkl, own_base ho _ (fun g hg => by cases a2 with
    | none => cases hg
    | some x => exact HGEN.out g hg), HU3.out⟩
end Go.Proofs.Ytjjiemicacbmaaa
