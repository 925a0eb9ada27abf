/- Package inbox: what a block of it holds; the contracts of New, Limit, Done, Here, Held. -/
import Derived.Test.YtjjiemicacbmaaaRg13
import Derived.Deep.RegionHeld3
import Derived.Deep.DeepCutAuto
import Derived.Deep.CutBlock
import Derived.Deep.RegionLaw
namespace Go.Proofs.Ytjjiemicacbmaaa
open Go.RowKit Go.Shelf

/-- Bytes as cells. -/
def u8s (l : List UInt8) : List Value := l.map fun c => .int .u8 (c.toNat : Int)
theorem u8s_length (l : List UInt8) : (u8s l).length = l.length := by simp [u8s]
theorem u8s_append (l m : List UInt8) : u8s (l ++ m) = u8s l ++ u8s m := by simp [u8s]
theorem u8s_take (l : List UInt8) (k : Nat) : u8s (l.take k) = (u8s l).take k := by simp [u8s, List.map_take]
theorem u8s_drop (l : List UInt8) (k : Nat) : u8s (l.drop k) = (u8s l).drop k := by simp [u8s, List.map_drop]
theorem u8s_one (l : List UInt8) : ∀ v ∈ u8s l, v.oneCell' = true := by
  intro v hv
  simp only [u8s, List.mem_map] at hv
  obtain ⟨x, _, rfl⟩ := hv
  rfl
theorem u8s_get (l : List UInt8) (k : Nat) (hk : k < l.length) : (u8s l)[k]? = some (.int .u8 (l[k].toNat : Int)) := by simp [u8s, hk]
theorem zeros_u8 (n : Nat) : zeros (.int .u8 0) n = u8s (List.replicate n 0) := by rw [zeros_int]; simp [u8s]

/-- A block holds an inbox; its ranges' block, their row, its bytes' row. -/
def IX (w : World) (bx bi : Nat) (o ob : Option Nat) (size done : Int) (buf : List UInt8) (l : List (Int × Int)) : Prop :=
  ∃ v, w.heap[bx]? = some (.cells #[.int .i64 size, .int .i64 done, v, .pointer (some ⟨bi, 0, none⟩)] 99 (0, 0)) ∧ w.ownsRow 0 5 1 v buf.length (u8s buf) ∧ v.ownBlock = ob ∧ RG w bi o l
/-- Its blocks. -/
def ft (bx bi : Nat) (o ob : Option Nat) : Nat → Prop := fun k => k = bx ∨ k = bi ∨ o = some k ∨ ob = some k

theorem ne_of_type {w : World} {k k' : Nat} {c c' : Array Value} {T T' : TypeId} {f f' : Nat × Nat} (h : w.heap[k]? = some (.cells c T f)) (h' : w.heap[k']? = some (.cells c' T' f')) (hne : T ≠ T') : k ≠ k' := by
  rintro rfl
  rw [h] at h'
  injection h' with h'
  injection h' with _ h2 _
  exact hne h2
theorem own_blk {w : World} {base e sz n : Nat} {v : Value} {xs : List Value} (h : w.ownsRow base e sz v n xs) {g : Nat} (hg : v.ownBlock = some g) : ∃ cur, w.heap[g]? = some (.cells cur e (0, 0)) := by
  obtain ⟨c, L, -, -, -, -, h5, -⟩ := own_row h hg
  exact ⟨_, h5⟩
theorem RG.blk {w : World} {b : Nat} {o : Option Nat} {l : List (Int × Int)} (h : RG w b o l) : ∃ v, w.heap[b]? = some (.cells #[v] 89 (0, 0)) := by
  obtain ⟨v, h1, -⟩ := h; exact ⟨v, h1⟩
theorem RG.row {w : World} {b : Nat} {o : Option Nat} {l : List (Int × Int)} (h : RG w b o l) {g : Nat} (hg : o = some g) : ∃ cur, w.heap[g]? = some (.cells cur 33 (0, 0)) := by
  obtain ⟨v, h1, h2, rfl⟩ := h; exact own_blk h2 hg

theorem IX.upd {S : Nat → Prop} {w w' : World} {bx bi : Nat} {o ob : Option Nat} {size done : Int} {buf : List UInt8} {l : List (Int × Int)} (h : IX w bx bi o ob size done buf l) (hu : Upd S w w') (hs : ∀ k, ft bx bi o ob k → ¬ S k) : IX w' bx bi o ob size done buf l := by
  obtain ⟨v, h1, h2, rfl, h4⟩ := h
  exact ⟨v, hu.heap h1 (hs _ (.inl rfl)), hu.own h2 (fun g hg => hs g (.inr (.inr (.inr hg)))), rfl, h4.upd hu (hs _ (.inr (.inl rfl))) (fun g hg => hs g (.inr (.inr (.inl hg))))⟩
theorem IX.keep {w w' : World} {bx bi : Nat} {o ob : Option Nat} {size done : Int} {buf : List UInt8} {l : List (Int × Int)} (h : IX w bx bi o ob size done buf l) (hu : Upd none_ w w') : IX w' bx bi o ob size done buf l := h.upd hu fun _ _ => id
theorem IX.lt {w : World} {bx bi : Nat} {o ob : Option Nat} {size done : Int} {buf : List UInt8} {l : List (Int × Int)} (h : IX w bx bi o ob size done buf l) {k : Nat} (hk : ft bx bi o ob k) : k < w.heap.size := by
  obtain ⟨v, h1, h2, rfl, h4⟩ := h
  rcases hk with rfl | rfl | hk | hk
  · exact lt_of_block h1
  · exact h4.lt
  · exact h4.olt k hk
  · exact own_lt h2 k hk
/-- Its cells. -/
theorem IX.cells {w : World} {bx bi : Nat} {o ob : Option Nat} {size done : Int} {buf : List UInt8} {l : List (Int × Int)} (h : IX w bx bi o ob size done buf l) :
    ∃ a c, w.cell? ⟨bx, 0, none⟩ = some (.int .i64 size) ∧ w.cell? ⟨bx, 1, none⟩ = some (.int .i64 done) ∧ w.cell? ⟨bx, 2, none⟩ = some (.slice a buf.length c) ∧ w.cell? ⟨bx, 3, none⟩ = some (.pointer (some ⟨bi, 0, none⟩)) ∧ (∀ j, w.frozen? ⟨bx, j, none⟩ = false) ∧ bx < w.heap.size ∧
      w.heap[bx]? = some (.cells #[.int .i64 size, .int .i64 done, .slice a buf.length c, .pointer (some ⟨bi, 0, none⟩)] 99 (0, 0)) ∧ w.ownsRow 0 5 1 (.slice a buf.length c) buf.length (u8s buf) ∧ (Value.slice a buf.length c).ownBlock = ob ∧ RG w bi o l := by
  obtain ⟨v, h1, h2, rfl, h4⟩ := h
  obtain ⟨a, c, rfl⟩ := own_shape h2
  exact ⟨a, c, by rw [cell_of_row w bx _ _ _ _ h1]; rfl, by rw [cell_of_row w bx _ _ _ _ h1]; rfl, by rw [cell_of_row w bx _ _ _ _ h1]; rfl, by rw [cell_of_row w bx _ _ _ _ h1]; rfl, fun j => frozen_of_row w bx j _ _ h1, lt_of_block h1, h1, h2, rfl, h4⟩
/-- Its blocks are four. -/
theorem IX.apart {w : World} {bx bi : Nat} {o ob : Option Nat} {size done : Int} {buf : List UInt8} {l : List (Int × Int)} (h : IX w bx bi o ob size done buf l) :
    bx ≠ bi ∧ o ≠ some bx ∧ ob ≠ some bx ∧ ob ≠ some bi ∧ (∀ g, ob = some g → o ≠ some g) := by
  obtain ⟨v, h1, h2, rfl, h4⟩ := h
  obtain ⟨u, h5⟩ := h4.blk
  refine ⟨ne_of_type h1 h5 (by decide), fun e => ?_, fun e => ?_, fun e => ?_, fun g e e' => ?_⟩
  · obtain ⟨cur, h6⟩ := h4.row e
    exact ne_of_type h1 h6 (by decide) rfl
  · obtain ⟨cur, h6⟩ := own_blk h2 e
    exact ne_of_type h1 h6 (by decide) rfl
  · obtain ⟨cur, h6⟩ := own_blk h2 e
    exact ne_of_type h5 h6 (by decide) rfl
  · obtain ⟨cur, h6⟩ := own_blk h2 e
    obtain ⟨cur', h7⟩ := h4.row e'
    exact ne_of_type h6 h7 (by decide) rfl

set_option maxHeartbeats 1000000 in
theorem inew_any (size : Int) (w : World) :
    Calls Try.prog 35 #[.int .i64 size] w fun e w' => ∃ bx bi, e = .returned (.pointer (some ⟨bx, 0, none⟩)) ∧ IX w' bx bi none none (max 1 (min size 1048576)) 0 [] [] ∧ w.heap.size ≤ bx ∧ w.heap.size ≤ bi ∧ Upd none_ w w' := by
  have hmx := run_max2 Try.prog
  have hmn := run_min2 Try.prog
  go_enter Try.func35, Try.ntmps35
  go_wp2_with fail
  refine (rnew_any _).mono ?_
  rintro e w1 ⟨bi, rfl, hr, hbi, hu⟩
  go_wp2_with fail
  go_ret
  have hu2 : Upd none_ w1 (w1.alloc (.cells #[.int .i64 (max 1 (min size 1048576)), .int .i64 0, .slice none 0 0, .pointer (some ⟨bi, 0, none⟩)] 99)) := (Upd.refl _ _).alloc _
  exact ⟨_, bi, rfl, ⟨_, heapA_at _ _ _ rfl, World.ownsRow_nil _ _ _ _, rfl, hr.keep hu2⟩, hu.size, hbi, hu.trans hu2⟩

set_option maxHeartbeats 1000000 in
theorem ilimit_any (bx bi : Nat) (o ob : Option Nat) (size done : Int) (buf : List UInt8) (l : List (Int × Int)) (w : World) (h : IX w bx bi o ob size done buf l) (hs : 0 ≤ size ∧ size ≤ 4611686018427387904) (hd : 0 ≤ done ∧ done ≤ 2305843009213693952) :
    Calls Try.prog 42 #[.pointer (some ⟨bx, 0, none⟩)] w fun e w' => e = .returned (.int .i64 (done + size)) ∧ Upd none_ w w' := by
  obtain ⟨a, c, e0, e1, -⟩ := h.cells
  have hw : IntKind.i64.wrap (done + size) = done + size := IntWalk.i64_in _ (by omega)
  clear h hs hd
  go_enter Try.func42, Try.ntmps42
  go_wp2_with fail
  go_quiet (fail)
  go_wp2_with fail
  go_ret
  exact ⟨rfl, (Upd.refl _ _).drewN _⟩

theorem idone_any (bx bi : Nat) (o ob : Option Nat) (size done : Int) (buf : List UInt8) (l : List (Int × Int)) (w : World) (h : IX w bx bi o ob size done buf l) :
    Calls Try.prog 40 #[.pointer (some ⟨bx, 0, none⟩)] w fun e w' => e = .returned (.int .i64 done) ∧ Upd none_ w w' := by
  obtain ⟨a, c, e0, e1, -⟩ := h.cells
  clear h
  go_enter Try.func40, Try.ntmps40
  go_wp2_with fail
  go_ret
  exact ⟨rfl, Upd.refl _ _⟩

set_option maxHeartbeats 4000000 in
theorem ihere_any (bx bi : Nat) (o ob : Option Nat) (size done : Int) (buf : List UInt8) (l : List (Int × Int)) (w : World) (h : IX w bx bi o ob size done buf l) (hn : l.length < 4611686018427387904) :
    Calls Try.prog 43 #[.pointer (some ⟨bx, 0, none⟩)] w fun e w' => e = .returned (.int .i64 (nextL l done)) ∧ Upd none_ w w' := by
  obtain ⟨a, c, e0, e1, e2, e3, -, -, -, -, -, hR⟩ := h.cells
  have HNX := hide (show ∀ W, (Upd none_ w W ∧ W.cell? ⟨bx, 1, none⟩ = some (.int .i64 done) ∧ W.cell? ⟨bx, 3, none⟩ = some (.pointer (some ⟨bi, 0, none⟩))) → Calls Try.prog 30 #[.pointer (some ⟨bi, 0, none⟩), .int .i64 done] W fun e w' => e = .returned (.int .i64 (nextL l done)) ∧ Upd none_ w w' from
    fun W hW => (next_any bi o l done W (hR.keep hW.1) hn).mono fun e w' ⟨h1, h2⟩ => ⟨h1, hW.1.trans h2⟩)
  clear h hR e0 e2
  go_enter Try.func43, Try.ntmps43
  go_wp2_with fail
  go_region_held3 (fun W => Upd none_ w W ∧ W.cell? ⟨bx, 1, none⟩ = some (.int .i64 done) ∧ W.cell? ⟨bx, 3, none⟩ = some (.pointer (some ⟨bi, 0, none⟩))) (first | exact ⟨(Upd.refl none_ w).drew, e1, e3⟩ | exact ⟨hu, hu.cell e1 id, hu.cell e3 id⟩)
    (first | (go_at_call 30; refine (HNX.out _ (by assumption)).mono ?_; rintro e w' ⟨rfl, hu⟩))
  have HU := hide hu
  clear hu
  go_wp2_with fail
  go_ret
  exact ⟨rfl, HU.out⟩

set_option maxHeartbeats 4000000 in
theorem iheld_any (bx bi : Nat) (o ob : Option Nat) (size done : Int) (buf : List UInt8) (l : List (Int × Int)) (w : World) (h : IX w bx bi o ob size done buf l) (hw : WF l) (hn : l.length * 48 ≤ 140737488355328) :
    Calls Try.prog 39 #[.pointer (some ⟨bx, 0, none⟩)] w fun e w' => e = .returned (.int .i64 (tot (cutL l 0 done).2)) ∧ Upd none_ w w' := by
  obtain ⟨a, c, e0, e1, e2, e3, -, -, -, -, -, hR⟩ := h.cells
  obtain ⟨cw, -, c3, -, -⟩ := cut_law hw 0 done
  have b1 := hw.tot
  have b2 := cw.tot
  have hsub : IntKind.i64.wrap (tot l - (cutL l 0 done).1) = tot (cutL l 0 done).2 := by rw [c3, IntWalk.i64_in _ (by omega)]; omega
  have HTO := hide (show ∀ W, (Upd none_ w W ∧ W.cell? ⟨bx, 1, none⟩ = some (.int .i64 done) ∧ W.cell? ⟨bx, 3, none⟩ = some (.pointer (some ⟨bi, 0, none⟩))) → Calls Try.prog 27 #[.pointer (some ⟨bi, 0, none⟩)] W fun e w' => e = .returned (.int .i64 (tot l)) ∧ Upd none_ w w' from
    fun W hW => by rw [← hw.many]; exact (total_any bi o l W (hR.keep hW.1) (by omega)).mono fun e w' ⟨h1, h2⟩ => ⟨h1, hW.1.trans h2⟩)
  have HCL := hide (show ∀ W, (Upd none_ w W ∧ W.cell? ⟨bx, 1, none⟩ = some (.int .i64 done) ∧ W.cell? ⟨bx, 3, none⟩ = some (.pointer (some ⟨bi, 0, none⟩))) → Calls Try.prog 25 #[.pointer (some ⟨bi, 0, none⟩)] W fun e w' =>
      ∃ b' o', e = .returned (.pointer (some ⟨b', 0, none⟩)) ∧ (RG w' b' o' l ∧ w.heap.size ≤ b' ∧ Fresh w o') ∧ Upd none_ w w' from
    fun W hW => (rclone_any bi o l W (hR.keep hW.1) (by omega)).mono fun e w' ⟨b', o', h1, h2, h3, h4, h5⟩ => ⟨b', o', h1, ⟨h2, Nat.le_trans hW.1.size h3, fun g hg => Nat.le_trans hW.1.size (h4 g hg)⟩, hW.1.trans h5⟩)
  have HCU := hide (show ∀ W b' o', (Upd none_ w W ∧ W.cell? ⟨bx, 1, none⟩ = some (.int .i64 done) ∧ W.cell? ⟨bx, 3, none⟩ = some (.pointer (some ⟨bi, 0, none⟩))) → (RG W b' o' l ∧ w.heap.size ≤ b' ∧ Fresh w o') → Calls Try.prog 23 #[.pointer (some ⟨b', 0, none⟩), .int .i64 0, .int .i64 done] W fun e w' =>
      e = .returned (.int .i64 (cutL l 0 done).1) ∧ Upd none_ w w' from
    fun W b' o' hW hR' => (cut_any b' o' l 0 done W hR'.1 hn).mono fun e w' ⟨_, h1, _, h3⟩ => ⟨h1, Upd.trans' hW.1 h3.1 (fun i hi e => e.elim (fun e => absurd hR'.2.1 (by omega)) (fun e => absurd (hR'.2.2 i e) (by omega)))⟩)
  clear h hR e0 e2 c3 b1 b2 cw
  generalize (cutL l 0 done).1 = C at hsub HCU
  generalize tot (cutL l 0 done).2 = R at hsub ⊢
  generalize tot l = T at hsub HTO
  go_enter Try.func39, Try.ntmps39
  go_wp2_with fail
  go_region_held3 (fun W => Upd none_ w W ∧ W.cell? ⟨bx, 1, none⟩ = some (.int .i64 done) ∧ W.cell? ⟨bx, 3, none⟩ = some (.pointer (some ⟨bi, 0, none⟩))) (first | exact ⟨(Upd.refl none_ w).drew, e1, e3⟩ | exact ⟨hu, hu.cell e1 id, hu.cell e3 id⟩)
    (first
      | (go_at_call 27; refine (HTO.out _ (by assumption)).mono ?_; rintro e w' ⟨rfl, hu⟩)
      | (go_at_call 25; refine (HCL.out _ (by assumption)).mono ?_; rintro e w' ⟨b', o', rfl, hc, hu⟩)
      | (go_at_call 23; refine (HCU.out _ _ _ (by assumption) hc).mono ?_; rintro e w' ⟨rfl, hu⟩))
  have HU := hide hu
  clear hu
  go_wp2_with fail
  go_ret
  exact ⟨rfl, HU.out⟩
end Go.Proofs.Ytjjiemicacbmaaa
