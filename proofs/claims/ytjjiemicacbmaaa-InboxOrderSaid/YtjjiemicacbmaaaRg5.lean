/- Contracts: slices.Clone at ranges and at bytes; Covers, List, Total, Clone, New of package ranges. -/
import Derived.Test.YtjjiemicacbmaaaRg4
namespace Go.Proofs.Ytjjiemicacbmaaa
open Go.RowKit Go.Shelf

theorem elem_rng : ElemOk Try.prog 33 (.agg #[.int .i64 0, .int .i64 0]) 2 16 := ⟨by kernel_rfl, rfl, by decide⟩
theorem elem_u8 : ElemOk Try.prog 5 (.int .u8 0) 1 1 := ⟨by kernel_rfl, rfl, by decide⟩

set_option maxHeartbeats 1000000 in
theorem clone_rng (F : Nat → Prop) (a : Option Addr) (n c : Nat) (xs : List Value) (w : World) (hr : Rd F w a n 2 xs) (h1 : ∀ u ∈ xs, u.oneCell' = true) (hb : n * 16 ≤ 140737488355328) :
    Calls Try.prog 76 #[.slice a n c] w fun e w' => ∃ a' c', e = .returned (.slice a' n c') ∧ w'.ownsRow w.heap.size 33 2 (.slice a' n c') n xs ∧ Upd none_ w w' := by
  have hnil := fun W => Lib.run_eql_slice_nil (P := Try.prog) W 30 33 a n c 0 0 Try.underlying30
  have H1 := hide h1
  have HR := hide hr
  clear h1 hr
  cases a with
  | none =>
    obtain ⟨rfl, rfl⟩ : n = 0 ∧ xs = [] := by
      have h := HR.out
      rcases h.2 with h0 | ⟨b, off, h0, _⟩
      · exact ⟨h0, List.eq_nil_of_length_eq_zero (by have := h.1; simpa [h0] using this)⟩
      · cases h0
    go_enter Try.func76, Try.ntmps76
    go_wp2
    go_ret
    exact ⟨_, _, rfl, World.ownsRow_nil _ _ _ _, Upd.refl _ _⟩
  | some ad =>
    go_enter Try.func76, Try.ntmps76
    go_wp2_with (at_builtin; refine wpL_app rfl _ _ _ rfl w.heap.size 33 _ 2 16 Try.underlying30 elem_rng _ 0 [] rfl (World.ownsRow_made w #[] 0 (Nat.le_refl _) (by decide) rfl) (some ad) n c xs rfl (HR.out.upd ((Upd.refl none_ w).alloc _) (fun _ _ => id)) H1.out (by omega) (by omega) (by simp) ?_; intro v' w' hown hu _ _ _)
    go_ret
    simp only [Nat.zero_add, List.nil_append] at hown
    obtain ⟨a', c', rfl⟩ := own_shape hown
    exact ⟨a', c', rfl, hown, Upd.trans' (S := none_) ((Upd.refl none_ w).alloc _) hu (fun i hi e => by have e2 : some w.heap.size = some i := e; injection e2 with e3; exfalso; omega)⟩

set_option maxHeartbeats 1000000 in
theorem clone_u8 (F : Nat → Prop) (a : Option Addr) (n c : Nat) (xs : List Value) (w : World) (hr : Rd F w a n 1 xs) (h1 : ∀ u ∈ xs, u.oneCell' = true) (hb : n * 1 ≤ 140737488355328) :
    Calls Try.prog 82 #[.slice a n c] w fun e w' => ∃ a' c', e = .returned (.slice a' n c') ∧ w'.ownsRow w.heap.size 5 1 (.slice a' n c') n xs ∧ Upd none_ w w' := by
  have hnil := fun W => Lib.run_eql_slice_nil (P := Try.prog) W 47 5 a n c 0 0 Try.underlying47
  have H1 := hide h1
  have HR := hide hr
  clear h1 hr
  cases a with
  | none =>
    obtain ⟨rfl, rfl⟩ : n = 0 ∧ xs = [] := by
      have h := HR.out
      rcases h.2 with h0 | ⟨b, off, h0, _⟩
      · exact ⟨h0, List.eq_nil_of_length_eq_zero (by have := h.1; simpa [h0] using this)⟩
      · cases h0
    go_enter Try.func82, Try.ntmps82
    go_wp2
    go_ret
    exact ⟨_, _, rfl, World.ownsRow_nil _ _ _ _, Upd.refl _ _⟩
  | some ad =>
    go_enter Try.func82, Try.ntmps82
    go_wp2_with (at_builtin; refine wpL_app rfl _ _ _ rfl w.heap.size 5 _ 1 1 Try.underlying47 elem_u8 _ 0 [] rfl (World.ownsRow_made w #[] 0 (Nat.le_refl _) (by decide) rfl) (some ad) n c xs rfl (HR.out.upd ((Upd.refl none_ w).alloc _) (fun _ _ => id)) H1.out (by omega) (by omega) (by simp) ?_; intro v' w' hown hu _ _ _)
    go_ret
    simp only [Nat.zero_add, List.nil_append] at hown
    obtain ⟨a', c', rfl⟩ := own_shape hown
    exact ⟨a', c', rfl, hown, Upd.trans' (S := none_) ((Upd.refl none_ w).alloc _) hu (fun i hi e => by have e2 : some w.heap.size = some i := e; injection e2 with e3; exfalso; omega)⟩

set_option maxHeartbeats 1000000 in
theorem covers_any (b : Nat) (o : Option Nat) (l : List (Int × Int)) (f t : Int) (w : World) (h : RG w b o l) (hn : l.length < 4611686018427387904) :
    Calls Try.prog 32 #[.pointer (some ⟨b, 0, none⟩), .int .i64 f, .int .i64 t] w fun e w' => e = .returned (.bool (!(gapL l f t).2)) ∧ Upd none_ w w' := by
  have hg := gap_any b o l f t w h hn
  generalize gapL l f t = x at hg
  clear h
  go_enter Try.func32, Try.ntmps32
  go_wp2_with (go_at_call 20; refine hg.mono ?_; rintro e w' ⟨rfl, hu⟩)
  go_ret
  exact ⟨rfl, (by repeat' first | exact Upd.refl _ _ | assumption | apply Upd.drewN | apply Upd.drew | apply Upd.alloc | (refine Upd.setCell ?_ (fun hh => by exfalso; revert hh; simp; try omega) _))⟩

theorem nil_rd (F : Nat → Prop) (w : World) (a : Option Addr) (sz : Nat) : Rd F w a 0 sz [] := ⟨by simp, .inl rfl⟩

set_option maxHeartbeats 1000000 in
theorem list_any (b : Nat) (o : Option Nat) (l : List (Int × Int)) (w : World) (h : RG w b o l) (hn : l.length * 16 ≤ 140737488355328) :
    Calls Try.prog 17 #[.pointer (some ⟨b, 0, none⟩)] w fun e w' => ∃ a' c', e = .returned (.slice a' l.length c') ∧ w'.ownsRow w.heap.size 33 2 (.slice a' l.length c') l.length (flat l) ∧ Upd none_ w w' := by
  obtain ⟨a, cap, hc, hcap, hb, ho, -, hk⟩ := h.slice
  obtain ⟨-, hr⟩ := rd_own' ho
  have hcl := clone_rng _ a l.length cap (flat l) w hr (flat_one l) hn
  clear hk h hr ho
  go_enter Try.func17, Try.ntmps17
  go_wp2_with (go_at_call 76; refine hcl.mono ?_; rintro e w' ⟨a1, c1, rfl, hown, hu⟩)
  go_ret
  exact ⟨a1, c1, rfl, hown, hu⟩

set_option maxHeartbeats 1000000 in
theorem total_any (b : Nat) (o : Option Nat) (l : List (Int × Int)) (w : World) (h : RG w b o l) (hn : l.length < 4611686018427387904) :
    Calls Try.prog 27 #[.pointer (some ⟨b, 0, none⟩)] w fun e w' => e = .returned (.int .i64 (manyW l 0)) ∧ Upd none_ w w' := by
  obtain ⟨a, cap, hc, hcap, hb, ho, -, hk⟩ := h.slice
  obtain ⟨-, hr⟩ := rd_own' ho
  have hcl := many_any _ a l cap w hr hn
  clear hk h hr ho
  go_enter Try.func27, Try.ntmps27
  go_wp2_with (go_at_call 74; refine hcl.mono ?_; rintro e w' ⟨rfl, hu⟩)
  go_ret
  exact ⟨rfl, hu⟩

set_option maxHeartbeats 1000000 in
theorem rclone_any (b : Nat) (o : Option Nat) (l : List (Int × Int)) (w : World) (h : RG w b o l) (hn : l.length * 16 ≤ 140737488355328) :
    Calls Try.prog 25 #[.pointer (some ⟨b, 0, none⟩)] w fun e w' => ∃ b' o', e = .returned (.pointer (some ⟨b', 0, none⟩)) ∧ RG w' b' o' l ∧ w.heap.size ≤ b' ∧ Fresh w o' ∧ Upd none_ w w' := by
  have hl := list_any b o l w h hn
  clear h
  go_enter Try.func25, Try.ntmps25
  go_wp2_with (go_at_call 17; refine hl.mono ?_; rintro e w' ⟨a1, c1, rfl, hown, hu⟩)
  go_ret
  exact ⟨w'.heap.size, _, rfl, ⟨.slice a1 l.length c1, (by repeat' first | assumption | (refine heapA_at _ _ _ ?_; first | rfl | (simp; done) | omega) | (refine (heapA_past _ _ _ ?_).trans ?_; · first | (simp; done) | (simp; omega)) | refine (heapN _ _ _).trans ?_ | refine (heapD _ _).trans ?_), own_base ((Upd.refl none_ w').alloc _ |>.own hown (fun _ _ => id)) 0 (fun _ _ => Nat.zero_le _), rfl⟩, hu.size, own_ge hown, hu.alloc _⟩

set_option maxHeartbeats 1000000 in
theorem rnew_any (w : World) :
    Calls Try.prog 15 #[] w fun e w' => ∃ b', e = .returned (.pointer (some ⟨b', 0, none⟩)) ∧ RG w' b' none [] ∧ w.heap.size ≤ b' ∧ Upd none_ w w' := by
  go_enter Try.func15, Try.ntmps15
  go_wp2
  go_ret
  exact ⟨w.heap.size, rfl, ⟨.slice none 0 0, (by repeat' first | assumption | (refine heapA_at _ _ _ ?_; first | rfl | (simp; done) | omega) | (refine (heapA_past _ _ _ ?_).trans ?_; · first | (simp; done) | (simp; omega)) | refine (heapN _ _ _).trans ?_ | refine (heapD _ _).trans ?_), World.ownsRow_nil _ _ _ _, rfl⟩, Nat.le_refl _, (by repeat' first | exact Upd.refl _ _ | assumption | apply Upd.drewN | apply Upd.drew | apply Upd.alloc | (refine Upd.setCell ?_ (fun hh => by exfalso; revert hh; simp; try omega) _))⟩
end Go.Proofs.Ytjjiemicacbmaaa
