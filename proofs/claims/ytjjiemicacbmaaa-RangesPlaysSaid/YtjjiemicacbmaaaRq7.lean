/- The document's ranges of one's own, beside the program's. -/
import Derived.Test.YtjjiemicacbmaaaRq6
namespace Go.Proofs.Ytjjiemicacbmaaa
open Go.RowKit Go.Shelf

/-- The document's ranges of one's own, since w0. -/
def QF (w0 w : World) (b : Nat) (o : Option Nat) (l : List (Int × Int)) : Prop := RQ w b o l ∧ Upd none_ w0 w ∧ w0.heap.size ≤ b ∧ Fresh w0 o
theorem QF.keep {w0 w w' : World} {b : Nat} {o : Option Nat} {l : List (Int × Int)} (h : QF w0 w b o l) (hu : Upd none_ w w') : QF w0 w' b o l := ⟨h.1.keep hu, h.2.1.thenNew hu, h.2.2⟩
theorem QF.upd {w0 w w' : World} {b : Nat} {o o' : Option Nat} {l : List (Int × Int)} (h : QF w0 w b o l) (hm : RQmoved w w' b o o') : Upd none_ w0 w' :=
  Upd.trans' h.2.1 hm.1 (fun i hi e => by have := h.2.2.1; omega)
theorem QF.moved {w0 w w' : World} {b : Nat} {o o' : Option Nat} {l l' : List (Int × Int)} (h : QF w0 w b o l) (hm : RQmoved w w' b o o') (hg : RQ w' b o' l') : QF w0 w' b o' l' :=
  ⟨hg, h.upd hm, h.2.2.1, by
    rcases hm.2 with e | e
    · rw [e]; exact h.2.2.2
    · exact fun g hg => Nat.le_trans h.2.1.size (e g hg)⟩
theorem qadd_own {w0 w : World} {b : Nat} {o : Option Nat} {l : List (Int × Int)} (h : QF w0 w b o l) (hw : WF l) (f t : Int) (hn : l.length * 48 ≤ 70368744177664) :
    Calls Try.prog 22 #[.pointer (some ⟨b, 0, none⟩), .int .i64 f, .int .i64 t] w fun e w' =>
      ∃ o', e = .returned (.int .i64 (addL l f t).1) ∧ QF w0 w' b o' (addL l f t).2 ∧ RQmoved w w' b o o' :=
  (qadd_any b o l f t w h.1 hw hn).mono fun _ _ ⟨o', e, h1, h2⟩ => ⟨o', e, h.moved h2 h1, h2⟩
theorem qcut_own {w0 w : World} {b : Nat} {o : Option Nat} {l : List (Int × Int)} (h : QF w0 w b o l) (hw : WF l) (f t : Int) (hn : l.length * 48 ≤ 140737488355328) :
    Calls Try.prog 24 #[.pointer (some ⟨b, 0, none⟩), .int .i64 f, .int .i64 t] w fun e w' =>
      ∃ o', e = .returned (.int .i64 (cutL l f t).1) ∧ QF w0 w' b o' (cutL l f t).2 ∧ RQmoved w w' b o o' :=
  (qcut_any b o l f t w h.1 hw hn).mono fun _ _ ⟨o', e, h1, h2⟩ => ⟨o', e, h.moved h2 h1, h2⟩
theorem QF.lt {w0 w : World} {b : Nat} {o : Option Nat} {l : List (Int × Int)} (h : QF w0 w b o l) : b < w.heap.size := h.1.lt
theorem QF.olt {w0 w : World} {b : Nat} {o : Option Nat} {l : List (Int × Int)} (h : QF w0 w b o l) : ∀ g, o = some g → g < w.heap.size := h.1.olt

/-- New blocks are far from old ones. -/
theorem far_new {w : World} {b b' : Nat} {o o' : Option Nat} (hb : b < w.heap.size) (ho : ∀ g, o = some g → g < w.heap.size) (hb' : w.heap.size ≤ b') (ho' : Fresh w o') : Far b o b' o' :=
  ⟨by omega, fun g hg => ⟨by have := ho g hg; omega, fun e => by have := ho g hg; have := ho' g e; omega⟩, fun g hg => by have := ho' g hg; omega⟩
/-- The program's ranges change: the document's stay. -/
theorem QF.aside {w0 w w' : World} {b b' : Nat} {o o1 o' : Option Nat} {l1 l' : List (Int × Int)} (hm : RGmoved w w' b o o1) (h1 : RF w0 w' b o1 l1) (h' : QF w0 w b' o' l') (hf : Far b o b' o') : QF w0 w' b' o' l' ∧ Far b o1 b' o' := by
  refine ⟨⟨h'.1.upd hm.1 (fun e => e.elim (fun e => hf.1 e.symm) (fun e => (hf.2.1 _ e).1 rfl)) (fun g hg e => e.elim (hf.2.2 g hg) (fun e => (hf.2.1 _ e).2 hg)), h1.2.1, h'.2.2⟩, hf.1, fun g hg => ?_, hf.2.2⟩
  rcases hm.2 with e | e
  · exact hf.2.1 g (e ▸ hg)
  · have h2 := e g hg
    exact ⟨fun e => by have := h'.lt; omega, fun e => by have := h'.olt g e; omega⟩
/-- The document's ranges change: the program's stay. -/
theorem RF.aside {w0 w w' : World} {b b' : Nat} {o o' o1 : Option Nat} {l l1 : List (Int × Int)} (hm : RQmoved w w' b' o' o1) (h1 : QF w0 w' b' o1 l1) (h : RF w0 w b o l) (hf : Far b o b' o') : RF w0 w' b o l ∧ Far b o b' o1 := by
  refine ⟨⟨h.1.upd hm.1 hf.1 (fun g hg => (hf.2.1 g hg).1), h1.2.1, h.2.2⟩, hf.1, fun g hg => ⟨(hf.2.1 g hg).1, fun e1 => ?_⟩, fun g hg => ?_⟩
  · rcases hm.2 with e | e
    · exact (hf.2.1 g hg).2 (e ▸ e1)
    · have := e g e1; have := h.1.olt g hg; omega
  · rcases hm.2 with e | e
    · exact hf.2.2 g (e ▸ hg)
    · have := e g hg; have := h.1.lt; omega
theorem RQmoved.cell {w w' : World} {b : Nat} {o o' : Option Nat} {p : Addr} {v : Value} (h : RQmoved w w' b o o') (hk : w.cell? p = some v) (ha : p.block ≠ b) : w'.cell? p = some v := h.1.cell hk ha
theorem RQmoved.heap {w w' : World} {b k : Nat} {o o' : Option Nat} {ob : Obj} (h : RQmoved w w' b o o') (hk : w.heap[k]? = some ob) (ha : k ≠ b) : w'.heap[k]? = some ob := h.1.heap hk ha
theorem QF.apart {w0 w : World} {b k : Nat} {o : Option Nat} {l : List (Int × Int)} (h : QF w0 w b o l) (hk : w.heap.size ≤ k) : k ≠ b := by have := h.lt; omega
end Go.Proofs.Ytjjiemicacbmaaa
