/- An inbox of one's own: the contracts as the laws use them. -/
import Derived.Test.YtjjiemicacbmaaaIn3
import Derived.Test.YtjjiemicacbmaaaIn4
import Derived.Test.YtjjiemicacbmaaaIn6
import Derived.Test.YtjjiemicacbmaaaOp2
import Derived.Test.YtjjiemicacbmaaaIw2
import Derived.Laws.IdiomStrings
import Derived.Lib.BufferRead
namespace Go.Proofs.Ytjjiemicacbmaaa
open Go.RowKit Go.Shelf

/-- An inbox of one's own, since w0; its blocks are F. -/
def IS (w0 w : World) (bx : Nat) (F : Nat → Prop) (size done : Int) (buf : List UInt8) (l : List (Int × Int)) : Prop :=
  ∃ bi o ob, IX w bx bi o ob size done buf l ∧ F = ft bx bi o ob ∧ IV size done buf l ∧ Upd none_ w0 w ∧ (∀ k, F k → w0.heap.size ≤ k)
/-- A call has turned the blocks F, which are F' now. -/
def IMv (w w' : World) (F F' : Nat → Prop) : Prop := Upd F w w' ∧ ∀ k, F' k → F k ∨ w.heap.size ≤ k
/-- A value whose row lies elsewhere. -/
def Kept (F : Nat → Prop) (w : World) (v : Value) : Prop := ∀ g, v.ownBlock = some g → g < w.heap.size ∧ ¬ F g
theorem Kept.mv {F F' : Nat → Prop} {w w' : World} {v : Value} (h : Kept F w v) (hm : IMv w w' F F') : Kept F' w' v := fun g hg => by
  obtain ⟨h1, h2⟩ := h g hg
  refine ⟨Nat.lt_of_lt_of_le h1 hm.1.size, fun h3 => ?_⟩
  rcases hm.2 g h3 with h4 | h4
  · exact h2 h4
  · omega
theorem Kept.upd {F : Nat → Prop} {w w' : World} {v : Value} (h : Kept F w v) (hu : Upd none_ w w') : Kept F w' v := fun g hg => ⟨Nat.lt_of_lt_of_le (h g hg).1 hu.size, (h g hg).2⟩
theorem IMv.own {F F' : Nat → Prop} {w w' : World} {base e sz n : Nat} {v : Value} {xs : List Value} (hm : IMv w w' F F') (h : w.ownsRow base e sz v n xs) (hk : Kept F w v) : w'.ownsRow base e sz v n xs := hm.1.own h fun g hg => (hk g hg).2
theorem IS.keep {w0 w w' : World} {bx : Nat} {F : Nat → Prop} {size done : Int} {buf : List UInt8} {l : List (Int × Int)} (h : IS w0 w bx F size done buf l) (hu : Upd none_ w w') : IS w0 w' bx F size done buf l := by
  obtain ⟨bi, o, ob, h1, h2, h3, h4, h5⟩ := h
  exact ⟨bi, o, ob, h1.keep hu, h2, h3, h4.trans hu, h5⟩
theorem IS.iv {w0 w : World} {bx : Nat} {F : Nat → Prop} {size done : Int} {buf : List UInt8} {l : List (Int × Int)} (h : IS w0 w bx F size done buf l) : IV size done buf l := by obtain ⟨_, _, _, _, _, h3, _⟩ := h; exact h3
theorem IS.upd {w0 w : World} {bx : Nat} {F : Nat → Prop} {size done : Int} {buf : List UInt8} {l : List (Int × Int)} (h : IS w0 w bx F size done buf l) : Upd none_ w0 w := by obtain ⟨_, _, _, _, _, _, h4, _⟩ := h; exact h4
theorem IS.ge {w0 w : World} {bx : Nat} {F : Nat → Prop} {size done : Int} {buf : List UInt8} {l : List (Int × Int)} (h : IS w0 w bx F size done buf l) : ∀ k, F k → w0.heap.size ≤ k := by obtain ⟨_, _, _, _, _, _, _, h5⟩ := h; exact h5
theorem IS.lt {w0 w : World} {bx : Nat} {F : Nat → Prop} {size done : Int} {buf : List UInt8} {l : List (Int × Int)} (h : IS w0 w bx F size done buf l) : ∀ k, F k → k < w.heap.size := by
  obtain ⟨bi, o, ob, h1, rfl, -⟩ := h; exact fun k hk => h1.lt hk
/-- What came behind the inbox is kept. -/
theorem IS.kept {w0 w : World} {bx : Nat} {F : Nat → Prop} {size done : Int} {buf : List UInt8} {l : List (Int × Int)} (h : IS w0 w bx F size done buf l) {w' : World} {v : Value} (hv : ∀ g, v.ownBlock = some g → w.heap.size ≤ g ∧ g < w'.heap.size) : Kept F w' v :=
  fun g hg => ⟨(hv g hg).2, fun e => by have := h.lt g e; have := (hv g hg).1; omega⟩

theorem new_is (w0 w : World) (h : Upd none_ w0 w) (size : Int) :
    Calls Try.prog 35 #[.int .i64 size] w fun e w' => ∃ bx F, e = .returned (.pointer (some ⟨bx, 0, none⟩)) ∧ IS w0 w' bx F (max 1 (min size 1048576)) 0 [] [] ∧ Upd none_ w w' := by
  refine (inew_any size w).mono ?_
  rintro e w' ⟨bx, bi, rfl, h1, h2, h3, h4⟩
  have hs := h.size
  refine ⟨bx, _, rfl, ⟨bi, none, none, h1, rfl, IV.new size, h.trans h4, fun k hk => ?_⟩, h4⟩
  rcases hk with rfl | rfl | hk | hk
  · omega
  · omega
  · cases hk
  · cases hk
theorem IS.moved {w0 w w' : World} {bx : Nat} {F : Nat → Prop} {size done size' done' : Int} {buf bk : List UInt8} {l l' : List (Int × Int)} (h : IS w0 w bx F size done buf l) {bi : Nat} {o ob o' ob' : Option Nat} (hF : F = ft bx bi o ob)
    (h' : IX w' bx bi o' ob' size' done' bk l') (hv : IV size' done' bk l') (hu : Upd (ft bx bi o ob) w w') (ho : o' = o ∨ Fresh w o') (hob : ob' = ob ∨ Fresh w ob') : IS w0 w' bx (ft bx bi o' ob') size' done' bk l' ∧ IMv w w' F (ft bx bi o' ob') := by
  have hn : ∀ k, ft bx bi o' ob' k → F k ∨ w.heap.size ≤ k := fun k hk => by
    by_cases hlt : k < w.heap.size
    · rw [hF]; exact .inl (ft_sub ho hob k hlt hk)
    · exact .inr (by omega)
  have hs := h.upd.size
  refine ⟨⟨bi, o', ob', h', rfl, hv, h.upd.trans' hu (fun i hi e => by rw [← hF] at e; have := h.ge i e; omega), fun k hk => ?_⟩, by rw [hF]; exact hu, hn⟩
  rcases hn k hk with h1 | h1
  · exact h.ge k h1
  · omega
theorem take_is {w0 w : World} {bx : Nat} {F : Nat → Prop} {size done : Int} {buf : List UInt8} {l : List (Int × Int)} (h : IS w0 w bx F size done buf l) (at_ : Int) (hat : I64 at_)
    (G : Nat → Prop) (ab : Option Addr) (cb : Nat) (bs : List UInt8) (hb : Rd G w ab bs.length 1 (u8s bs)) (hG : ∀ k, G k → ¬ F k) (hm : bs.length ≤ 1152921504606846976) (hmc : bs.length ≤ cb) (hn : l.length ≤ 1000000) :
    Calls Try.prog 37 #[.pointer (some ⟨bx, 0, none⟩), .int .i64 at_, .slice ab bs.length cb] w fun e w' => ∃ F' bk, e = .returned (.int .i64 (takeR size done at_ bs.length l).1) ∧ IS w0 w' bx F' size done bk (takeR size done at_ bs.length l).2 ∧
      Vals done at_ bs buf l (takeR size done at_ bs.length l).2 bk ∧ IMv w w' F F' := by
  obtain ⟨bi, o, ob, h1, h2, h3, h4, h5⟩ := id h
  refine (itake_any bx bi o ob size done buf l w h1 h3 at_ hat G ab cb bs hb (fun k hk => by rw [← h2]; exact hG k hk) hm hmc (by omega)).mono ?_
  rintro e w' ⟨o', ob', bk, rfl, q1, q2, q3, q4, q5, q6, q7⟩
  obtain ⟨r1, r2⟩ := h.moved h2 q1 (h3.take at_ q2 q3 q4) q5 q6 q7
  exact ⟨_, bk, rfl, r1, q4, r2⟩
/-- Take of bytes that came in. -/
theorem take_arg {w0 w : World} {bx : Nat} {F : Nat → Prop} {size done : Int} {buf : List UInt8} {l : List (Int × Int)} (h : IS w0 w bx F size done buf l) (at_ : Int) (hat : I64 at_) (s : Sl) (hs : s.ok w0) (hm : s.2.1.length ≤ 1152921504606846976) (hn : l.length ≤ 1000000) :
    Calls Try.prog 37 #[.pointer (some ⟨bx, 0, none⟩), .int .i64 at_, .slice s.1 s.2.1.length s.2.2] w fun e w' => ∃ F' bk, e = .returned (.int .i64 (takeR size done at_ s.2.1.length l).1) ∧ IS w0 w' bx F' size done bk (takeR size done at_ s.2.1.length l).2 ∧
      Vals done at_ s.2.1 buf l (takeR size done at_ s.2.1.length l).2 bk ∧ IMv w w' F F' :=
  take_is h at_ hat _ s.1 s.2.2 s.2.1 (hs.1.upd h.upd (fun _ _ => id)) (fun k hk e => by have := h.ge k e; omega) hm hs.2.1 hn
theorem read_is {w0 w : World} {bx : Nat} {F : Nat → Prop} {size done : Int} {buf : List UInt8} {l : List (Int × Int)} (h : IS w0 w bx F size done buf l) (most : Int) (hn : l.length ≤ 1000000) (hd : done + size ≤ 2305843009213693952) (nN : Nat) (hnN : readN done most l = (nN : Int)) :
    Calls Try.prog 38 #[.pointer (some ⟨bx, 0, none⟩), .int .i64 most] w fun e w' => ∃ F' a' c', e = .returned (.slice a' nN c') ∧ w'.ownsRow w.heap.size 5 1 (.slice a' nN c') nN (u8s (buf.take nN)) ∧
      IS w0 w' bx F' size (done + nN) (buf.drop nN) l ∧ IMv w w' F F' ∧ Kept F' w' (.slice a' nN c') := by
  obtain ⟨bi, o, ob, h1, h2, h3, h4, h5⟩ := id h
  refine (iread_any bx bi o ob size done buf l w h1 h3 most (by omega) nN hnN).mono ?_
  rintro e w' ⟨ob', a', c', rfl, q1, q2, q3, q4, q5⟩
  have hv := h3.read most hd
  rw [hnN] at hv
  obtain ⟨r1, r2⟩ := h.moved h2 q2 (by simpa using hv) q3 (.inl rfl) (.inr q4)
  refine ⟨_, a', c', rfl, q1, r1, r2, fun g hg => ⟨own_lt q1 g hg, fun e => ?_⟩⟩
  have hge := own_ge q1 g hg
  rcases e with e | e | e | e
  · have := h1.lt (.inl rfl); omega
  · have := h1.lt (.inr (.inl rfl)); omega
  · have := h1.lt (.inr (.inr (.inl e))); omega
  · exact q5 g hg e
theorem here_is {w0 w : World} {bx : Nat} {F : Nat → Prop} {size done : Int} {buf : List UInt8} {l : List (Int × Int)} (h : IS w0 w bx F size done buf l) (hn : l.length ≤ 1000000) :
    Calls Try.prog 43 #[.pointer (some ⟨bx, 0, none⟩)] w fun e w' => e = .returned (.int .i64 (nextL l done)) ∧ Upd none_ w w' := by
  obtain ⟨bi, o, ob, h1, h2, h3, h4, h5⟩ := h
  exact ihere_any bx bi o ob size done buf l w h1 (by omega)
theorem limit_is {w0 w : World} {bx : Nat} {F : Nat → Prop} {size done : Int} {buf : List UInt8} {l : List (Int × Int)} (h : IS w0 w bx F size done buf l) :
    Calls Try.prog 42 #[.pointer (some ⟨bx, 0, none⟩)] w fun e w' => e = .returned (.int .i64 (done + size)) ∧ Upd none_ w w' := by
  obtain ⟨bi, o, ob, h1, h2, h3, h4, h5⟩ := h
  have := h3.sz
  exact ilimit_any bx bi o ob size done buf l w h1 (by omega) h3.dn
theorem done_is {w0 w : World} {bx : Nat} {F : Nat → Prop} {size done : Int} {buf : List UInt8} {l : List (Int × Int)} (h : IS w0 w bx F size done buf l) :
    Calls Try.prog 40 #[.pointer (some ⟨bx, 0, none⟩)] w fun e w' => e = .returned (.int .i64 done) ∧ Upd none_ w w' := by
  obtain ⟨bi, o, ob, h1, h2, h3, h4, h5⟩ := h
  exact idone_any bx bi o ob size done buf l w h1
theorem held_is {w0 w : World} {bx : Nat} {F : Nat → Prop} {size done : Int} {buf : List UInt8} {l : List (Int × Int)} (h : IS w0 w bx F size done buf l) (hn : l.length ≤ 1000000) :
    Calls Try.prog 39 #[.pointer (some ⟨bx, 0, none⟩)] w fun e w' => e = .returned (.int .i64 (tot l - done)) ∧ Upd none_ w w' := by
  obtain ⟨bi, o, ob, h1, h2, h3, h4, h5⟩ := h
  rw [← h3.held.1]
  exact iheld_any bx bi o ob size done buf l w h1 h3.wf (by omega)
theorem beyond_is {w0 w : World} {bx : Nat} {F : Nat → Prop} {size done : Int} {buf : List UInt8} {l : List (Int × Int)} (h : IS w0 w bx F size done buf l) (hn : l.length ≤ 1000000) :
    Calls Try.prog 41 #[.pointer (some ⟨bx, 0, none⟩)] w fun e w' => ∃ a c m, e = .returned (.slice a m c) ∧ m = (beyondL l done).length ∧ w'.ownsRow w.heap.size 33 2 (.slice a m c) m (flat (beyondL l done)) ∧ Upd none_ w w' ∧ Kept F w' (.slice a m c) := by
  refine Calls.mono ?_ (fun e w' => id)
  obtain ⟨bi, o, ob, h1, h2, h3, h4, h5⟩ := id h
  refine (ibeyond_any bx bi o ob size done buf l w h1 (by omega)).mono ?_
  rintro e w' ⟨a, c, m, rfl, q1, q2, q3⟩
  exact ⟨a, c, m, rfl, q1, q2, q3, h.kept fun g hg => ⟨own_ge q2 g hg, own_lt q2 g hg⟩⟩

/-- string(b). -/
theorem run_str (W : World) (F : Nat → Prop) (a : Option Addr) (c : Nat) (bs : List UInt8) (h : Rd F W a bs.length 1 (u8s bs)) : (convert 47 9 (.slice a bs.length c)).run Try.prog W = .ok (.string ⟨bs.toArray⟩) W := by
  by_cases h0 : bs.length = 0
  · obtain rfl : bs = [] := List.eq_nil_of_length_eq_zero h0
    cases a with
    | none => exact Lib.run_convert_nil_bytes (P := Try.prog) W _ _ _ c Try.underlying47 Try.underlying5 Try.underlying9
    | some x => exact run_convert_bytes_back (P := Try.prog) W _ _ _ x c [] Try.underlying47 Try.underlying5 Try.underlying9 (fun j hj => by simp at hj)
  · obtain ⟨b, off, rfl, -, hc⟩ := h.2.resolve_left h0
    refine run_convert_bytes_back (P := Try.prog) W _ _ _ ⟨b, off, none⟩ c bs Try.underlying47 Try.underlying5 Try.underlying9 (fun j hj => ?_)
    rw [addr_add]
    exact hc j _ (u8s_get bs j hj)
end Go.Proofs.Ytjjiemicacbmaaa
