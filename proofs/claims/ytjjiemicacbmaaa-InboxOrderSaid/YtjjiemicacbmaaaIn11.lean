/- The walk of InboxOrder. -/
import Derived.Test.YtjjiemicacbmaaaIn9
import Derived.Laws.Concat
namespace Go.Proofs.Ytjjiemicacbmaaa
open Go.RowKit Go.Shelf

/-- Bytes as a string. -/
def bstr (l : List UInt8) : ByteArray := ⟨l.toArray⟩
theorem run_bstr (W : World) (F : Nat → Prop) (a : Option Addr) (c n : Nat) (bs : List UInt8) (hn : bs.length = n) (h : Rd F W a n 1 (u8s bs)) : (convert 47 9 (.slice a n c)).run Try.prog W = .ok (.string (bstr bs)) W := by
  subst hn; exact run_str W F a c bs h
theorem add_bstr (W : World) (x y : List UInt8) (hx : x.length ≤ 8388608) (hy : y.length ≤ 8388608) : (Op.stringOp .add (bstr x) (bstr y)).run Try.prog W = .ok (.string (bstr (x ++ y))) W :=
  run_string_add_lists W x y (by omega) (by omega)

/-- What an inbox holds is what was sent. -/
structure Sent (bs : List UInt8) (dn : Int) (buf : List UInt8) (l : List (Int × Int)) : Prop where
  inn : ∀ n, InS l n → n < bs.length
  val : ∀ n, dn ≤ n → InS l n → buf[(n - dn).toNat]? = bs[n.toNat]?
theorem Sent.take {bs : List UInt8} {dn : Int} {buf bk : List UInt8} {l : List (Int × Int)} (h : Sent bs dn buf l) (hv : IV 1000 dn buf l) (a n : Nat) (han : a + n ≤ bs.length) (hN : bs.length ≤ 1000)
    (hvals : Vals dn a ((bs.drop a).take n) buf l (takeR 1000 dn a n l).2 bk) : Sent bs dn bk (takeR 1000 dn a n l).2 := by
  obtain ⟨-, t2, -, -⟩ := take_law hv (a : Int) n
  have hd := hv.dn
  refine ⟨fun k hk => ?_, fun k hk hi => ?_⟩
  · rcases (t2 k).1 hk with h1 | h1
    · exact h.inn k h1
    · omega
  · obtain ⟨v1, v2⟩ := hvals k hk hi
    by_cases hl : InS l k
    · rw [v1 hl]; exact h.val k hk hl
    · have h1 := ((t2 k).1 hi).resolve_left hl
      rw [v2 hl, List.getElem?_take, if_pos (by omega), List.getElem?_drop]
      congr 1; omega
theorem Sent.read {bs : List UInt8} {dn : Int} {buf : List UInt8} {l : List (Int × Int)} (h : Sent bs dn buf l) (hv : IV 1000 dn buf l) (most : Int) (nN : Nat) (hn : readN dn most l = (nN : Int)) :
    Sent bs (dn + nN) (buf.drop nN) l ∧ bs.take dn.toNat ++ buf.take nN = bs.take (dn + nN).toNat ∧ dn + nN ≤ bs.length ∨ (nN = 0 ∧ Sent bs (dn + nN) (buf.drop nN) l ∧ bs.take dn.toNat ++ buf.take nN = bs.take (dn + nN).toNat) := by
  obtain ⟨r1, r2, r3, r4⟩ := hv.readN most
  have hh := hv.here
  have hd := hv.dn
  rw [hn] at r1 r2 r3 r4
  have hsent : Sent bs (dn + nN) (buf.drop nN) l := ⟨h.inn, fun n hn hi => by
    rw [List.getElem?_drop, ← h.val n (by omega) hi]
    congr 1; omega⟩
  have htk : bs.take dn.toNat ++ buf.take nN = bs.take (dn + nN).toNat := by
    apply List.ext_getElem?
    intro i
    by_cases h1 : i < (bs.take dn.toNat).length
    · rw [List.getElem?_append_left h1, List.getElem?_take, List.getElem?_take]
      rw [List.length_take] at h1
      rw [if_pos (by omega), if_pos (by omega)]
    · rw [List.getElem?_append_right (by omega), List.getElem?_take, List.getElem?_take]
      rw [List.length_take] at h1 ⊢
      by_cases h2 : nN = 0
      · subst h2
        simp
        intro h3
        omega
      · have h4 := h.inn (dn + nN - 1) (hh.2.2.2.1 _ (by omega) (by omega))
        have h5 : min dn.toNat bs.length = dn.toNat := by omega
        rw [h5] at h1 ⊢
        by_cases h6 : i - dn.toNat < nN
        · rw [if_pos h6, if_pos (by omega)]
          have := h.val i (by omega) (hh.2.2.2.1 _ (by omega) (by omega))
          rw [show ((i : Int) - dn).toNat = i - dn.toNat by omega, show (i : Int).toNat = i by omega] at this
          exact this
        · rw [if_neg h6, if_neg (by omega)]
  by_cases h2 : nN = 0
  · exact .inr ⟨h2, hsent, htk⟩
  · have h4 := h.inn (dn + nN - 1) (hh.2.2.2.1 _ (by omega) (by omega))
    exact .inl ⟨hsent, htk, by omega⟩
theorem Sent.read2 {bs : List UInt8} {dn : Int} {buf : List UInt8} {l : List (Int × Int)} (h : Sent bs dn buf l) (hv : IV 1000 dn buf l) (most : Int) (nN : Nat) (hn : readN dn most l = (nN : Int)) (hd : dn ≤ bs.length) :
    Sent bs (dn + nN) (buf.drop nN) l ∧ bs.take dn.toNat ++ buf.take nN = bs.take (dn + nN).toNat ∧ dn + nN ≤ bs.length := by
  rcases h.read hv most nN hn with h1 | ⟨h1, h2, h3⟩
  · exact h1
  · exact ⟨h2, h3, by omega⟩
/-- All has come. -/
theorem Sent.full {bs : List UInt8} {dn : Int} {buf : List UInt8} {l : List (Int × Int)} (h : Sent bs dn buf l) (hv : IV 1000 dn buf l) (hN : bs.length ≤ 1000) (hd : dn ≤ bs.length) :
    (∀ n, InS (takeR 1000 dn 0 bs.length l).2 n ↔ 0 ≤ n ∧ n < bs.length) ∧ readN dn 2000 (takeR 1000 dn 0 bs.length l).2 = bs.length - dn ∧ tot (takeR 1000 dn 0 bs.length l).2 = bs.length ∧ beyondL (takeR 1000 dn 0 bs.length l).2 bs.length = [] := by
  obtain ⟨t1, t2, -, -⟩ := take_law hv 0 bs.length
  have hdn := hv.dn
  generalize (takeR 1000 dn 0 bs.length l).2 = l2 at t1 t2 ⊢
  have hf : ∀ n, InS l2 n ↔ 0 ≤ n ∧ n < bs.length := fun n => by
    rw [t2 n]
    constructor
    · rintro (h1 | h1)
      · obtain ⟨x, hx, h2, h3⟩ := id h1
        have := (hv.wf.2 x hx).1
        exact ⟨by omega, h.inn n h1⟩
      · omega
    · intro h1
      by_cases h2 : n < dn
      · exact .inl (hv.low n h1.1 h2)
      · exact .inr (by omega)
  have hnx : ∀ d : Int, 0 ≤ d → d ≤ bs.length → nextL l2 d = bs.length := fun d h0 h1 => by
    obtain ⟨n1, n2, n3, -⟩ := next_law t1 d
    rw [Int.max_eq_left h0] at n1 n3
    by_cases h2 : nextL l2 d < bs.length
    · exact absurd ((hf _).2 ⟨by omega, h2⟩) n2
    · by_cases h3 : (bs.length : Int) < nextL l2 d
      · have := (hf _).1 (n3 bs.length h1 h3)
        omega
      · omega
  refine ⟨hf, ?_, ?_, ?_⟩
  · unfold readN
    rw [hnx dn hdn.1 hd]
    omega
  · have := tot_eq_add (l := l2) (c := []) t1 WF.nil (f := 0) (t := bs.length) (Int.le_refl _) (by omega) (by omega) (fun n => by rw [hf n]; exact ⟨.inr, fun h => h.resolve_left InS.nil⟩) (fun n h => absurd h InS.nil)
    simp [tot] at this
    exact this
  · unfold beyondL beyondF
    rw [hnx bs.length (by omega) (by omega)]
    have : (l2.filter fun x => !decide (x.1 ≤ (bs.length : Int))) = [] := List.filter_eq_nil_iff.2 fun x hx => by
      have h1 := (hf x.1).1 ⟨x, hx, Int.le_refl _, (t1.2 x hx).2.1⟩
      simp
      omega
    rw [this]
    rfl
/-- A piece of bytes. -/
theorem cut_an {w : World} (s : Sl) (hs : s.ok w) (a n : Nat) (h : a + n ≤ s.2.1.length) : ∃ ad3 : Option Addr, Sl.ok w (ad3, (s.2.1.drop a).take n, s.2.2 - a) ∧
    ∀ W, (Instr.sliceAt 47 (.slice s.1 s.2.1.length s.2.2) (some (.int .i64 (a : Int))) (some (.int .i64 ((a : Int) + (n : Int)))) none).run Try.prog W = .ok (.slice ad3 n (s.2.2 - a)) W := by
  obtain ⟨h1, h2, h3⟩ := hs
  have hr := h1.cut s.2.2 a (a + n) (by omega) h h2
  have hl : ((s.2.1.drop a).take n).length = n := by simp; omega
  have hrun : ∀ W, (Instr.sliceAt 47 (.slice s.1 s.2.1.length s.2.2) (some (.int .i64 (a : Int))) (some (.int .i64 ((a : Int) + (n : Int)))) none).run Try.prog W = .ok (.slice (if s.2.2 = a then s.1 else s.1.map (·.add (a * 1))) n (s.2.2 - a)) W := fun W => by
    have := run_slice_rd (P := Try.prog) (w := W) 47 5 Try.underlying47 1 elem_u8.size s.1 s.2.1.length s.2.2 a (a + n) (by omega) (by omega) .i64 .i64
    rw [show a + n - a = n by omega] at this
    push_cast at this
    exact this
  generalize (if s.2.2 = a then s.1 else s.1.map (·.add (a * 1))) = ad3 at hr hrun
  refine ⟨ad3, ⟨?_, ?_, ?_⟩, hrun⟩
  · simp only
    rw [hl]
    rw [show a + n - a = n by omega, Nat.mul_one, Nat.mul_one, List.drop_take, show a + n - a = n by omega, ← u8s_drop, ← u8s_take] at hr
    exact hr
  · simp only; omega
  · simp only; omega
end Go.Proofs.Ytjjiemicacbmaaa
