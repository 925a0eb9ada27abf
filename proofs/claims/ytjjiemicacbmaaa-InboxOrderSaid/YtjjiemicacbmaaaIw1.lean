/- Plain law of an inbox's Take: bytes are laid into the gaps. -/
import Derived.Test.YtjjiemicacbmaaaLw3
namespace Go.Proofs.Ytjjiemicacbmaaa

/-- Bytes xs over those of B, from p on. -/
def lay8 (B : List UInt8) (p : Nat) (xs : List UInt8) : List UInt8 := B.take p ++ (xs ++ B.drop (p + xs.length))
theorem lay8_length (B : List UInt8) (p : Nat) (xs : List UInt8) (h : p + xs.length ≤ B.length) : (lay8 B p xs).length = B.length := by simp [lay8]; omega
theorem lay8_out (B : List UInt8) (p : Nat) (xs : List UInt8) (h : p + xs.length ≤ B.length) (i : Nat) (hi : i < p ∨ p + xs.length ≤ i) : (lay8 B p xs)[i]? = B[i]? := by
  unfold lay8
  rcases hi with hi | hi
  · rw [List.getElem?_append_left (by simp; omega), List.getElem?_take, if_pos hi]
  · rw [List.getElem?_append_right (by simp; omega), List.length_take, Nat.min_eq_left (by omega), List.getElem?_append_right (by omega), List.getElem?_drop]
    congr 1; omega
theorem lay8_in (B : List UInt8) (p : Nat) (xs : List UInt8) (h : p + xs.length ≤ B.length) (i : Nat) (h1 : p ≤ i) (h2 : i < p + xs.length) : (lay8 B p xs)[i]? = xs[i - p]? := by
  unfold lay8
  rw [List.getElem?_append_right (by simp; omega), List.length_take, Nat.min_eq_left (by omega), List.getElem?_append_left (by omega)]

/-- What the bytes at l's numbers are: those of buf, those of bs elsewhere. -/
def Vals (done at_ : Int) (bs buf : List UInt8) (l lk : List (Int × Int)) (bk : List UInt8) : Prop :=
  ∀ n, done ≤ n → InS lk n → (InS l n → bk[(n - done).toNat]? = buf[(n - done).toNat]?) ∧ (¬ InS l n → bk[(n - done).toNat]? = bs[(n - at_).toNat]?)
/-- Behind some rounds of Take: the numbers from f0 to f are there. -/
structure TI (size done at_ : Int) (bs buf : List UInt8) (l : List (Int × Int)) (f0 f : Int) (lk : List (Int × Int)) (bk : List UInt8) : Prop where
  wf : WF lk
  num : ∀ n, InS lk n ↔ InS l n ∨ (f0 ≤ n ∧ n < f)
  len : (bk.length : Int) ≤ size
  ge : buf.length ≤ bk.length
  vals : Vals done at_ bs buf l lk bk
theorem TI.start {size done at_ : Int} {bs buf : List UInt8} {l : List (Int × Int)} (f0 : Int) (hw : WF l) (hl : (buf.length : Int) ≤ size) : TI size done at_ bs buf l f0 f0 l buf :=
  ⟨hw, fun n => ⟨.inl, fun h => h.elim id (fun h => by omega)⟩, hl, Nat.le_refl _, fun n _ h => ⟨fun _ => rfl, fun h' => absurd h h'⟩⟩
/-- What an inbox keeps. -/
structure IV (size done : Int) (buf : List UInt8) (l : List (Int × Int)) : Prop where
  sz : 1 ≤ size ∧ size ≤ 1048576
  dn : 0 ≤ done ∧ done ≤ 2305843009213693952
  wf : WF l
  top : ∀ n, InS l n → n < done + size
  low : ∀ n, 0 ≤ n → n < done → InS l n
  inb : ∀ n, done ≤ n → InS l n → n - done < buf.length
  len : (buf.length : Int) ≤ size
theorem add_is {l m : List (Int × Int)} (hl : WF l) (hm : WF m) {f t : Int} (h0 : 0 ≤ f) (h1 : t ≤ 4611686018427387904) (h : ∀ n, InS m n ↔ InS l n ∨ (f ≤ n ∧ n < t)) : m = (addL l f t).2 := by
  obtain ⟨a1, a2, -, -⟩ := add_law hl f t
  refine hm.eq a1 fun n => ?_
  rw [h n, a2 n, Int.max_eq_left h0, Int.min_eq_left h1]
theorem TI.isAdd {size done at_ : Int} {bs buf : List UInt8} {l : List (Int × Int)} {f0 f : Int} {lk : List (Int × Int)} {bk : List UInt8} (h : TI size done at_ bs buf l f0 f lk bk) (hw : WF l) (h0 : 0 ≤ f0) (h1 : f ≤ 4611686018427387904) : lk = (addL l f0 f).2 :=
  add_is hw h.wf h0 h1 h.num
/-- A round. -/
theorem TI.step {size done at_ : Int} {bs buf : List UInt8} {l : List (Int × Int)} {f0 f to0 g1 g2 : Int} {lk : List (Int × Int)} {bk : List UInt8} (h : TI size done at_ bs buf l f0 f lk bk) (hv : IV size done buf l)
    (hf : f0 ≤ f) (hfd : done ≤ f0) (hfa : at_ ≤ f0) (hta : to0 ≤ at_ + bs.length) (htd : to0 ≤ done + size) (ht : to0 ≤ 4611686018427387904) (hft : f < to0) (hg : gapL lk f to0 = ((g1, g2), true))
    (r : Nat) (hr : r = (g2 - done).toNat - bk.length) (xs : List UInt8) (hx : xs = (bs.drop (g1 - at_).toNat).take (g2 - g1).toNat) :
    f ≤ g1 ∧ g1 < g2 ∧ g2 ≤ to0 ∧ TI size done at_ bs buf l f0 g2 (addL lk g1 g2).2 (lay8 (bk ++ List.replicate r 0) (g1 - done).toNat xs) ∧ (addL lk g1 g2).1 = tot (addL lk g1 g2).2 - tot lk ∧ xs.length = (g2 - g1).toNat ∧ (g1 - done).toNat + xs.length ≤ (bk ++ List.replicate r 0).length := by
  obtain ⟨g, -⟩ := gap_law h.wf f to0
  rw [hg] at g
  obtain ⟨e1, e2, e3, e4, e5, -⟩ := g rfl
  simp only at e1 e2 e3 e4 e5
  have hd0 := hv.dn.1
  have hxl : xs.length = (g2 - g1).toNat := by rw [hx, List.length_take, List.length_drop]; omega
  obtain ⟨a1, a2, a3, -⟩ := add_law h.wf g1 g2
  have hB : (bk ++ List.replicate r (0 : UInt8)).length = bk.length + r := by simp
  have hfit : (g1 - done).toNat + xs.length ≤ (bk ++ List.replicate r (0 : UInt8)).length := by rw [hB, hxl, hr]; omega
  refine ⟨by omega, e2, by omega, ⟨a1, fun n => ?_, ?_, ?_, fun n hn hi => ?_⟩, a3, hxl, hfit⟩
  · rw [a2 n, h.num n]
    constructor
    · rintro ((h | h) | h)
      · exact .inl h
      · exact .inr (by omega)
      · exact .inr (by omega)
    · rintro (h' | h')
      · exact .inl (.inl h')
      · by_cases c1 : n < f
        · exact .inl (.inr (by omega))
        · by_cases c2 : n < g1
          · exact .inl ((h.num n).1 (e4 n (by omega) c2))
          · exact .inr (by omega)
  · rw [lay8_length _ _ _ hfit, hB]
    have := h.len
    omega
  · rw [lay8_length _ _ _ hfit, hB]
    have := h.ge
    omega
  · rw [a2 n] at hi
    by_cases hk : InS lk n
    · have hout : n < g1 ∨ g2 ≤ n := by
        by_cases c : n < g1
        · exact .inl c
        · by_cases c2 : g2 ≤ n
          · exact .inr c2
          · exact absurd hk (e5 n (by omega) (by omega))
      obtain ⟨v1, v2⟩ := h.vals n hn hk
      have hlt : (n - done).toNat < bk.length := by
        by_cases hl : InS l n
        · have := hv.inb n hn hl
          have := h.ge
          omega
        · have hn2 := ((h.num n).1 hk).resolve_left hl
          have := v2 hl
          have hs : (n - at_).toNat < bs.length := by omega
          rw [List.getElem?_eq_getElem hs] at this
          exact (List.getElem?_eq_some_iff.1 this).1
      rw [lay8_out _ _ _ hfit _ (by omega), List.getElem?_append_left hlt]
      exact ⟨v1, v2⟩
    · have hn2 : g1 ≤ n ∧ n < g2 := by
        have := hi.resolve_left hk
        omega
      have hnl : ¬ InS l n := fun e => hk ((h.num n).2 (.inl e))
      refine ⟨fun e => absurd e hnl, fun _ => ?_⟩
      rw [lay8_in _ _ _ hfit _ (by omega) (by omega), hx, List.getElem?_take, if_pos (by omega), List.getElem?_drop]
      congr 1; omega
/-- The end: no gap is left, or all has been seen. -/
theorem TI.stop {size done at_ : Int} {bs buf : List UInt8} {l : List (Int × Int)} {f0 f to0 : Int} {lk : List (Int × Int)} {bk : List UInt8} (h : TI size done at_ bs buf l f0 f lk bk) (h0 : 0 ≤ f0) (ht : to0 ≤ 4611686018427387904) (hft : f < to0) {g : Int × Int} (hg : gapL lk f to0 = (g, false)) :
    TI size done at_ bs buf l f0 to0 lk bk := by
  obtain ⟨-, g⟩ := gap_law h.wf f to0
  rw [hg] at g
  obtain ⟨-, e⟩ := g rfl
  refine ⟨h.wf, fun n => ?_, h.len, h.ge, h.vals⟩
  rw [h.num n]
  constructor
  · rintro (h | h)
    · exact .inl h
    · exact .inr (by omega)
  · rintro (h' | h')
    · exact .inl h'
    · by_cases c : n < f
      · exact .inr (by omega)
      · exact (h.num n).1 (e n (by omega) (by omega))

/-- What Take answers, and which numbers are there then. -/
def takeR (size done at_ : Int) (m : Nat) (l : List (Int × Int)) : Int × List (Int × Int) :=
  if at_ < 0 ∨ done + size ≤ at_ then (0, l) else addL l (max at_ done) (min (at_ + m) (done + size))
theorem take_law {size done : Int} {buf : List UInt8} {l : List (Int × Int)} (hv : IV size done buf l) (at_ : Int) (m : Nat) :
    WF (takeR size done at_ m l).2 ∧ (∀ n, InS (takeR size done at_ m l).2 n ↔ InS l n ∨ (0 ≤ at_ ∧ at_ < done + size ∧ max at_ done ≤ n ∧ n < min (at_ + m) (done + size))) ∧ (takeR size done at_ m l).1 = tot (takeR size done at_ m l).2 - tot l ∧ (takeR size done at_ m l).2.length ≤ l.length + 1 := by
  have := hv.sz
  have := hv.dn
  unfold takeR
  split
  · rename_i h
    exact ⟨hv.wf, fun n => ⟨.inl, fun h' => h'.elim id (fun h' => by omega)⟩, by simp, by simp⟩
  · rename_i h
    obtain ⟨a1, a2, a3, a4⟩ := add_law hv.wf (max at_ done) (min (at_ + m) (done + size))
    refine ⟨a1, fun n => ?_, a3, a4⟩
    rw [a2 n]
    constructor
    · rintro (h | h)
      · exact .inl h
      · exact .inr (by omega)
    · rintro (h | h)
      · exact .inl h
      · exact .inr (by omega)
/-- What is kept is kept by Take. -/
theorem IV.take {size done : Int} {buf bk bs : List UInt8} {l : List (Int × Int)} (hv : IV size done buf l) (at_ : Int) (hb : (bk.length : Int) ≤ size) (hg : buf.length ≤ bk.length) (hvals : Vals done at_ bs buf l (takeR size done at_ bs.length l).2 bk) : IV size done bk (takeR size done at_ bs.length l).2 := by
  obtain ⟨t1, t2, -, -⟩ := take_law hv at_ bs.length
  refine ⟨hv.sz, hv.dn, t1, fun n hn => ?_, fun n h1 h2 => (t2 n).2 (.inl (hv.low n h1 h2)), fun n hn hi => ?_, hb⟩
  · rcases (t2 n).1 hn with h | h
    · exact hv.top n h
    · omega
  · obtain ⟨v1, v2⟩ := hvals n hn hi
    have hlt : (n - done).toNat < bk.length := by
      by_cases hl : InS l n
      · have := hv.inb n hn hl
        omega
      · have hn2 := ((t2 n).1 hi).resolve_left hl
        have := v2 hl
        have hs : (n - at_).toNat < bs.length := by omega
        rw [List.getElem?_eq_getElem hs] at this
        exact (List.getElem?_eq_some_iff.1 this).1
    omega
theorem IV.new (size : Int) : IV (max 1 (min size 1048576)) 0 [] [] := ⟨by omega, by omega, WF.nil, fun _ h => absurd h InS.nil, fun n h1 h2 => by omega, fun _ _ h => absurd h InS.nil, by simp; omega⟩
/-- How many are ready to be read. -/
theorem IV.here {size done : Int} {buf : List UInt8} {l : List (Int × Int)} (hv : IV size done buf l) : done ≤ nextL l done ∧ nextL l done ≤ done + size ∧ nextL l done - done ≤ buf.length ∧ (∀ n, done ≤ n → n < nextL l done → InS l n) ∧ ¬ InS l (nextL l done) := by
  obtain ⟨n1, n2, n3, n4⟩ := next_law hv.wf done
  have := hv.dn
  rw [Int.max_eq_left hv.dn.1] at n1 n3 n4
  have hsz := hv.sz
  refine ⟨n1, ?_, ?_, n3, n2⟩
  · by_cases h : nextL l done = done
    · omega
    · have := hv.top (nextL l done - 1) (n3 _ (by omega) (by omega))
      omega
  · by_cases h : nextL l done = done
    · omega
    · have := hv.inb (nextL l done - 1) (by omega) (n3 _ (by omega) (by omega))
      omega
/-- How many Read takes. -/
def readN (done most : Int) (l : List (Int × Int)) : Int := min (nextL l done - done) (max most 0)
theorem IV.readN {size done : Int} {buf : List UInt8} {l : List (Int × Int)} (hv : IV size done buf l) (most : Int) : 0 ≤ readN done most l ∧ readN done most l ≤ buf.length ∧ readN done most l ≤ size ∧ readN done most l ≤ nextL l done - done := by
  have := hv.here
  unfold Proofs.Ytjjiemicacbmaaa.readN
  omega
/-- What is kept is kept by Read. -/
theorem IV.read {size done : Int} {buf : List UInt8} {l : List (Int × Int)} (hv : IV size done buf l) (most : Int) (hd : done + size ≤ 2305843009213693952) : IV size (done + Proofs.Ytjjiemicacbmaaa.readN done most l) (buf.drop (Proofs.Ytjjiemicacbmaaa.readN done most l).toNat) l := by
  obtain ⟨r1, r2, r3, r4⟩ := hv.readN most
  have h := hv.here
  have := hv.dn
  refine ⟨hv.sz, by omega, hv.wf, fun n hn => by have := hv.top n hn; omega, fun n h1 h2 => ?_, fun n h1 h2 => ?_, ?_⟩
  · by_cases c : n < done
    · exact hv.low n h1 c
    · exact h.2.2.2.1 n (by omega) (by omega)
  · have := hv.inb n (by omega) h2
    rw [List.length_drop]; omega
  · rw [List.length_drop]; have := hv.len; omega
end Go.Proofs.Ytjjiemicacbmaaa
