/- The arguments of the laws of inbox and outbox: bytes; calls with bytes. -/
import Derived.Test.YtjjiemicacbmaaaOp1
import Derived.Test.YtjjiemicacbmaaaIn1
namespace Go.Proofs.Ytjjiemicacbmaaa
open Go.ChangeShapes Go.WideShapes Go.ChangeAt Go.RowKit Go.Deep

/-- A slice of bytes: where it lies, its bytes, its capacity. -/
abbrev Sl := Option Addr × List UInt8 × Nat
def Sl.val (s : Sl) : Value := .slice s.1 s.2.1.length s.2.2
def Sl.ok (w : World) (s : Sl) : Prop := Rd (fun k => k < w.heap.size) w s.1 s.2.1.length 1 (u8s s.2.1) ∧ s.2.1.length ≤ s.2.2 ∧ s.2.1.length ≤ 9223372036854775807

theorem byte_wf {n : Int} (h : (Lit.int .u8 n).wf = true) : 0 ≤ n ∧ n ≤ 255 := by
  have : IntKind.u8.min ≤ n ∧ n ≤ IntKind.u8.max := by simpa [Lit.wf] using h
  exact this

variable {H : Type} {enc : TypeId × Value → H} {P : Program} {w : World} {sp : Nat → Bool} {held : Bool}
theorem bytes_of_trod {t e : TypeId} {fuel : Nat} {cs : List Value} {x : DataW H × List MemPlace} (ht : P.underlying t = some (.slice e)) (he : P.underlying e = some (.int .u8)) (hc : P.cellsOf e = 1) (h : DataW.trod enc P w 0 sp held fuel t cs = some x) :
    ∃ s : Sl, cs = [s.val] ∧ s.ok w := by
  have hml : maxLen = 9223372036854775807 := rfl
  rcases open_ints ht he hc h with ⟨hcs, -⟩ | ⟨a', len, cap, zs, hcs, -, hl, hm, hz, -, hcell, hwz⟩
  · exact ⟨(none, [], 0), hcs, ⟨rfl, .inl rfl⟩, Nat.le_refl _, by simp⟩
  · have hlen : len ≤ zs.length := by rw [hz]; split <;> omega
    have hbl : ((zs.take len).map fun n => UInt8.ofNat n.toNat).length = len := by simp; omega
    refine ⟨(some a', (zs.take len).map fun n => UInt8.ofNat n.toNat, cap), by rw [hcs]; simp only [Sl.val]; rw [hbl], ?_, by simp only; rw [hbl]; exact hl, by simp only; rw [hbl]; omega⟩
    simp only
    rw [hbl]
    refine ⟨by rw [u8s_length, hbl]; omega, ?_⟩
    by_cases h0 : len = 0
    · exact .inl h0
    · obtain ⟨b, off, spot⟩ := a'
      have hspot : spot = none := by simpa [Addr.add] using World.cell?_spot (hcell 0 (by omega))
      subst hspot
      have hb0 := World.block_lt_of_cell? w _ (hcell 0 (by omega))
      have hb1 : b < w.heap.size := by
        have : ((⟨b, off, none⟩ : Addr).add 0) = ⟨b, off + 0, none⟩ := addr_add b off 0
        rw [this] at hb0; exact hb0
      refine .inr ⟨b, off, rfl, hb1, fun j u hj => ?_⟩
      have hjl : j < len := by
        have := (List.getElem?_eq_some_iff.1 hj).1
        rw [u8s_length, hbl] at this; exact this
      have hjz : j < zs.length := by omega
      rw [← addr_add, hcell j hjz]
      have hz1 : zs.getD j 0 = zs[j] := by simp [hjz]
      obtain ⟨w1, w2⟩ := byte_wf (hwz _ (List.getElem_mem hjz))
      simp only [u8s, List.map_map, List.getElem?_map, List.getElem?_take, if_pos hjl, List.getElem?_eq_getElem hjz, Option.map_some, Function.comp, Option.some.injEq] at hj
      rw [hz1, ← hj]
      congr 2
      have : (UInt8.ofNat zs[j].toNat).toNat = zs[j].toNat := by
        rw [UInt8.toNat_ofNat']; omega
      rw [this]; omega
/-- A slice of bytes that came in. -/
theorem open_bytes {r : Reach} {b0 : Nat} {t e : TypeId} {v : Value} {d : DataW H} {p : List MemPlace} (ht : P.underlying t = some (.slice e)) (he : P.underlying e = some (.int .u8)) (hc : P.cellsOf e = 1)
    (hval : Value.okWide P w r b0 t v) (h : DataW.Trod enc P w 0 sp held t v d p) : ∃ s : Sl, v = s.val ∧ s.ok w := by
  obtain ⟨a, n, c, rfl⟩ := okWide_slice ht hval
  obtain ⟨fuel, hf⟩ := h
  obtain ⟨s, h1, h2⟩ := bytes_of_trod ht he hc hf
  refine ⟨s, ?_, h2⟩
  simpa [Value.cells, Sl.val] using h1

/-- Calls with bytes, as cells. -/
def flatS (L : List (Int × Int × Sl)) : List Value := L.flatMap fun x => [.int .i64 x.1, .int .i64 x.2.1, x.2.2.val]
theorem flatS_length (L : List (Int × Int × Sl)) : (flatS L).length = L.length * 3 := by
  induction L with
  | nil => rfl
  | cons x l ih => simp only [flatS, List.flatMap_cons, List.length_append, List.length_cons, List.length_nil] at ih ⊢; omega
theorem flatS_get (L : List (Int × Int × Sl)) : ∀ k (hk : k < L.length), (flatS L)[k * 3]? = some (.int .i64 L[k].1) ∧ (flatS L)[k * 3 + 1]? = some (.int .i64 L[k].2.1) ∧ (flatS L)[k * 3 + 2]? = some L[k].2.2.val := by
  induction L with
  | nil => intro k hk; simp at hk
  | cons x l ih =>
    intro k hk
    cases k with
    | zero => exact ⟨rfl, rfl, rfl⟩
    | succ k =>
      have h := ih k (by simpa using hk)
      have e1 : (k + 1) * 3 = k * 3 + 3 := by omega
      have e2 : flatS (x :: l) = [.int .i64 x.1, .int .i64 x.2.1, x.2.2.val] ++ flatS l := rfl
      rw [e1, e2]
      simp only [List.getElem_cons_succ]
      refine ⟨?_, ?_, ?_⟩
      · rw [List.getElem?_append_right (by simp)]; simpa using h.1
      · rw [List.getElem?_append_right (by simp)]; simpa using h.2.1
      · rw [List.getElem?_append_right (by simp)]; simpa using h.2.2
theorem open_opsS {r : Reach} {b0 : Nat} {t e ti tb te : TypeId} {f0 f1 f2 : Field} {v : Value} {d : DataW H} {p : List MemPlace} (ht : P.underlying t = some (.slice e)) (he : P.underlying e = some (.struct #[f0, f1, f2]))
    (hi : P.underlying ti = some (.int .i64)) (htb : P.underlying tb = some (.slice te)) (hte : P.underlying te = some (.int .u8)) (hce : P.cellsOf te = 1) (hc : P.cellsOf e = 3) (hci : P.cellsOf ti = 1) (hcb : P.cellsOf tb = 1)
    (h0 : f0.type = ti ∧ f0.offset = 0) (h1 : f1.type = ti ∧ f1.offset = 1) (h2 : f2.type = tb ∧ f2.offset = 2)
    (hval : Value.okWide P w r b0 t v) (h : DataW.Trod enc P w 0 sp held t v d p) :
    ∃ (a : Option Addr) (c : Nat) (L : List (Int × Int × Sl)), v = .slice a L.length c ∧ Rd (fun _ => True) w a L.length 3 (flatS L) ∧ L.length ≤ 9223372036854775807 ∧ ∀ x ∈ L, I64 x.1 ∧ I64 x.2.1 ∧ x.2.2.ok w := by
  obtain ⟨a, n, c, rfl⟩ := okWide_slice ht hval
  obtain ⟨fuel, hf⟩ := h
  rcases open_slice ht hf with ⟨hcs, -⟩ | ⟨a', len, cap, m, q, D, Pl, hcs, -, hl, hm, hmm, -, hel⟩
  · simp [Value.cells] at hcs
    obtain ⟨rfl, rfl, rfl⟩ := hcs
    exact ⟨none, 0, [], rfl, ⟨rfl, .inl rfl⟩, by decide, fun x hx => nomatch hx⟩
  · simp [Value.cells] at hcs
    obtain ⟨rfl, rfl, rfl⟩ := hcs
    have hml : maxLen = 9223372036854775807 := rfl
    have hnm : n ≤ m := by rw [hmm]; split <;> omega
    have hex : ∀ i, i < n → ∃ x : Int × Int × Sl, (w.cell? ((a'.add (i * 3)).add 0) = some (.int .i64 x.1) ∧ w.cell? ((a'.add (i * 3)).add 1) = some (.int .i64 x.2.1) ∧ w.cell? ((a'.add (i * 3)).add 2) = some x.2.2.val) ∧ I64 x.1 ∧ I64 x.2.1 ∧ x.2.2.ok w := by
      intro i hin
      obtain ⟨cs, hcs, htr⟩ := hel i (by omega)
      rw [hc] at hcs
      obtain ⟨-, hlen, hat⟩ := World.cells?_some hcs
      obtain ⟨xs, k, -, -, -, hxl, hfl⟩ := DataW.trod_struct he htr
      match cs, hlen with
      | [c0, c1, c2], _ =>
        have g0 := hfl 0 f0 rfl
        have g1 := hfl 1 f1 rfl
        have g2 := hfl 2 f2 rfl
        rw [h0.1, h0.2, hci] at g0
        rw [h1.1, h1.2, hci] at g1
        rw [h2.1, h2.2, hcb] at g2
        match xs, hxl with
        | [y0, y1, y2], _ =>
          obtain ⟨z0, e0, -, w0⟩ := DataW.trod_int hi g0
          obtain ⟨z1, e1, -, w1⟩ := DataW.trod_int hi g1
          obtain ⟨s, e2, hs⟩ := bytes_of_trod htb hte hce g2
          simp at e0 e1 e2
          subst e0 e1 e2
          exact ⟨(z0, z1, s), ⟨hat 0 (by omega), hat 1 (by omega), hat 2 (by omega)⟩, i64_of w0, i64_of w1, hs⟩
    obtain ⟨L, hL, hLp⟩ := list_of _ n hex
    subst hL
    refine ⟨some a', c, L, rfl, ⟨flatS_length L, ?_⟩, by omega, fun x hx => ?_⟩
    · by_cases hn0 : L.length = 0
      · exact .inl hn0
      · have hk := (hLp 0 _ (List.getElem?_eq_getElem (by omega))).1.1
        obtain ⟨b, off, spot⟩ := a'
        have hspot : spot = none := by simpa [Addr.add] using World.cell?_spot hk
        subst hspot
        refine .inr ⟨b, off, rfl, trivial, fun j u hj => ?_⟩
        have hjl : j < (flatS L).length := (List.getElem?_eq_some_iff.1 hj).1
        rw [flatS_length] at hjl
        have hq : j / 3 < L.length := by omega
        obtain ⟨⟨k0, k1, k2⟩, -⟩ := hLp (j / 3) _ (List.getElem?_eq_getElem hq)
        obtain ⟨m0, m1, m2⟩ := flatS_get L (j / 3) hq
        simp only [addr_add] at k0 k1 k2
        have hcase : j % 3 = 0 ∨ j % 3 = 1 ∨ j % 3 = 2 := by omega
        rcases hcase with e | e | e
        · rw [show off + j = off + j / 3 * 3 + 0 by omega, k0, ← hj, ← m0]; congr 1; omega
        · rw [show off + j = off + j / 3 * 3 + 1 by omega, k1, ← hj, ← m1]; congr 1; omega
        · rw [show off + j = off + j / 3 * 3 + 2 by omega, k2, ← hj, ← m2]; congr 1; omega
    · obtain ⟨i, hi', hx'⟩ := List.mem_iff_getElem.1 hx
      exact (hLp i x (by rw [List.getElem?_eq_getElem hi', hx'])).2
end Go.Proofs.Ytjjiemicacbmaaa
