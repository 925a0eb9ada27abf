/- Package inbox: laws for the walk of Take. -/
import Derived.Test.YtjjiemicacbmaaaIn1
import Derived.Test.YtjjiemicacbmaaaIw1
namespace Go.Proofs.Ytjjiemicacbmaaa
open Go.RowKit Go.Shelf

section
variable {P : Program} {ops : Array Oper} {o : Oper} {a : Act} {w : World}
/-- append(s, make([]T, k)...) as a step of a region that draws its order. -/
theorem step_appz {K : Act → World → Prop} {Q : Exit → Act → World → Prop} {E : Prop} (hgd : o.guard = none) (s x : Operand) (t tn : TypeId) (ho : o.op = .call { callee := .builtin .append, args := #[s, x], argTypes := #[t, tn] })
    (base : Nat) (e : TypeId) (z : Value) (sz bytes : Nat) (kn : IntKind) (ht : P.underlying t = some (.slice e)) (htn : P.underlying tn = some (.int kn)) (he : ElemOk P e z sz bytes) (hz1 : ∀ u ∈ z.cells.toList, u.oneCell' = true)
    (v : Value) (n : Nat) (xs : List Value) (hs : a.eval s = v) (hown : w.ownsRow base e sz v n xs) (k : IntKind) (m : Nat) {mi : Int} (hx : a.eval x = .int k mi) (hmi : mi = m)
    (hbytes : (n + m) * bytes ≤ 140737488355328) (h63 : n + m ≤ 9223372036854775807) (hbase : base ≤ w.heap.size)
    (h : ∀ v' w', w'.ownsRow base e sz v' (n + m) (xs ++ zeros z m) → Upd (fun k => v.ownBlock = some k) w w' → Moved w v v' → (v' = .slice none 0 0 ↔ v = .slice none 0 0 ∧ m = 0) → Grew w w' v v' n m → K (a.put o.dst v') w') :
    if Region.wanted o (yielded ops a.tmps) = true then Oper.wp P o a w K Q else E := by
  have hw : Region.wanted o (yielded ops a.tmps) = true := by simp [Region.wanted, hgd]
  rw [if_pos hw]
  subst hmi
  obtain ⟨v', w', hrun, h2, h3, h4, h5, h6⟩ := run_appz (P := P) w base t tn o.type e z sz bytes kn ht htn he hz1 v n xs hown k m hbytes h63 hbase
  unfold Oper.wp execOp
  simp only [ho, resolve, invoke, builtin, Sem.run_bind, Sem.run_pure, Result.andThen_ok, List.map_toArray, List.map_cons, List.map_nil, hs, hx, hrun]
  exact h v' w' h2 h3 h4 h5 h6
/-- x[l:m] as an equation. -/
theorem cut_mid (t e : TypeId) (ht : P.underlying t = some (.slice e)) (hsz : (P.info? e).map (·.size) = some 1) (g n c p q : Nat) (hpq : p + q ≤ c) (hq : 0 < q) (li mi : Int) (hli : li = p) (hmi : mi = (p + q : Nat)) :
    ∀ W, (Instr.sliceAt t (.slice (some ⟨g, 0, none⟩) n c) (some (.int .i64 li)) (some (.int .i64 mi)) none).run P W = .ok (.slice (some ⟨g, p, none⟩) q (c - p)) W := by
  subst hli hmi
  intro W
  rw [run_slice_rd t e ht 1 hsz _ n c p (p + q) (by omega) hpq .i64 .i64, cutAt (by omega), show p + q - p = q by omega]
  simp
end

theorem u8_cells : ∀ u ∈ (Value.int .u8 0).cells.toList, u.oneCell' = true := by
  intro u hu
  simp [Value.cells] at hu
  subst hu; rfl

/-- The bytes' row has grown, and the inbox bears it. -/
theorem IX.grow {w w2 : World} {bx bi : Nat} {o ob : Option Nat} {size done : Int} {buf buf' : List UInt8} {l : List (Int × Int)} {v v' : Value} {N : Nat}
    (h1 : w.heap[bx]? = some (.cells #[.int .i64 size, .int .i64 done, v, .pointer (some ⟨bi, 0, none⟩)] 99 (0, 0))) (h2 : w.ownsRow 0 5 1 v buf.length (u8s buf)) (h3 : v.ownBlock = ob) (h4 : RG w bi o l)
    (hown : w2.ownsRow 0 5 1 v' N (u8s buf')) (hN : N = buf'.length) (hu : Upd (fun k => v.ownBlock = some k) w w2) (hm : Moved w v v') :
    IX (w2.setCell ⟨bx, 2, none⟩ v') bx bi o v'.ownBlock size done buf' l ∧ Upd (ft bx bi o ob) w (w2.setCell ⟨bx, 2, none⟩ v') ∧ (v'.ownBlock = ob ∨ Fresh w v'.ownBlock) := by
  subst hN h3
  obtain ⟨q1, q2, q3, q4, q5⟩ := IX.apart (⟨v, h1, h2, rfl, h4⟩ : IX w bx bi o v.ownBlock size done buf l)
  have hb2 := hu.heap h1 q3
  have hR2 : RG w2 bi o l := h4.upd hu q4 (fun g hg e => q5 g e hg)
  have hu3 : Upd (fun k => k = bx) w2 (w2.setCell ⟨bx, 2, none⟩ v') := Upd.setCell (S := fun k => k = bx) (p := ⟨bx, 2, none⟩) (Upd.refl _ w2) (fun _ => rfl) _
  have hne : ∀ g, v'.ownBlock = some g → g ≠ bx := fun g hg => by
    obtain ⟨cur, hc⟩ := own_blk hown hg
    exact ne_of_type hc hb2 (by decide)
  refine ⟨⟨v', ?_, hu3.own hown hne, rfl, hR2.upd hu3 (fun e => q1 e.symm) (fun g hg e => q2 (e ▸ hg))⟩, ?_, ?_⟩
  · rw [heap_setCell_same w2 bx 2 _ _ v' hb2]; rfl
  · exact Upd.trans' (hu.mono (fun i _ e => .inr (.inr (.inr e)))) hu3 (fun i _ e => .inl e)
  · rcases hm with hm | hm
    · exact .inl hm
    · exact .inr fun g hg => by rw [hm] at hg; injection hg with hg; omega
theorem lay_take_in (L X : List Value) (p N : Nat) (hp : p ≤ L.length) (h : p + X.length ≤ N) : (lay L p X).take N = lay (L.take N) p X := by
  unfold lay
  rw [List.take_append, List.take_append, List.take_take, List.length_take, List.drop_take]
  rw [Nat.min_eq_left hp, List.take_of_length_le (l := X) (by omega), Nat.min_eq_right (by omega), List.take_take, Nat.min_eq_left (by omega)]
  congr 3
  omega
/-- Bytes have been copied into the bytes' row. -/
theorem IX.splice {w w' : World} {bx bi g c : Nat} {o : Option Nat} {size done : Int} {buf xs : List UInt8} {l : List (Int × Int)} {N p : Nat} {L : List Value}
    (h1 : w.heap[bx]? = some (.cells #[.int .i64 size, .int .i64 done, .slice (some ⟨g, 0, none⟩) N c, .pointer (some ⟨bi, 0, none⟩)] 99 (0, 0))) (hN : N = buf.length) (h4 : RG w bi o l)
    (hg : w.heap[g]? = some (.cells L.toArray 5 (0, 0))) (hL : L.length = c) (hNc : N ≤ c) (hcm : c ≤ maxLen) (hT : L.take N = u8s buf) (hp : p + xs.length ≤ N)
    (hg' : w'.heap[g]? = some (.cells (lay L p (u8s xs)).toArray 5 (0, 0))) (hu : Upd (fun k => k = g) w w') :
    IX w' bx bi o (some g) size done (lay8 buf p xs) l ∧ Upd (ft bx bi o (some g)) w w' := by
  have q1 : g ≠ bx := ne_of_type hg h1 (by decide)
  obtain ⟨u, h5⟩ := h4.blk
  have q2 : g ≠ bi := ne_of_type hg h5 (by decide)
  have q3 : o ≠ some g := fun e => by
    obtain ⟨cur, h6⟩ := h4.row e
    exact ne_of_type h6 hg (by decide) rfl
  have hxl : (u8s xs).length = xs.length := u8s_length xs
  refine ⟨⟨.slice (some ⟨g, 0, none⟩) N c, hu.heap h1 (fun e => q1 e.symm), ?_, rfl, h4.upd hu (fun e => q2 e.symm) (fun k hk e => q3 (e ▸ hk))⟩, hu.mono (fun i _ e => .inr (.inr (.inr (by rw [e]))))⟩
  rw [lay8_length _ _ _ (by omega), ← hN]
  refine own_mk (L := lay L p (u8s xs)) 0 (Nat.zero_le _) hNc hcm hg' (by rw [lay_length _ _ _ (by omega)]; omega) ?_
  rw [Nat.mul_one, lay_take_in _ _ _ _ (by omega) (by omega), hT]
  simp [lay, lay8, u8s, List.map_take, List.map_drop]
/-- An own row that is not empty: its block, its cells. -/
theorem own_at2 {w : World} {base e sz n c : Nat} {a : Option Addr} {xs : List Value} (h : w.ownsRow base e sz (.slice a n c) n xs) (hn : 0 < n) :
    ∃ g, a = some ⟨g, 0, none⟩ ∧ base ≤ g ∧ (∀ j u, xs[j]? = some u → w.cell? ⟨g, j, none⟩ = some u) ∧ (∀ j, w.frozen? ⟨g, j, none⟩ = false) := by
  obtain ⟨h1, h2⟩ := h
  rcases h2 with ⟨h2, -⟩ | ⟨g, cap, cur, he, hb, hg, h3, hm, hs, ht⟩
  · injection h2 with _ e2 _; omega
  · injection he with e1 _ e3
    subst e1 e3
    refine ⟨g, rfl, hb, fun j u hu => ?_, fun j => frozen_of_row w g j _ _ hg⟩
    rw [cell_of_row w g _ cur e (0, 0) hg]
    rw [← ht, List.getElem?_take] at hu
    split at hu
    · simpa using hu
    · cases hu
/-- A store into an own row, at its place j. -/
theorem own_store2 {w : World} {base e sz n c g : Nat} {xs : List Value} (h : w.ownsRow base e sz (.slice (some ⟨g, 0, none⟩) n c) n xs) (j : Nat) (hj : j < xs.length) (u : Value) :
    (w.setCell ⟨g, j, none⟩ u).ownsRow base e sz (.slice (some ⟨g, 0, none⟩) n c) n (xs.set j u) := by
  obtain ⟨c', L, he, hn, hm, hb, hG, hL, hT⟩ := own_row (G := g) h rfl
  injection he with _ _ hc
  subst hc
  have hjL : j < L.length := by rw [← hT] at hj; simp at hj; omega
  refine own_mk (L := L.set j u) base hb hn hm ?_ (by simpa using hL) ?_
  · have hlt := lt_of_block hG
    have e1 : w.heap[g] = .cells (List.toArray L) e (0, 0) := by
      have := Array.getElem?_eq_getElem hlt
      rw [hG] at this
      exact (Option.some.inj this).symm
    simp only [World.setCell, Array.getElem?_modify, hG]
    simp
  · rw [← hT, List.take_set]
/-- Its ranges have changed. -/
theorem IX.ranges {w w' : World} {bx bi : Nat} {o ob o2 : Option Nat} {size done : Int} {buf : List UInt8} {l l2 : List (Int × Int)} (h : IX w bx bi o ob size done buf l) (hm : RGmoved w w' bi o o2) (hr : RG w' bi o2 l2) :
    IX w' bx bi o2 ob size done buf l2 ∧ Upd (ft bx bi o ob) w w' := by
  obtain ⟨q1, q2, q3, q4, q5⟩ := h.apart
  obtain ⟨v, h1, h2, rfl, h4⟩ := h
  refine ⟨⟨v, hm.heap h1 ⟨q1, q2⟩, hm.1.own h2 (fun g hg e => e.elim (fun e => q4 (e ▸ hg)) (fun e => q5 g hg e)), rfl, hr⟩, hm.1.mono fun i _ e => ?_⟩
  rcases e with e | e
  · exact .inr (.inl e)
  · exact .inr (.inr (.inl e))
theorem ft_sub {w : World} {bx bi : Nat} {o o' ob ob' : Option Nat} (h1 : o' = o ∨ Fresh w o') (h2 : ob' = ob ∨ Fresh w ob') : ∀ i, i < w.heap.size → ft bx bi o' ob' i → ft bx bi o ob i := by
  intro i hi h
  rcases h with h | h | h | h
  · exact .inl h
  · exact .inr (.inl h)
  · rcases h1 with e | e
    · exact .inr (.inr (.inl (e ▸ h)))
    · have := e i h; omega
  · rcases h2 with e | e
    · exact .inr (.inr (.inr (e ▸ h)))
    · have := e i h; omega
theorem moved_trans {w w1 : World} {o o1 o2 : Option Nat} (hsz : w.heap.size ≤ w1.heap.size) (h1 : o1 = o ∨ Fresh w o1) (h2 : o2 = o1 ∨ Fresh w1 o2) : o2 = o ∨ Fresh w o2 := by
  rcases h2 with e | e
  · rw [e]; exact h1
  · exact .inr fun g hg => Nat.le_trans hsz (e g hg)
end Go.Proofs.Ytjjiemicacbmaaa
