/- An append as one step of a region that draws its order, and a store into an own row. -/
import Derived.Test.YtjjiemicacbmaaaLw5
import Derived.Deep.RegionLaw
namespace Go.Proofs.Ytjjiemicacbmaaa
open Go.RowKit Go.Shelf

theorem step_app {P : Program} {ops : Array Oper} {o : Oper} {a : Act} {w : World} {K : Act → World → Prop} {Q : Exit → Act → World → Prop} {E : Prop} (hgd : o.guard = none) (s x : Operand) (t : TypeId) (ho : o.op = .call { callee := .builtin .append, args := #[s, x], argTypes := #[t, t] })
    (base : Nat) (e : TypeId) (z : Value) (sz bytes : Nat) (ht : P.underlying t = some (.slice e)) (he : ElemOk P e z sz bytes)
    (v : Value) (n : Nat) (xs : List Value) (hs : a.eval s = v) (hown : w.ownsRow base e sz v n xs) {F : Nat → Prop} (ad : Option Addr) (m c : Nat) (news : List Value) (hx : a.eval x = .slice ad m c) (hr : Rd F w ad m sz news) (h1 : ∀ u ∈ news, u.oneCell' = true)
    (hbytes : (n + m) * bytes ≤ 140737488355328) (h63 : n + m ≤ 9223372036854775807) (hbase : base ≤ w.heap.size)
    (h : ∀ v' w', w'.ownsRow base e sz v' (n + m) (xs ++ news) → Upd (fun k => v.ownBlock = some k) w w' → Moved w v v' → (v' = .slice none 0 0 ↔ v = .slice none 0 0 ∧ m = 0) → Grew w w' v v' n m → K (a.put o.dst v') w') :
    if Region.wanted o (yielded ops a.tmps) = true then Oper.wp P o a w K Q else E := by
  have hw : Region.wanted o (yielded ops a.tmps) = true := by simp [Region.wanted, hgd]
  rw [if_pos hw]
  obtain ⟨v', w', hrun, h2, h3, h4, h5, h6⟩ := run_app (P := P) w base t o.type e z sz bytes ht he v n xs hown ad m c news hr h1 hbytes h63 hbase
  unfold Oper.wp execOp
  simp only [ho, resolve, invoke, builtin, Sem.run_bind, Sem.run_pure, Result.andThen_ok, List.map_toArray, List.map_cons, List.map_nil, hs, hx, hrun]
  exact h v' w' h2 h3 h4 h5 h6

/-- A store into an own row, at its place j. -/
theorem own_store {w : World} {base e sz n c g : Nat} {xs : List Value} (h : w.ownsRow base e sz (.slice (some ⟨g, 0, none⟩) n c) n xs) (j : Nat) (hj : j < xs.length) (u : Value) :
    (w.setCell ⟨g, j, none⟩ u).ownsRow base e sz (.slice (some ⟨g, 0, none⟩) n c) n (xs.set j u) := by
  obtain ⟨c', L, he, hn, hm, hb, hG, hL, hT⟩ := own_row (G := g) h rfl
  injection he with _ _ hc
  subst hc
  have hjL : j < L.length := by rw [← hT] at hj; simp at hj; omega
  refine own_mk (L := L.set j u) base hb hn hm ?_ (by simpa using hL) ?_
  · have hlt := lt_of_block hG
    have e1 : w.heap[g] = .cells (List.toArray L) e (0, 0) := by
      have := Array.getElem?_eq_getElem hlt
      rw [hG] at this
      exact (Option.some.inj this).symm
    simp only [World.setCell, Array.getElem?_modify, hG]
    simp
  · rw [← hT, List.take_set]
end Go.Proofs.Ytjjiemicacbmaaa
