/- Words on memory: what a call may have turned (Upd), what a slice reads as (Rd), laws of the walk over them. No program stands in it. -/
import Derived.WalkKit
import Derived.WalkSpells
import Derived.WalkLawsBesides
import Derived.Outline
import Derived.Deep.QuietTactic
import Derived.BigQuiet
import Derived.Deep.LoopGhost
import Derived.Laws.CopyOwn
import Derived.OneCell
namespace Go.Proofs.Ytjjiemicacbmaaa
open Go.RowKit

/-- w' is w but for the blocks in S and for new ones. -/
structure Upd (S : Nat → Prop) (w w' : World) : Prop where
  os : w'.os = w.os
  tape : w'.tape = w.tape
  output : w'.output = w.output
  size : w.heap.size ≤ w'.heap.size
  block : ∀ k, k < w.heap.size → ¬ S k → w'.heap[k]? = w.heap[k]?

theorem hide {p : Prop} (h : p) : Hid p := h
/-- No old block. -/
def none_ : Nat → Prop := fun _ => False

theorem Upd.refl (S : Nat → Prop) (w : World) : Upd S w w := ⟨rfl, rfl, rfl, Nat.le_refl _, fun _ _ _ => rfl⟩
theorem Upd.trans' {S T : Nat → Prop} {a b c : World} (h : Upd S a b) (k : Upd T b c) (hT : ∀ i, i < a.heap.size → T i → S i) : Upd S a c :=
  ⟨k.os.trans h.os, k.tape.trans h.tape, k.output.trans h.output, Nat.le_trans h.size k.size,
    fun i hi hs => (k.block i (Nat.lt_of_lt_of_le hi h.size) (fun ht => hs (hT i hi ht))).trans (h.block i hi hs)⟩
theorem Upd.trans {S : Nat → Prop} {a b c : World} (h : Upd S a b) (k : Upd S b c) : Upd S a c := h.trans' k fun _ _ => id
theorem Upd.thenNew {S : Nat → Prop} {a b c : World} (h : Upd S a b) (k : Upd none_ b c) : Upd S a c := h.trans' k fun _ _ hf => hf.elim
theorem Upd.mono {S T : Nat → Prop} {a b : World} (h : Upd S a b) (hT : ∀ i, i < a.heap.size → S i → T i) : Upd T a b := (Upd.refl T a).trans' h hT
theorem Upd.alloc {S : Nat → Prop} {a w : World} (h : Upd S a w) (o : Obj) : Upd S a (w.alloc o) :=
  h.thenNew ⟨rfl, rfl, rfl, by simp, fun k hk _ => (by rw [show (w.alloc o).heap = w.heap.push o from rfl, Array.getElem?_push, if_neg (by omega)])⟩
theorem Upd.drew {S : Nat → Prop} {a w : World} (h : Upd S a w) : Upd S a w.drew := ⟨h.os, h.tape, h.output, h.size, h.block⟩
theorem Upd.drewN {S : Nat → Prop} {a w : World} (h : Upd S a w) (n : Nat) : Upd S a (w.drewN n) := ⟨h.os, h.tape, h.output, h.size, h.block⟩
theorem Upd.setCell {S : Nat → Prop} {a w : World} (h : Upd S a w) {p : Addr} (hp : p.block < a.heap.size → S p.block) (u : Value) : Upd S a (w.setCell p u) :=
  h.trans' (T := fun k => k = p.block) ⟨rfl, rfl, rfl, by simp, fun k _ hk => heap_setCell_other w p k u hk⟩ (fun i hi e => by rw [e] at hi ⊢; exact hp hi)
theorem Upd.setRow {S : Nat → Prop} {a w : World} (h : Upd S a w) {g : Nat} (hp : g < a.heap.size → S g) (cs : Array Value) : Upd S a (w.setRow g cs) :=
  h.trans' (T := fun k => k = g) ⟨rfl, rfl, rfl, by simp, fun k _ hk => setRow_other w g k cs hk⟩ (fun i hi e => by rw [e] at hi ⊢; exact hp hi)
theorem Upd.below {S : Nat → Prop} {w w' : World} (h : Below w.heap.size w w') : Upd S w w' := ⟨h.os, h.tape, h.output, h.size, fun k hk _ => h.block k hk⟩
theorem Upd.grown {S : Nat → Prop} {w w' : World} {row : Option Nat} (h : w.grownBy w' row) (hr : ∀ k, row = some k → k < w.heap.size → S k) : Upd S w w' :=
  ⟨h.os, h.tape, h.output, h.size, fun k hk hs => h.block k hk (fun e => hs (hr k e.symm hk))⟩
theorem Upd.toBelow {w w' : World} (h : Upd none_ w w') : Below w.heap.size w w' := ⟨h.os, h.tape, h.output, h.size, fun k hk => h.block k hk (fun hf => hf.elim)⟩
theorem Upd.cell {S : Nat → Prop} {w w' : World} (h : Upd S w w') {p : Addr} {v : Value} (hc : w.cell? p = some v) (hs : ¬ S p.block) : w'.cell? p = some v :=
  (World.cell?_of_block (h.block p.block (World.block_lt_of_cell? w p hc) hs)).trans hc
theorem Upd.heap {S : Nat → Prop} {w w' : World} (h : Upd S w w') {k : Nat} {o : Obj} (hc : w.heap[k]? = some o) (hs : ¬ S k) : w'.heap[k]? = some o :=
  (h.block k (Array.getElem?_eq_some_iff.1 hc).1 hs).trans hc
theorem Upd.own {S : Nat → Prop} {w w' : World} (h : Upd S w w') {base e size n : Nat} {v : Value} {xs : List Value} (ho : w.ownsRow base e size v n xs) (hs : ∀ g, v.ownBlock = some g → ¬ S g) : w'.ownsRow base e size v n xs := by
  obtain ⟨h1, h2⟩ := ho
  refine ⟨h1, ?_⟩
  rcases h2 with h2 | ⟨g, cap, cur, rfl, hb, hg, rest⟩
  · exact .inl h2
  · exact .inr ⟨g, cap, cur, rfl, hb, h.heap hg (hs g rfl), rest⟩

theorem heapA (w : World) (o : Obj) (k : Nat) : (w.alloc o).heap[k]? = if k = w.heap.size then some o else w.heap[k]? := by
  rw [show (w.alloc o).heap = w.heap.push o from rfl, Array.getElem?_push]
theorem heapA_at (w : World) (o : Obj) (k : Nat) (h : k = w.heap.size) : (w.alloc o).heap[k]? = some o := by rw [heapA, if_pos h]
theorem heapA_past (w : World) (o : Obj) (k : Nat) (h : k < w.heap.size) : (w.alloc o).heap[k]? = w.heap[k]? := by rw [heapA, if_neg (by omega)]
theorem heapN (w : World) (n k : Nat) : (w.drewN n).heap[k]? = w.heap[k]? := rfl
theorem heapD (w : World) (k : Nat) : w.drew.heap[k]? = w.heap[k]? := rfl
theorem Upd.one {S : Nat → Prop} {w w' : World} {k : Nat} {v : Value} {t : TypeId} (h : Upd S w w') (hb : w.heap[k]? = some (.cells #[v] t (0, 0))) (hs : ¬ S k) :
    w'.heap[k]? = some (.cells #[v] t (0, 0)) ∧ w'.cell? ⟨k, 0, none⟩ = some v ∧ w'.frozen? ⟨k, 0, none⟩ = false ∧ k < w'.heap.size :=
  have h1 := h.heap hb hs
  ⟨h1, cell_of_one h1, free_of_one h1, lt_of_block h1⟩
theorem Upd.two {S : Nat → Prop} {w w' : World} {k : Nat} {u v : Value} {t : TypeId} (h : Upd S w w') (hb : w.heap[k]? = some (.cells #[u, v] t (0, 0))) (hs : ¬ S k) :
    w'.heap[k]? = some (.cells #[u, v] t (0, 0)) ∧ w'.cell? ⟨k, 0, none⟩ = some u ∧ w'.cell? ⟨k, 1, none⟩ = some v ∧ w'.frozen? ⟨k, 0, none⟩ = false ∧ w'.frozen? ⟨k, 1, none⟩ = false ∧ k < w'.heap.size :=
  have h1 := h.heap hb hs
  ⟨h1, by rw [cell_of_row w' k 0 _ _ _ h1]; rfl, by rw [cell_of_row w' k 1 _ _ _ h1]; rfl, frozen_of_row w' k 0 _ _ h1, frozen_of_row w' k 1 _ _ h1, lt_of_block h1⟩

/-- What a slice value's elements read as: n elements of sz cells each; they lie in a block of F. -/
def Rd (F : Nat → Prop) (w : World) (a : Option Addr) (n sz : Nat) (xs : List Value) : Prop :=
  xs.length = n * sz ∧ (n = 0 ∨ ∃ b off, a = some ⟨b, off, none⟩ ∧ F b ∧ ∀ j u, xs[j]? = some u → w.cell? ⟨b, off + j, none⟩ = some u)

theorem Rd.upd {F S : Nat → Prop} {w w' : World} {a : Option Addr} {n sz : Nat} {xs : List Value} (h : Rd F w a n sz xs) (hu : Upd S w w') (hs : ∀ b, F b → ¬ S b) : Rd F w' a n sz xs := by
  obtain ⟨h1, h2⟩ := h
  refine ⟨h1, ?_⟩
  rcases h2 with h2 | ⟨b, off, ha, hF, hc⟩
  · exact .inl h2
  · exact .inr ⟨b, off, ha, hF, fun j u hj => hu.cell (hc j u hj) (hs b hF)⟩
theorem Rd.mono {F G : Nat → Prop} {w : World} {a : Option Addr} {n sz : Nat} {xs : List Value} (h : Rd F w a n sz xs) (hs : ∀ b, F b → G b) : Rd G w a n sz xs := by
  obtain ⟨h1, h2⟩ := h
  refine ⟨h1, ?_⟩
  rcases h2 with h2 | ⟨b, off, ha, hF, hc⟩
  · exact .inl h2
  · exact .inr ⟨b, off, ha, hs b hF, hc⟩
/-- A slice that owns its row reads as what it owns. -/
theorem rd_own {w : World} {base e size n : Nat} {v : Value} {xs : List Value} (ho : w.ownsRow base e size v n xs) : ∃ a cap, v = .slice a n cap ∧ n ≤ cap ∧ Rd (fun k => v.ownBlock = some k) w a n size xs := by
  obtain ⟨h1, h2⟩ := ho
  rcases h2 with ⟨rfl, rfl⟩ | ⟨g, cap, cur, rfl, hb, hg, hn, hm, hsz, ht⟩
  · exact ⟨none, 0, rfl, Nat.le_refl _, h1, .inl rfl⟩
  · refine ⟨_, cap, rfl, hn, h1, .inr ⟨g, 0, rfl, rfl, fun j u hu => ?_⟩⟩
    rw [cell_of_row w g _ cur e (0, 0) hg, Nat.zero_add]
    rw [← ht, List.getElem?_take] at hu
    split at hu
    · simpa using hu
    · cases hu
theorem rd_own' {w : World} {base e size n cap : Nat} {a : Option Addr} {xs : List Value} (ho : w.ownsRow base e size (.slice a n cap) n xs) : n ≤ cap ∧ Rd (fun k => (Value.slice a n cap).ownBlock = some k) w a n size xs := by
  obtain ⟨a', cap', he, h1, h2⟩ := rd_own ho
  injection he with e1 e2 e3
  subst e1 e3
  exact ⟨h1, h2⟩
theorem own_shape {w : World} {base e size n : Nat} {v : Value} {xs : List Value} (ho : w.ownsRow base e size v n xs) : ∃ a cap, v = .slice a n cap := by
  obtain ⟨a', cap', he, _⟩ := rd_own ho
  exact ⟨a', cap', he⟩
theorem own_take {w : World} {base e sz n c : Nat} {a : Option Addr} {xs : List Value} (h : w.ownsRow base e sz (.slice a n c) n xs) (k : Nat) (hk : k ≤ n) : w.ownsRow base e sz (.slice a k c) k (xs.take (k * sz)) := by
  obtain ⟨h1, h2⟩ := h
  refine ⟨by rw [List.length_take, h1]; exact Nat.min_eq_left (Nat.mul_le_mul_right _ hk), ?_⟩
  rcases h2 with ⟨h2, h3⟩ | ⟨g, cap, cur, he, hb, hg, hn, hm, hs, ht⟩
  · injection h2 with e1 e2 e3
    exact .inl ⟨by rw [e1, e3, show k = 0 by omega], by omega⟩
  · injection he with e1 e2 e3
    exact .inr ⟨g, cap, cur, by rw [e1, e3], hb, hg, by omega, hm, hs, by rw [← ht, List.take_take, Nat.min_eq_left (Nat.mul_le_mul_right _ hk)]⟩
/-- The row of an own slice, when its block is known. -/
theorem own_row {w : World} {base e sz n : Nat} {v : Value} {xs : List Value} (h : w.ownsRow base e sz v n xs) {G : Nat} (hG : v.ownBlock = some G) :
    ∃ c L, v = .slice (some ⟨G, 0, none⟩) n c ∧ n ≤ c ∧ c ≤ maxLen ∧ base ≤ G ∧ w.heap[G]? = some (.cells (List.toArray L) e (0, 0)) ∧ L.length = c * sz ∧ L.take (n * sz) = xs := by
  obtain ⟨h1, h2⟩ := h
  rcases h2 with ⟨rfl, _⟩ | ⟨g, cap, cur, rfl, hb, hg, hn, hm, hs, ht⟩
  · cases hG
  · obtain rfl : g = G := by injection hG
    exact ⟨cap, cur.toList, rfl, hn, hm, hb, by simpa using hg, by simpa using hs, ht⟩
theorem own_mk {w : World} (base : Nat) {e sz n c G : Nat} {L xs : List Value} (hb : base ≤ G) (hn : n ≤ c) (hc : c ≤ maxLen) (hg : w.heap[G]? = some (.cells (List.toArray L) e (0, 0))) (hL : L.length = c * sz) (ht : L.take (n * sz) = xs) :
    w.ownsRow base e sz (.slice (some ⟨G, 0, none⟩) n c) n xs := by
  refine ⟨?_, .inr ⟨G, c, L.toArray, rfl, hb, hg, hn, hc, by simpa using hL, by simpa using ht⟩⟩
  rw [← ht, List.length_take, hL, Nat.min_eq_left (Nat.mul_le_mul_right _ hn)]
theorem own_ge {w : World} {base e sz n : Nat} {v : Value} {xs : List Value} (h : w.ownsRow base e sz v n xs) : ∀ g, v.ownBlock = some g → base ≤ g := fun g hg => (h.lt g hg).1
theorem own_lt {w : World} {base e sz n : Nat} {v : Value} {xs : List Value} (h : w.ownsRow base e sz v n xs) : ∀ g, v.ownBlock = some g → g < w.heap.size := fun g hg => (h.lt g hg).2
theorem own_base {w : World} {base e sz n : Nat} {v : Value} {xs : List Value} (h : w.ownsRow base e sz v n xs) (B : Nat) (hB : ∀ g, v.ownBlock = some g → B ≤ g) : w.ownsRow B e sz v n xs := by
  obtain ⟨h1, h2⟩ := h
  refine ⟨h1, ?_⟩
  rcases h2 with h2 | ⟨g, cap, cur, rfl, hb, rest⟩
  · exact .inl h2
  · exact .inr ⟨g, cap, cur, rfl, hB g rfl, rest⟩
/-- The row's block is a new one. -/
def Fresh (w : World) (o : Option Nat) : Prop := ∀ g, o = some g → w.heap.size ≤ g
/-- A piece of it. -/
theorem Rd.cut {F : Nat → Prop} {w : World} {a : Option Addr} {n sz : Nat} {xs : List Value} (h : Rd F w a n sz xs) (c l m : Nat) (hl : l ≤ m) (hm : m ≤ n) (hc : n ≤ c) :
    Rd F w (if c = l then a else a.map (·.add (l * sz))) (m - l) sz ((xs.take (m * sz)).drop (l * sz)) := by
  obtain ⟨h1, h2⟩ := h
  have hlen : ((xs.take (m * sz)).drop (l * sz)).length = (m - l) * sz := by
    rw [List.length_drop, List.length_take, h1, Nat.min_eq_left (Nat.mul_le_mul_right _ hm), Nat.sub_mul]
  refine ⟨hlen, ?_⟩
  rcases h2 with h2 | ⟨b, off, ha, hF, hcell⟩
  · exact .inl (by omega)
  · rcases Nat.lt_or_ge l m with hlt | hge
    · refine .inr ⟨b, off + l * sz, ?_, hF, fun j u hu => ?_⟩
      · rw [if_neg (by omega), ha]
        simp only [Option.map_some, Addr.add]
        split
        · rename_i h0; simp [h0]
        · rfl
      · rw [List.getElem?_drop, List.getElem?_take] at hu
        split at hu
        · rw [Nat.add_assoc]; exact hcell _ _ hu
        · cases hu
    · exact .inl (by omega)

theorem Rd.from {F : Nat → Prop} {w : World} {g off n sz : Nat} {xs : List Value} (h : Rd F w (some ⟨g, off, none⟩) n sz xs) (l : Nat) (hl : l ≤ n) (ad' : Option Addr) (ha : l < n → ad' = some ⟨g, off + l * sz, none⟩) :
    Rd F w ad' (n - l) sz (xs.drop (l * sz)) := by
  obtain ⟨h1, h2⟩ := h
  refine ⟨by rw [List.length_drop, h1, Nat.sub_mul], ?_⟩
  rcases h2 with h2 | ⟨b, o, he, hF, hc⟩
  · exact .inl (by omega)
  · injection he with he
    injection he with e1 e2
    subst e1 e2
    rcases Nat.lt_or_ge l n with hlt | hge
    · exact .inr ⟨g, off + l * sz, ha hlt, hF, fun j u hu => by rw [List.getElem?_drop] at hu; rw [Nat.add_assoc]; exact hc _ _ hu⟩
    · exact .inl (by omega)

/-- A slice expression x[l:m] of a slice. -/
theorem run_slice_rd {P : Program} {w : World} (t e : TypeId) (ht : P.underlying t = some (.slice e)) (sz : Nat) (hsz : (P.info? e).map (·.size) = some sz) (a : Option Addr) (n c l m : Nat) (hl : l ≤ m) (hm : m ≤ c) (k1 k2 : IntKind) :
    (Instr.sliceAt t (.slice a n c) (some (.int k1 l)) (some (.int k2 m)) none).run P w = .ok (.slice (if c = l then a else a.map (·.add (l * sz))) (m - l) (c - l)) w := by
  obtain ⟨i, hi, rfl⟩ := Option.map_eq_some_iff.1 hsz
  simp [Instr.sliceAt, Instr.slice, Instr.sliceBounds, Instr.sliceBound, run_underlying ht, asIntOf, sizeOf, typeInfo, hi, hl, hm]

theorem run_slice_rd_hi {P : Program} {w : World} (t e : TypeId) (ht : P.underlying t = some (.slice e)) (sz : Nat) (hsz : (P.info? e).map (·.size) = some sz) (a : Option Addr) (n c m : Nat) (hm : m ≤ c) (k2 : IntKind) :
    (Instr.sliceAt t (.slice a n c) none (some (.int k2 m)) none).run P w = .ok (.slice (if c = 0 then a else a.map (·.add (0 * sz))) (m - 0) (c - 0)) w := by
  obtain ⟨i, hi, rfl⟩ := Option.map_eq_some_iff.1 hsz
  simp [Instr.sliceAt, Instr.slice, Instr.sliceBounds, Instr.sliceBound, run_underlying ht, asIntOf, sizeOf, typeInfo, hi, hm]

theorem run_slice_rd_lo {P : Program} {w : World} (t e : TypeId) (ht : P.underlying t = some (.slice e)) (sz : Nat) (hsz : (P.info? e).map (·.size) = some sz) (a : Option Addr) (n c l : Nat) (hl : l ≤ n) (k1 : IntKind) :
    (Instr.sliceAt t (.slice a n c) (some (.int k1 l)) none none).run P w = .ok (.slice (if c = l then a else a.map (·.add (l * sz))) (n - l) (c - l)) w := by
  obtain ⟨i, hi, rfl⟩ := Option.map_eq_some_iff.1 hsz
  simp [Instr.sliceAt, Instr.slice, Instr.sliceBounds, Instr.sliceBound, run_underlying ht, asIntOf, sizeOf, typeInfo, hi, hl]

/-- max, min of two ints in one piece. -/
theorem run_max2 (P : Program) (ats : Array TypeId) (t : TypeId) (k : IntKind) (x y : Int) (w : World) : (Builtin.max_ ats t #[.int k x, .int k y]).run P w = .ok (.int k (max x y)) w := by
  simp only [Builtin.max_, List.foldlM, Builtin.max2, bind_pure]
  rw [Int.max_def]
  have : (if y > x then y else x) = if x ≤ y then y else x := by split <;> split <;> omega
  rw [this]; rfl
theorem run_min2 (P : Program) (ats : Array TypeId) (t : TypeId) (k : IntKind) (x y : Int) (w : World) : (Builtin.min_ ats t #[.int k x, .int k y]).run P w = .ok (.int k (min x y)) w := by
  simp only [Builtin.min_, List.foldlM, Builtin.min2, bind_pure]
  rw [Int.min_def]
  have : (if y < x then y else x) = if x ≤ y then x else y := by split <;> split <;> omega
  rw [this]; rfl

section
variable {P : Program} {ops : Array Oper} {rest : List Oper} {o : Oper} {a : Act} {w : World} {Q : Exit → Act → World → Prop}
/-- The walk's law of x[l:m], of a slice that reads as xs: behind it stands an address of which the piece's reading is known. -/
theorem wpL_cut (hgd : o.guard = none) (t : TypeId) (x lo hi : Operand) (ho : o.op = .slice t x (some lo) (some hi) none) (e : TypeId) (ht : P.underlying t = some (.slice e)) (sz : Nat) (hsz : (P.info? e).map (·.size) = some sz)
    {F : Nat → Prop} {ad : Option Addr} {n : Nat} {xs : List Value} (hr : Rd F w ad n sz xs) (c : Nat) (hx : a.eval x = .slice ad n c) (k1 k2 : IntKind) (l m : Nat) {li mi : Int} (hlo : a.eval lo = .int k1 li) (hhi : a.eval hi = .int k2 mi) (hli : li = l) (hmi : mi = m) (hl : l ≤ m) (hm : m ≤ n) (hc : n ≤ c)
    (h : ∀ ad', Rd F w ad' (m - l) sz ((xs.take (m * sz)).drop (l * sz)) → wpList P ops Q rest (a.put o.dst (.slice ad' (m - l) (c - l))) w) : wpList P ops Q (o :: rest) a w := by
  subst hli hmi
  refine wpList_plain hgd fun K hK => ?_
  unfold Oper.wp execOp
  simp only [ho, Option.map_some, Option.map_none, hx, hlo, hhi, Sem.run_bind, run_slice_rd t e ht sz hsz ad n c l m hl (Nat.le_trans hm hc) k1 k2, Result.andThen_ok, Sem.run_pure]
  exact hK _ _ (h _ (hr.cut c l m hl hm hc))
end

theorem addr_add (b off j : Nat) : (⟨b, off, none⟩ : Addr).add j = ⟨b, off + j, none⟩ := by
  unfold Addr.add; split
  · rename_i h; subst h; rfl
  · rfl

/-- What is known of an element type: zero value, cells, bytes. -/
def ElemOk (P : Program) (e : TypeId) (z : Value) (sz bytes : Nat) : Prop := (P.info? e).map (fun i => (i.zero, i.size, i.bytes)) = some (some z, sz, bytes) ∧ z.cells.size = sz ∧ 0 < sz

theorem ElemOk.size {P : Program} {e : TypeId} {z : Value} {sz bytes : Nat} (h : ElemOk P e z sz bytes) : (P.info? e).map (·.size) = some sz := by
  obtain ⟨h1, _, _⟩ := h
  cases hi : P.info? e with
  | none => rw [hi] at h1; cases h1
  | some i => rw [hi] at h1; simp at h1; simp [h1]

/-- Behind an append: the slice is where it was, or in a new block. -/
def Moved (w : World) (v v' : Value) : Prop := v'.ownBlock = v.ownBlock ∨ v'.ownBlock = some w.heap.size

/-- Whether an append had room. -/
def Grew (w w' : World) (v v' : Value) (n m : Nat) : Prop := ∀ a c, v = .slice a n c → (c < n + m → v'.ownBlock = some w.heap.size ∧ Upd none_ w w') ∧ (n + m ≤ c → v' = .slice a (n + m) c)

/-- append onto an own slice, of whatever slice that reads. -/
theorem run_app {P : Program} (w : World) (base : Nat) (t ty e : TypeId) (z : Value) (sz bytes : Nat) (ht : P.underlying t = some (.slice e)) (he : ElemOk P e z sz bytes)
    (v : Value) (n : Nat) (xs : List Value) (hown : w.ownsRow base e sz v n xs) {F : Nat → Prop} (ad : Option Addr) (m c : Nat) (news : List Value) (hr : Rd F w ad m sz news) (h1 : ∀ u ∈ news, u.oneCell' = true)
    (hbytes : (n + m) * bytes ≤ 140737488355328) (h63 : n + m ≤ 9223372036854775807) (hbase : base ≤ w.heap.size) :
    ∃ v' w', (Builtin.append_ #[t, t] ty #[v, .slice ad m c]).run P w = .ok v' w' ∧ w'.ownsRow base e sz v' (n + m) (xs ++ news) ∧ Upd (fun k => v.ownBlock = some k) w w' ∧ Moved w v v' ∧
      (v' = .slice none 0 0 ↔ v = .slice none 0 0 ∧ m = 0) ∧ Grew w w' v v' n m := by
  obtain ⟨hinfo, hz3, hsz⟩ := he
  cases hi : P.info? e with
  | none => rw [hi] at hinfo; cases hinfo
  | some i =>
  rw [hi] at hinfo
  simp only [Option.map_some, Option.some.injEq, Prod.mk.injEq] at hinfo
  obtain ⟨hz, rfl, rfl⟩ := hinfo
  have hml : maxLen = 9223372036854775807 := rfl
  by_cases hm : m = 0
  · subst hm
    have hnews : news = [] := List.eq_nil_of_length_eq_zero (by simpa using hr.1)
    subst hnews
    refine ⟨v, w, ?_, by simpa using hown, Upd.refl _ _, .inl rfl, by simp, fun a' c' he => ⟨fun hlt => ?_, fun _ => by rw [he]; rfl⟩⟩
    rotate_left
    · exfalso
      obtain ⟨a2, c2, he2, hnc, _⟩ := rd_own hown
      rw [he] at he2
      injection he2 with _ _ h3
      omega
    rcases hown.2 with ⟨rfl, rfl⟩ | ⟨g, cap, cur, rfl, hbg, hg, hnc, hcm, hcs, htake⟩
    · cases ad <;> simp [Builtin.append_, run_underlying ht, sizeOf, typeInfo, hi, Builtin.lenOf, Builtin.firstCells, loadCells, loadCellsFrom]
    · cases ad <;> simp [Builtin.append_, run_underlying ht, sizeOf, typeInfo, hi, Builtin.lenOf, Builtin.firstCells, loadCells, loadCellsFrom, hnc, storeCells]
  · obtain ⟨b, off, rfl, hF, hc⟩ := hr.2.resolve_left hm
    have hnews : ∀ j u, news[j]? = some u → w.cell? ((⟨b, off, none⟩ : Addr).add j) = some u := fun j u hu => by rw [addr_add]; exact hc j u hu
    have hl := hr.1
    have hlen : (xs ++ news).length = (n + m) * i.size := by rw [List.length_append, hown.1, hl, Nat.add_mul]
    have grown : ∀ (old : Nat), old < n + m → ∀ S : Nat → Prop,
        (w.drew.alloc (.cells (xs.toArray ++ news.toArray ++ Builtin.zeroCells z.cells (grownCap w (n + m) old e - (n + m))) e)).ownsRow base e i.size
          (.slice (some ⟨w.heap.size, 0, none⟩) (n + m) (grownCap w (n + m) old e)) (n + m) (xs ++ news) ∧
        Upd S w (w.drew.alloc (.cells (xs.toArray ++ news.toArray ++ Builtin.zeroCells z.cells (grownCap w (n + m) old e - (n + m))) e)) := by
      intro old ho S
      have hge := grownCap_ge w (n + m) old e
      have hcm : grownCap w (n + m) old e ≤ maxLen := grownCap_le_maxLen w (n + m) old e (by omega)
      refine ⟨⟨hlen, .inr ⟨w.heap.size, _, _, rfl, hbase, heap_alloc_new w.drew _, hge, hcm, ?_, ?_⟩⟩, ((Upd.refl S w).drew).alloc _⟩
      · simp only [Array.size_append, List.size_toArray, size_zeroCells, hz3, hown.1, hl, ← Nat.add_mul]
        congr 1
        omega
      · simp only [Array.toList_append, List.append_assoc]
        rw [← List.append_assoc, ← hlen]
        exact List.take_left
    rcases hown.2 with ⟨rfl, rfl⟩ | ⟨g, cap, cur, rfl, hbg, hg, hnc, hcm, hcs, htake⟩
    · have hx : xs = [] := List.eq_nil_of_length_eq_zero (by simpa using hown.1)
      subst hx
      have hr2 := run_append_nil (P := P) w t ty e i z ht hi hz ⟨b, off, none⟩ m c news hl hnews (by omega) (by omega) (by have hb := hbytes; simp only [Nat.zero_add] at hb; omega)
      have hgr := grown 0 (by omega) (fun k => Value.ownBlock (.slice none 0 0) = some k)
      simp only [Nat.zero_add, List.nil_append, Array.empty_append] at hgr ⊢
      exact ⟨_, _, hr2, hgr.1, hgr.2, .inr rfl, by simp [hm], fun a' c' he => ⟨fun _ => ⟨rfl, by have hx := (grown 0 (by omega) none_).2; simpa using hx⟩, fun hle => by injection he with _ _ h3; omega⟩⟩
    · by_cases hroom : n + m ≤ cap
      · have hfit : n * i.size + news.length ≤ cur.size := by rw [hl, hcs, ← Nat.add_mul]; exact Nat.mul_le_mul_right _ hroom
        have hr2 := run_append_room (P := P) w t ty e i ht hi g n cap cur hg ⟨b, off, none⟩ m c news hl hnews h1 hroom hfit
        refine ⟨_, _, hr2, ⟨hlen, .inr ⟨g, cap, _, rfl, hbg, setRow_heap w g cur _ e _ hg, hroom, hcm, ?_, ?_⟩⟩, Upd.setRow (S := fun k => Value.ownBlock (.slice (some ⟨g, 0, none⟩) n cap) = some k) (Upd.refl _ w) (fun _ => rfl) _, .inl rfl, by simp, fun a' c' he => ⟨fun hlt => by injection he with _ _ h3; omega, fun _ => by injection he with h1 _ h3; rw [h1, h3]⟩⟩
        · simp only [List.size_toArray, List.length_append, List.length_take, List.length_drop, Array.length_toList]
          omega
        · rw [htake, ← hlen]
          exact List.take_left
      · have holds : ∀ j u, xs[j]? = some u → w.cell? ((⟨g, 0, none⟩ : Addr).add j) = some u := hown.cells (g := g) rfl
        have hr2 := run_append_grow (P := P) w t ty e i z ht hi hz ⟨g, 0, none⟩ n cap xs hown.1 holds ⟨b, off, none⟩ m c news hl hnews (by omega) (by omega) (growslice_fits (by omega) hbytes)
        have hgr := grown cap (by omega) (fun k => Value.ownBlock (.slice (some ⟨g, 0, none⟩) n cap) = some k)
        exact ⟨_, _, hr2, hgr.1, hgr.2, .inr rfl, by simp, fun a' c' he => ⟨fun _ => ⟨rfl, (grown cap (by omega) none_).2⟩, fun hle => by injection he with _ _ h3; omega⟩⟩

section
variable {P : Program} {ops : Array Oper} {rest : List Oper} {o : Oper} {a : Act} {w : World} {Q : Exit → Act → World → Prop}
theorem wpL_app (hgd : o.guard = none) (s x : Operand) (t : TypeId) (ho : o.op = .call { callee := .builtin .append, args := #[s, x], argTypes := #[t, t] })
    (base : Nat) (e : TypeId) (z : Value) (sz bytes : Nat) (ht : P.underlying t = some (.slice e)) (he : ElemOk P e z sz bytes)
    (v : Value) (n : Nat) (xs : List Value) (hs : a.eval s = v) (hown : w.ownsRow base e sz v n xs) {F : Nat → Prop} (ad : Option Addr) (m c : Nat) (news : List Value) (hx : a.eval x = .slice ad m c) (hr : Rd F w ad m sz news) (h1 : ∀ u ∈ news, u.oneCell' = true)
    (hbytes : (n + m) * bytes ≤ 140737488355328) (h63 : n + m ≤ 9223372036854775807) (hbase : base ≤ w.heap.size)
    (h : ∀ v' w', w'.ownsRow base e sz v' (n + m) (xs ++ news) → Upd (fun k => v.ownBlock = some k) w w' → Moved w v v' → (v' = .slice none 0 0 ↔ v = .slice none 0 0 ∧ m = 0) → Grew w w' v v' n m → wpList P ops Q rest (a.put o.dst v') w') : wpList P ops Q (o :: rest) a w := by
  refine wpList_plain hgd fun K hK => ?_
  obtain ⟨v', w', hrun, h2, h3, h4, h5, h6⟩ := run_app (P := P) w base t o.type e z sz bytes ht he v n xs hown ad m c news hr h1 hbytes h63 hbase
  unfold Oper.wp execOp
  simp only [ho, resolve, invoke, builtin, Sem.run_bind, Sem.run_pure, Result.andThen_ok, List.map_toArray, List.map_cons, List.map_nil, hs, hx, hrun]
  exact hK _ _ (h v' w' h2 h3 h4 h5 h6)
end
end Go.Proofs.Ytjjiemicacbmaaa
