/- More laws of the walk: cuts of an own row, append of zeros, copy into an own row, clear. No program stands in it. -/
import Derived.Test.YtjjiemicacbmaaaOwn
import Derived.Lib.Overlaps
import Derived.Lib.AppendZeros
namespace Go.Proofs.Ytjjiemicacbmaaa
open Go.RowKit

/-- cs laid over L from place k on. -/
def lay (L : List Value) (k : Nat) (cs : List Value) : List Value := L.take k ++ (cs ++ L.drop (k + cs.length))
theorem lay_length (L : List Value) (k : Nat) (cs : List Value) (h : k + cs.length ≤ L.length) : (lay L k cs).length = L.length := by simp [lay]; omega
theorem lay_two (L p ys zs : List Value) (k : Nat) (hp : L.take k = p) (hk : p.length = k) (_hL : k + ys.length + zs.length ≤ L.length) :
    (lay (lay L k ys) (k + ys.length) zs).take (k + ys.length + zs.length) = p ++ ys ++ zs := by
  have h1 : (lay L k ys).take (k + ys.length) = p ++ ys := by
    unfold lay
    rw [hp, ← List.append_assoc]
    have e : (p ++ ys).length = k + ys.length := by simp [hk]
    rw [← e]; exact List.take_left
  unfold lay at h1 ⊢
  rw [h1]
  have e : (p ++ ys ++ zs).length = k + ys.length + zs.length := by simp [hk]; omega
  rw [← List.append_assoc, ← e]
  exact List.take_left
theorem lay_drop (L ys : List Value) (k r : Nat) (hk : k ≤ L.length) (hr : k + ys.length ≤ r) : (lay L k ys).drop r = L.drop r := by
  unfold lay
  rw [← List.append_assoc, List.drop_append, List.drop_eq_nil_of_le (by rw [List.length_append, List.length_take]; omega), List.nil_append, List.drop_drop]
  congr 1
  rw [List.length_append, List.length_take]; omega
theorem lay_take_le (L ys : List Value) (k r : Nat) (hk : k ≤ L.length) (hr : r ≤ k) : (lay L k ys).take r = L.take r := by
  unfold lay
  rw [List.take_append_of_le_length (by rw [List.length_take]; omega), List.take_take, Nat.min_eq_left hr]
theorem lay_nil (L : List Value) (k : Nat) : lay L k [] = L := by simp [lay]

theorem run_loadCells_rd {P : Program} {F : Nat → Prop} {w : World} {ad : Option Addr} {n sz : Nat} {xs : List Value} (hr : Rd F w ad n sz xs) (k : Nat) (hk : k ≤ n) (c : Nat) :
    (Builtin.firstCells sz k (.slice ad n c)).run P w = .ok (xs.take (k * sz)).toArray w := by
  by_cases h0 : k = 0
  · subst h0
    cases ad <;> simp [Builtin.firstCells, loadCells, loadCellsFrom]
  · obtain ⟨b, off, rfl, _, hc⟩ := hr.2.resolve_left (by omega)
    have hlen : (xs.take (k * sz)).length = k * sz := by rw [List.length_take, hr.1]; exact Nat.min_eq_left (Nat.mul_le_mul_right _ hk)
    have h := run_loadCells_list (P := P) w ⟨b, off, none⟩ (xs.take (k * sz)) (fun j v hj => by
      rw [addr_add]
      rw [List.getElem?_take] at hj
      split at hj
      · exact hc _ _ hj
      · cases hj)
    rw [hlen] at h
    simp [Builtin.firstCells, h]

section
variable {P : Program} {ops : Array Oper} {rest : List Oper} {o : Oper} {a : Act} {w : World} {Q : Exit → Act → World → Prop}

/-- copy into a row that is known whole. -/
theorem run_copy_lay (t ty e : TypeId) (ht : P.underlying t = some (.slice e)) (sz : Nat) (hsz : (P.info? e).map (·.size) = some sz)
    (dp : Option Addr) (dLen dCap : Nat) (sp : Option Addr) (sLen sCap : Nat) {F : Nat → Prop} (xs : List Value) (hr : Rd F w sp sLen sz xs) (h1 : ∀ u ∈ xs.take (min sLen dLen * sz), u.oneCell' = true)
    (g off : Nat) (cur : List Value) (et : TypeId) (hg : w.heap[g]? = some (.cells cur.toArray et (0, 0))) (hpos : min sLen dLen = 0 ∨ dp = some ⟨g, off, none⟩) (hfit : off + min sLen dLen * sz ≤ cur.length) :
    ∃ w', (Builtin.copy_ #[t, t] ty #[.slice dp dLen dCap, .slice sp sLen sCap]).run P w = .ok (.int .i64 (min sLen dLen : Nat)) w' ∧
      w'.heap[g]? = some (.cells (lay cur off (xs.take (min sLen dLen * sz))).toArray et (0, 0)) ∧ Upd (fun k => k = g) w w' := by
  obtain ⟨i, hi, rfl⟩ := Option.map_eq_some_iff.1 hsz
  have hf := run_loadCells_rd (P := P) hr (min sLen dLen) (Nat.min_le_left _ _) sCap
  have hlen : (xs.take (min sLen dLen * i.size)).length = min sLen dLen * i.size := by rw [List.length_take, hr.1]; exact Nat.min_eq_left (Nat.mul_le_mul_right _ (Nat.min_le_left _ _))
  generalize hX : xs.take (min sLen dLen * i.size) = X at hf hlen
  have h1X : ∀ u ∈ X, u.oneCell' = true := fun u hu => h1 u (hX ▸ hu)
  by_cases h0 : min sLen dLen = 0
  · have hX0 : X = [] := List.eq_nil_of_length_eq_zero (by rw [hlen, h0, Nat.zero_mul])
    subst hX0
    refine ⟨w, ?_, by rw [lay_nil]; exact hg, Upd.refl _ _⟩
    cases dp <;> simp [Builtin.copy_, run_underlying ht, Builtin.lenOf, sizeOf, typeInfo, hi, show Nat.min sLen dLen = min sLen dLen from rfl, hf, storeCells, goInt]
  · obtain rfl := hpos.resolve_left h0
    have hst := run_storeCells_at P g off et X 0 cur.toArray w hg (by simp; rw [hlen]; omega) h1X
    refine ⟨_, ?_, setRow_heap w g _ _ et _ hg, Upd.setRow (S := fun k => k = g) (Upd.refl _ w) (fun _ => rfl) _⟩
    simp [Builtin.copy_, run_underlying ht, Builtin.lenOf, sizeOf, typeInfo, hi, show Nat.min sLen dLen = min sLen dLen from rfl, hf, hst, goInt, lay]
theorem wpL_copy (hgd : o.guard = none) (d s : Operand) (t : TypeId) (ho : o.op = .call { callee := .builtin .copy, args := #[d, s], argTypes := #[t, t] }) (e : TypeId) (ht : P.underlying t = some (.slice e)) (sz : Nat) (hsz : (P.info? e).map (·.size) = some sz)
    (dp : Option Addr) (dLen dCap : Nat) (sp : Option Addr) (sLen sCap : Nat) (hd : a.eval d = .slice dp dLen dCap) (hs : a.eval s = .slice sp sLen sCap) {F : Nat → Prop} (xs : List Value) (hr : Rd F w sp sLen sz xs) (k : Nat) (hk : min sLen dLen = k) (h1 : ∀ u ∈ xs.take (k * sz), u.oneCell' = true) (g off : Nat) (cur : List Value) (et : TypeId) (hg : w.heap[g]? = some (.cells cur.toArray et (0, 0))) (hpos : k = 0 ∨ dp = some ⟨g, off, none⟩) (hfit : off + k * sz ≤ cur.length)
    (h : ∀ w', w'.heap[g]? = some (.cells (lay cur off (xs.take (k * sz))).toArray et (0, 0)) → Upd (fun k => k = g) w w' → wpList P ops Q rest (a.put o.dst (.int .i64 k)) w') : wpList P ops Q (o :: rest) a w := by
  subst hk
  refine wpList_plain hgd fun K hK => ?_
  obtain ⟨w', hrun, h2, h3⟩ := run_copy_lay (P := P) t o.type e ht sz hsz dp dLen dCap sp sLen sCap xs hr h1 g off cur et hg hpos hfit
  unfold Oper.wp execOp
  simp only [ho, resolve, invoke, builtin, Sem.run_bind, Sem.run_pure, Result.andThen_ok, List.map_toArray, List.map_cons, List.map_nil, hd, hs, hrun]
  exact hK _ _ (h w' h2 h3)

/-- zero cells of n elements. -/
def zeros (z : Value) (n : Nat) : List Value := (Builtin.zeroCells z.cells n).toList
theorem zeros_length {P : Program} {e : TypeId} {z : Value} {sz bytes : Nat} (he : ElemOk P e z sz bytes) (n : Nat) : (zeros z n).length = n * sz := by
  unfold zeros; rw [Array.length_toList, size_zeroCells, he.2.1]
theorem zeros_int (k : IntKind) (n : Nat) : zeros (.int k 0) n = List.replicate n (.int k 0) := by
  unfold zeros Builtin.zeroCells
  simp only [Value.cells, Array.toList_map, Array.toList_range, List.size_toArray, List.length_cons, List.length_nil, Nat.zero_add, Nat.mul_one]
  apply List.ext_getElem
  · simp
  · intro i h1 h2; simp [Nat.mod_one]
theorem zeros_one {P : Program} {e : TypeId} {z : Value} {sz bytes : Nat} (he : ElemOk P e z sz bytes) (hz : ∀ u ∈ z.cells.toList, u.oneCell' = true) (n : Nat) : ∀ u ∈ zeros z n, u.oneCell' = true := by
  intro u hu
  unfold zeros Builtin.zeroCells at hu
  simp only [Array.toList_map, List.mem_map] at hu
  obtain ⟨i, _, rfl⟩ := hu
  have hlt : i % z.cells.size < z.cells.size := Nat.mod_lt _ (by rw [he.2.1]; exact he.2.2)
  rw [getElem!_pos z.cells _ hlt]
  exact hz _ (by simp)

/-- append(s, make([]T, k)...) onto an own slice. -/
theorem run_appz (w : World) (base : Nat) (t tn ty e : TypeId) (z : Value) (sz bytes : Nat) (kn : IntKind) (ht : P.underlying t = some (.slice e)) (htn : P.underlying tn = some (.int kn)) (he : ElemOk P e z sz bytes) (hz1 : ∀ u ∈ z.cells.toList, u.oneCell' = true)
    (v : Value) (n : Nat) (xs : List Value) (hown : w.ownsRow base e sz v n xs) (k : IntKind) (m : Nat)
    (hbytes : (n + m) * bytes ≤ 140737488355328) (h63 : n + m ≤ 9223372036854775807) (hbase : base ≤ w.heap.size) :
    ∃ v' w', (Builtin.append_ #[t, tn] ty #[v, .int k m]).run P w = .ok v' w' ∧ w'.ownsRow base e sz v' (n + m) (xs ++ zeros z m) ∧ Upd (fun k => v.ownBlock = some k) w w' ∧ Moved w v v' ∧
      (v' = .slice none 0 0 ↔ v = .slice none 0 0 ∧ m = 0) ∧ Grew w w' v v' n m := by
  have hzl := zeros_length he m
  have hz1' := zeros_one he hz1 m
  obtain ⟨hinfo, hz3, hsz⟩ := he
  cases hi : P.info? e with
  | none => rw [hi] at hinfo; cases hinfo
  | some i =>
  rw [hi] at hinfo
  simp only [Option.map_some, Option.some.injEq, Prod.mk.injEq] at hinfo
  obtain ⟨hz, rfl, rfl⟩ := hinfo
  have hml : maxLen = 9223372036854775807 := rfl
  have hw : IntKind.i64.wrap (m : Int) = m := by rw [IntKind.wrap_i64]; omega
  have hneg : ¬ ((m : Int) < 0) := by omega
  have hmb : m * i.bytes ≤ (n + m) * i.bytes := Nat.mul_le_mul_right _ (by omega)
  have h48i : ¬ (281474976710656 < (m : Int) * (i.bytes : Int)) := by rw [← Int.natCast_mul]; omega
  by_cases hm : m = 0
  · subst hm
    have hz0 : zeros z 0 = [] := List.eq_nil_of_length_eq_zero (by rw [hzl]; simp)
    rw [hz0]
    refine ⟨v, w, ?_, by simpa using hown, Upd.refl _ _, .inl rfl, by simp, fun a' c' he => ⟨fun hlt => ?_, fun _ => by rw [he]; rfl⟩⟩
    rotate_left
    · exfalso
      obtain ⟨a2, c2, he2, hnc, _⟩ := rd_own hown
      rw [he] at he2
      injection he2 with _ _ h3
      omega
    rcases hown.2 with ⟨rfl, rfl⟩ | ⟨g, cap, cur, rfl, hbg, hg, hnc, hcm, hcs, htake⟩
    · simp [Builtin.append_, run_underlying ht, run_underlying htn, sizeOf, typeInfo, zeroValue, hi, hz, asInt, asIntOf, IntKind.wrap_i64]
    · simp [Builtin.append_, run_underlying ht, run_underlying htn, sizeOf, typeInfo, zeroValue, hi, hz, asInt, asIntOf, IntKind.wrap_i64, hnc, storeCells]
  · have hns : ¬ (m * i.size = 0) := Nat.mul_ne_zero hm (by omega)
    have hlen : (xs ++ zeros z m).length = (n + m) * i.size := by rw [List.length_append, hown.1, hzl, Nat.add_mul]
    have grown : ∀ (old : Nat), old < n + m → ∀ S : Nat → Prop,
        (w.drew.alloc (.cells (xs.toArray ++ Builtin.zeroCells z.cells m ++ Builtin.zeroCells z.cells (grownCap w (n + m) old e - (n + m))) e)).ownsRow base e i.size
          (.slice (some ⟨w.heap.size, 0, none⟩) (n + m) (grownCap w (n + m) old e)) (n + m) (xs ++ zeros z m) ∧
        Upd S w (w.drew.alloc (.cells (xs.toArray ++ Builtin.zeroCells z.cells m ++ Builtin.zeroCells z.cells (grownCap w (n + m) old e - (n + m))) e)) := by
      intro old ho S
      have hge := grownCap_ge w (n + m) old e
      have hcm : grownCap w (n + m) old e ≤ maxLen := grownCap_le_maxLen w (n + m) old e (by omega)
      refine ⟨⟨hlen, .inr ⟨w.heap.size, _, _, rfl, hbase, heap_alloc_new w.drew _, hge, hcm, ?_, ?_⟩⟩, ((Upd.refl S w).drew).alloc _⟩
      · simp only [Array.size_append, List.size_toArray, size_zeroCells, hz3, hown.1, ← Nat.add_mul]
        congr 1
        omega
      · simp only [Array.toList_append, List.append_assoc]
        rw [← List.append_assoc, ← hlen]
        exact List.take_left
    have h63' : ¬ (9223372036854775807 < ((n + m : Nat) : Int)) := by omega
    rcases hown.2 with ⟨rfl, rfl⟩ | ⟨g, cap, cur, rfl, hbg, hg, hnc, hcm, hcs, htake⟩
    · have hx : xs = [] := List.eq_nil_of_length_eq_zero (by simpa using hown.1)
      subst hx
      have hgr := grown 0 (by omega) (fun k => Value.ownBlock (.slice none 0 0) = some k)
      simp only [Nat.zero_add, List.nil_append, Array.empty_append] at hgr ⊢
      have hr2 := Lib.run_append_nil_zeros (P := P) w t tn ty e i z k kn ht htn hi hz m (by omega) hsz (by omega) (by simp only [Nat.zero_add] at hbytes; omega)
      exact ⟨_, _, hr2, hgr.1, hgr.2, .inr rfl, by simp [hm], fun a' c' he => ⟨fun _ => ⟨rfl, by have hx := (grown 0 (by omega) none_).2; simpa using hx⟩, fun hle => by injection he with _ _ h3; omega⟩⟩
    · by_cases hroom : n + m ≤ cap
      · have hfit : n * i.size + (zeros z m).length ≤ cur.size := by rw [hzl, hcs, ← Nat.add_mul]; exact Nat.mul_le_mul_right _ hroom
        have hst := run_storeCells_at P g (n * i.size) e (zeros z m) 0 cur w hg (by simpa using hfit) hz1'
        simp only [Nat.add_zero] at hst
        refine ⟨.slice (some ⟨g, 0, none⟩) (n + m) cap, w.setRow g (cur.toList.take (n * i.size) ++ zeros z m ++ cur.toList.drop (n * i.size + (zeros z m).length)).toArray, ?_, ⟨hlen, .inr ⟨g, cap, _, rfl, hbg, setRow_heap w g cur _ e _ hg, hroom, hcm, ?_, ?_⟩⟩, Upd.setRow (S := fun k => Value.ownBlock (.slice (some ⟨g, 0, none⟩) n cap) = some k) (Upd.refl _ w) (fun _ => rfl) _, .inl rfl, by simp, fun a' c' he => ⟨fun hlt => by injection he with _ _ h3; omega, fun _ => by injection he with h1 _ h3; rw [h1, h3]⟩⟩
        · unfold zeros at hst ⊢
          simp [Builtin.append_, run_underlying ht, run_underlying htn, sizeOf, typeInfo, zeroValue, hi, hz, asInt, asIntOf, hw, hneg, h48i, hroom, hns, Addr.add_lit, hst]
        · simp only [List.size_toArray, List.length_append, List.length_take, List.length_drop, Array.length_toList]
          omega
        · rw [htake, ← hlen]
          exact List.take_left
      · have holds : ∀ j u, xs[j]? = some u → w.cell? ((⟨g, 0, none⟩ : Addr).add j) = some u := hown.cells (g := g) rfl
        have hgr := grown cap (by omega) (fun k => Value.ownBlock (.slice (some ⟨g, 0, none⟩) n cap) = some k)
        have hfit := growslice_fits (need := n + m) (old := cap) (by omega) hbytes
        have h48' : ¬ (281474976710656 < Builtin.nextslicecap (n + m) cap * i.bytes) := by omega
        have hf := run_firstCells_some (P := P) w.drew i.size n ⟨g, 0, none⟩ n cap xs hown.1 holds
        refine ⟨_, _, ?_, hgr.1, hgr.2, .inr rfl, by simp, fun a' c' he => ⟨fun _ => ⟨rfl, (grown cap (by omega) none_).2⟩, fun hle => by injection he with _ _ h3; omega⟩⟩
        have h63'' : ¬ (9223372036854775807 < (n : Int) + (m : Int)) := by omega
        simp [Builtin.append_, run_underlying ht, run_underlying htn, sizeOf, typeInfo, zeroValue, hi, hz, asInt, asIntOf, hw, hneg, h48i, hroom, hns, h48', h63'', Question.forced, hf, newRow, grownCap]

theorem wpL_appz (hgd : o.guard = none) (s x : Operand) (t tn : TypeId) (ho : o.op = .call { callee := .builtin .append, args := #[s, x], argTypes := #[t, tn] })
    (base : Nat) (e : TypeId) (z : Value) (sz bytes : Nat) (kn : IntKind) (ht : P.underlying t = some (.slice e)) (htn : P.underlying tn = some (.int kn)) (he : ElemOk P e z sz bytes) (hz1 : ∀ u ∈ z.cells.toList, u.oneCell' = true)
    (v : Value) (n : Nat) (xs : List Value) (hs : a.eval s = v) (hown : w.ownsRow base e sz v n xs) (k : IntKind) (m : Nat) {mi : Int} (hx : a.eval x = .int k mi) (hmi : mi = m)
    (hbytes : (n + m) * bytes ≤ 140737488355328) (h63 : n + m ≤ 9223372036854775807) (hbase : base ≤ w.heap.size)
    (h : ∀ v' w', w'.ownsRow base e sz v' (n + m) (xs ++ zeros z m) → Upd (fun k => v.ownBlock = some k) w w' → Moved w v v' → (v' = .slice none 0 0 ↔ v = .slice none 0 0 ∧ m = 0) → Grew w w' v v' n m → wpList P ops Q rest (a.put o.dst v') w') : wpList P ops Q (o :: rest) a w := by
  subst hmi
  refine wpList_plain hgd fun K hK => ?_
  obtain ⟨v', w', hrun, h2, h3, h4, h5, h6⟩ := run_appz (P := P) w base t tn o.type e z sz bytes kn ht htn he hz1 v n xs hown k m hbytes h63 hbase
  unfold Oper.wp execOp
  simp only [ho, resolve, invoke, builtin, Sem.run_bind, Sem.run_pure, Result.andThen_ok, List.map_toArray, List.map_cons, List.map_nil, hs, hx, hrun]
  exact hK _ _ (h v' w' h2 h3 h4 h5 h6)

/-- clear of a piece of a row that is known whole. -/
theorem wpL_clear (hgd : o.guard = none) (s : Operand) (t : TypeId) (ho : o.op = .call { callee := .builtin .clear, args := #[s], argTypes := #[t] }) (e : TypeId) (z : Value) (sz bytes : Nat) (ht : P.underlying t = some (.slice e)) (he : ElemOk P e z sz bytes) (hz1 : ∀ u ∈ z.cells.toList, u.oneCell' = true)
    (dp : Option Addr) (n c : Nat) (hs : a.eval s = .slice dp n c) (g off : Nat) (cur : List Value) (et : TypeId) (hg : w.heap[g]? = some (.cells cur.toArray et (0, 0))) (hpos : n = 0 ∨ dp = some ⟨g, off, none⟩) (hfit : off + n * sz ≤ cur.length)
    (h : ∀ w', w'.heap[g]? = some (.cells (lay cur off (zeros z n)).toArray et (0, 0)) → Upd (fun k => k = g) w w' → wpList P ops Q rest (a.put o.dst (.tuple #[])) w') : wpList P ops Q (o :: rest) a w := by
  refine wpList_plain hgd fun K hK => ?_
  have hzl := zeros_length he n
  have hz1' := zeros_one he hz1 n
  have key : ∃ w', (Builtin.clear_ #[t] o.type #[.slice dp n c]).run P w = .ok (.tuple #[]) w' ∧ w'.heap[g]? = some (.cells (lay cur off (zeros z n)).toArray et (0, 0)) ∧ Upd (fun k => k = g) w w' := by
    obtain ⟨hinfo, hz3, hsz⟩ := he
    cases hi : P.info? e with
    | none => rw [hi] at hinfo; cases hinfo
    | some i =>
    rw [hi] at hinfo
    simp only [Option.map_some, Option.some.injEq, Prod.mk.injEq] at hinfo
    obtain ⟨hz, rfl, rfl⟩ := hinfo
    by_cases h0 : n = 0
    · subst h0
      have hz0 : zeros z 0 = [] := List.eq_nil_of_length_eq_zero (by rw [hzl]; simp)
      refine ⟨w, ?_, by rw [hz0, lay_nil]; exact hg, Upd.refl _ _⟩
      cases dp <;> simp [Builtin.clear_, run_underlying ht]
    · obtain rfl := hpos.resolve_left h0
      obtain ⟨n, rfl⟩ : ∃ k, n = k + 1 := ⟨n - 1, by omega⟩
      have hst := run_storeCells_at P g off et (zeros z (n + 1)) 0 cur.toArray w hg (by simp; rw [hzl]; omega) hz1'
      refine ⟨_, ?_, setRow_heap w g _ _ et _ hg, Upd.setRow (S := fun k => k = g) (Upd.refl _ w) (fun _ => rfl) _⟩
      unfold zeros at hst ⊢
      simp [Builtin.clear_, run_underlying ht, zeroValue, typeInfo, hi, hz, hst, lay]
  obtain ⟨w', hrun, h2, h3⟩ := key
  unfold Oper.wp execOp
  simp only [ho, resolve, invoke, builtin, Sem.run_bind, Sem.run_pure, Result.andThen_ok, List.map_toArray, List.map_cons, List.map_nil, hs, hrun]
  exact hK _ _ (h w' h2 h3)

theorem cutAt {g off sz c l : Nat} : l < c → (if c = l then some (⟨g, off, none⟩ : Addr) else (some (⟨g, off, none⟩ : Addr)).map (·.add (l * sz))) = some ⟨g, off + l * sz, none⟩ := by
  intro h
  rw [if_neg (by omega), Option.map_some, addr_add]

/-- A call of a body-less function of two arguments, whose run is known. -/
theorem wpL_ext2 (hgd : o.guard = none) (f : FuncId) (x y : Operand) (ats : Array TypeId) (ho : o.op = .call { callee := .value (.func f), args := #[x, y], argTypes := ats }) (v1 v2 : Value) (hx : a.eval x = v1) (hy : a.eval y = v2) (v : Value) (w' : World)
    (hrun : (callFunc f #[v1, v2]).run P w = .ok (.value v) w') (h : wpList P ops Q rest (a.put o.dst v) w') : wpList P ops Q (o :: rest) a w := by
  refine wpList_plain hgd fun K hK => ?_
  unfold Oper.wp execOp
  have e : a.eval (.func f) = .func (.func f) #[] #[] := rfl
  simp only [ho, resolve, e, Deferred.ofValue, Sem.run_bind, Sem.run_pure, Result.andThen_ok, invoke, Array.append_empty, Array.empty_append, List.map_toArray, List.map_cons, List.map_nil, hx, hy, hrun]
  exact hK _ _ h
/-- x[l:] as an equation, for regions that draw their order. -/
theorem cut_from (t e : TypeId) (ht : P.underlying t = some (.slice e)) (sz : Nat) (hsz : (P.info? e).map (·.size) = some sz) (g off n c l : Nat) (hl : l ≤ n) (k : IntKind) (li : Int) (hli : li = l) :
    ∃ ad', (l < c → ad' = some ⟨g, off + l * sz, none⟩) ∧ ∀ W, (Instr.sliceAt t (.slice (some ⟨g, off, none⟩) n c) (some (.int k li)) none none).run P W = .ok (.slice ad' (n - l) (c - l)) W := by
  subst hli
  exact ⟨_, cutAt, fun W => run_slice_rd_lo t e ht sz hsz _ n c l hl k⟩
theorem cut_to (t e : TypeId) (ht : P.underlying t = some (.slice e)) (sz : Nat) (hsz : (P.info? e).map (·.size) = some sz) (g off n c m : Nat) (hm : m ≤ c) (k : IntKind) (mi : Int) (hmi : mi = m) :
    ∀ W, (Instr.sliceAt t (.slice (some ⟨g, off, none⟩) n c) none (some (.int k mi)) none).run P W = .ok (.slice (some ⟨g, off, none⟩) m c) W := by
  subst hmi
  intro W
  rw [run_slice_rd_hi t e ht sz hsz _ n c m hm k, Option.map_some, addr_add]
  simp
/-- x[l:] of a piece of a known row: where it begins. -/
theorem wpL_from (hgd : o.guard = none) (t : TypeId) (x lo : Operand) (ho : o.op = .slice t x (some lo) none none) (e : TypeId) (ht : P.underlying t = some (.slice e)) (sz : Nat) (hsz : (P.info? e).map (·.size) = some sz)
    (g off n c : Nat) (hx : a.eval x = .slice (some ⟨g, off, none⟩) n c) (k1 : IntKind) (l : Nat) {li : Int} (hlo : a.eval lo = .int k1 li) (hli : li = l) (hl : l ≤ n)
    (h : ∀ ad', (l < c → ad' = some ⟨g, off + l * sz, none⟩) → wpList P ops Q rest (a.put o.dst (.slice ad' (n - l) (c - l))) w) : wpList P ops Q (o :: rest) a w := by
  subst hli
  refine wpList_plain hgd fun K hK => ?_
  unfold Oper.wp execOp
  simp only [ho, Option.map_some, Option.map_none, hx, hlo, Sem.run_bind, run_slice_rd_lo t e ht sz hsz _ n c l hl k1, Result.andThen_ok, Sem.run_pure]
  exact hK _ _ (h _ cutAt)
/-- x[:m]. -/
theorem wpL_to (hgd : o.guard = none) (t : TypeId) (x hi : Operand) (ho : o.op = .slice t x none (some hi) none) (e : TypeId) (ht : P.underlying t = some (.slice e)) (sz : Nat) (hsz : (P.info? e).map (·.size) = some sz)
    (g off n c : Nat) (hx : a.eval x = .slice (some ⟨g, off, none⟩) n c) (k1 : IntKind) (m : Nat) {mi : Int} (hhi : a.eval hi = .int k1 mi) (hmi : mi = m) (hm : m ≤ c)
    (h : wpList P ops Q rest (a.put o.dst (.slice (some ⟨g, off, none⟩) m c)) w) : wpList P ops Q (o :: rest) a w := by
  subst hmi
  refine wpList_plain hgd fun K hK => ?_
  unfold Oper.wp execOp
  simp only [ho, Option.map_some, Option.map_none, hx, hhi, Sem.run_bind, run_slice_rd_hi t e ht sz hsz _ n c m hm k1, Result.andThen_ok, Sem.run_pure]
  have : (if c = 0 then some (⟨g, off, none⟩ : Addr) else some ((⟨g, off, none⟩ : Addr).add (0 * sz))) = some ⟨g, off, none⟩ := by rw [addr_add]; simp
  rw [this]
  exact hK _ _ h
end
end Go.Proofs.Ytjjiemicacbmaaa
