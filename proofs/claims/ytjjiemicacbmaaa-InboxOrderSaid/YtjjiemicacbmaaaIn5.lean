/- slices.IndexFunc and slices.DeleteFunc at rows of two ints. -/
import Derived.Test.YtjjiemicacbmaaaIn2
namespace Go.Proofs.Ytjjiemicacbmaaa
open Go.RowKit Go.Shelf

set_option maxHeartbeats 2000000 in
theorem idxfunc_any (F : Nat → Prop) (a : Option Addr) (c : Nat) (l : List (Int × Int)) (p : Int × Int → Bool) (g : Nat) (cb : Array Value) (w : World) (hr : Rd F w a l.length 2 (flat l)) (eg0 : Enters Try.prog g) (hn : l.length < 4611686018427387904)
    (hf : ∀ W x, Upd none_ w W → Calls Try.prog g (#[.agg #[.int .i64 x.1, .int .i64 x.2]] ++ cb) W fun e w' => e = .returned (.bool (p x)) ∧ Upd none_ W w') :
    Calls Try.prog 97 #[.slice a l.length c, .func (.func g) #[] cb] w fun e w' =>
      Upd none_ w w' ∧ ((e = .returned (.int .i64 (-1)) ∧ ∀ x ∈ l, p x = false) ∨ (∃ i : Nat, ∃ hi : i < l.length, e = .returned (.int .i64 (i : Int)) ∧ p l[i] = true ∧ ∀ x ∈ l.take i, p x = false)) := by
  have eg : ∀ args w, (callFunc g args).run Try.prog w = .ok (.enter g args) w := eg0
  clear eg0
  have HF := hide hf
  have HR := hide hr
  clear hf hr
  go_enter Try.func97, Try.ntmps97
  go_wp2_with fail
  go_loopw [8] (fun s8 wr => ∃ k : Nat, k ≤ l.length ∧ s8 = Value.int .i64 (k : Int) ∧ Upd none_ w wr ∧ Hid (∀ x ∈ l.take k, p x = false)) (fun s _ => l.length - (intOf s).toNat)
  case atStart => exact ⟨0, Nat.zero_le _, rfl, Upd.refl _ _, hide (fun x hx => by simp at hx)⟩
  case round =>
    obtain ⟨k, hk, rfl, hu, HP⟩ := hrel
    have HU := hide hu
    clear hu
    by_cases hlt : k < l.length
    · obtain ⟨b, off, rfl, -, hc⟩ := HR.out.2.resolve_left (by omega)
      have e1 := HU.out.cell (hc _ _ (flat_get l k hlt).1) id
      have e2 := HU.out.cell (hc _ _ (flat_get l k hlt).2) id
      clear hc
      rw [← Nat.add_assoc] at e2
      rw [getD_in l k hlt] at e1 e2
      generalize hx : l[k] = x at e1 e2
      have HX := hide hx
      clear hx
      have f1 : (0 : Int) ≤ (k : Int) := by omega
      have f2 : (k : Int) < (l.length : Int) := by omega
      have f3 : (k : Int).toNat = k := by omega
      have hc := HF.out wr x HU.out
      cases hp : p x <;> rw [hp] at hc
      · have HPX := hide hp
        clear hp
        go_wp2_with (go_at_fn g; refine hc.mono ?_; rintro e w' ⟨rfl, hu⟩; have HU2 := hide hu; clear hu)
        go_roundw
        case rel => exact ⟨k + 1, by omega, by go_num, HU.out.trans HU2.out, hide (fun y hy => by
          rw [List.take_succ_eq_append_getElem hlt] at hy
          rcases List.mem_append.1 hy with hy | hy
          · exact HP.out y hy
          · simp at hy; rw [hy, HX.out]; exact HPX.out)⟩
        case measure => simp [intOf]; omega
      · have HPX := hide hp
        clear hp
        go_wp2_with (go_at_fn g; refine hc.mono ?_; rintro e w' ⟨rfl, hu⟩; have HU2 := hide hu; clear hu)
        go_ret
        exact ⟨HU.out.trans HU2.out, .inr ⟨k, hlt, rfl, by rw [HX.out]; exact HPX.out, HP.out⟩⟩
    · obtain rfl : k = l.length := by omega
      go_wp2_with fail
      go_ret
      exact ⟨HU.out, .inl ⟨rfl, by have := HP.out; rwa [List.take_length] at this⟩⟩

theorem flat_set (M : List (Int × Int)) (i : Nat) (hi : i < M.length) (x : Int × Int) : ((flat M).set (i * 2) (.int .i64 x.1)).set (i * 2 + 1) (.int .i64 x.2) = flat (M.set i x) := by
  induction M generalizing i with
  | nil => simp at hi
  | cons y M ih =>
    cases i with
    | zero => simp [flat]
    | succ i =>
      have h1 := ih i (by simpa using hi)
      have e : flat (y :: M) = .int .i64 y.1 :: .int .i64 y.2 :: flat M := rfl
      rw [e, show (i + 1) * 2 = i * 2 + 1 + 1 by omega, show i * 2 + 1 + 1 + 1 = (i * 2 + 1) + 1 + 1 by omega]
      simp only [List.set_cons_succ, h1]
      rfl

set_option maxRecDepth 20000 in
set_option maxHeartbeats 8000000 in
theorem delfunc_any (base : Nat) (a : Option Addr) (c : Nat) (l : List (Int × Int)) (p : Int × Int → Bool) (g : Nat) (cb : Array Value) (w : World) (hown : w.ownsRow base 33 2 (.slice a l.length c) l.length (flat l)) (eg0 : Enters Try.prog g) (hn : l.length < 4611686018427387904)
    (hf : ∀ W x, Upd (fun k => (Value.slice a l.length c).ownBlock = some k) w W → Calls Try.prog g (#[.agg #[.int .i64 x.1, .int .i64 x.2]] ++ cb) W fun e w' => e = .returned (.bool (p x)) ∧ Upd none_ W w') :
    Calls Try.prog 83 #[.slice a l.length c, .func (.func g) #[] cb] w fun e w' =>
      ∃ m, m = (l.filter fun x => !p x).length ∧ e = .returned (.slice a m c) ∧ w'.ownsRow base 33 2 (.slice a m c) m (flat (l.filter fun x => !p x)) ∧ Upd (fun k => (Value.slice a l.length c).ownBlock = some k) w w' := by
  have eg : ∀ args w, (callFunc g args).run Try.prog w = .ok (.enter g args) w := eg0
  obtain ⟨hlc, hrd⟩ := rd_own' hown
  have hidx := idxfunc_any _ a c l p g cb w hrd eg0 hn (fun W x hW => hf W x (hW.mono (fun _ _ h => h.elim)))
  clear eg0 hrd
  have HF := hide hf
  have HO := hide hown
  clear hf hown
  go_enter Try.func83, Try.ntmps83
  go_wp2_with fail
  refine hidx.mono ?_
  clear hidx
  rintro e w1 ⟨hu1, hcase⟩
  rcases hcase with ⟨rfl, hnone⟩ | ⟨i, hi, rfl, hpi, hbef⟩
  · have hfl : (l.filter fun x => !p x) = l := List.filter_eq_self.2 fun x hx => by rw [hnone x hx]; rfl
    have HFL := hide hfl
    have HU1 := hide hu1
    clear hnone hfl hu1
    go_wp2_with fail
    go_ret
    exact ⟨l.length, by rw [HFL.out], rfl, by rw [HFL.out]; exact HU1.out.own HO.out (fun _ _ => id), HU1.out.mono (fun _ _ h => h.elim)⟩
  · obtain ⟨G, rfl, hG, hcells, hfz⟩ := own_at2 HO.out (by omega)
    have HO1 := hide (hu1.own HO.out (fun _ _ => id))
    have HU1 := hide (hu1.mono (T := fun k => (Value.slice (some ⟨G, 0, none⟩) l.length c).ownBlock = some k) (fun _ _ h => h.elim))
    have HPI := hide hpi
    have HBF := hide hbef
    have HLC := hide hlc
    have hi2 : (((i : Nat) : Int) == -1) = false := by simp
    clear hcells hfz hpi hbef hu1 hlc HO
    go_wp2_with fail
    go_loopw [5, 6] (fun s5 s6 wr => ∃ (ii j : Nat) (M : List (Int × Int)), ii < j ∧ j ≤ l.length ∧ s5 = Value.int .i64 (ii : Int) ∧ s6 = Value.int .i64 (j : Int) ∧ M.length = l.length ∧
      wr.ownsRow base 33 2 (.slice (some ⟨G, 0, none⟩) l.length c) l.length (flat M) ∧ M.take ii = (l.take j).filter (fun x => !p x) ∧ M.drop j = l.drop j ∧ Upd (fun k => (Value.slice (some ⟨G, 0, none⟩) l.length c).ownBlock = some k) w wr) (fun _ s _ => l.length - (intOf s).toNat)
    case atStart => exact ⟨i, i + 1, l, by omega, by omega, rfl, by go_num, rfl, HO1.out, by
      rw [List.take_succ_eq_append_getElem hi, List.filter_append]
      have e1 : (l.take i).filter (fun x => !p x) = l.take i := List.filter_eq_self.2 fun x hx => by rw [HBF.out x hx]; rfl
      rw [e1]
      simp [HPI.out], rfl, HU1.out⟩
    case round =>
      obtain ⟨ii, j, M, hij, hj, rfl, rfl, hM, hown, hMt, hMd, hu⟩ := hrel
      have HO := hide hown
      have HU := hide hu
      have HM := hide hM
      have HMT := hide hMt
      have HMD := hide hMd
      clear hown hu hMt hMd
      by_cases hlt : j < l.length
      · obtain ⟨G', hG', -, hcells, hfz⟩ := own_at2 HO.out (by omega)
        injection hG' with hG'
        injection hG' with hG' _ _
        subst hG'
        have hjM : j < M.length := by omega
        have e1 := hcells _ _ (flat_get M j hjM).1
        have e2 := hcells _ _ (flat_get M j hjM).2
        have hMj : M[j] = l[j] := by
          have := congrArg (fun x => x[0]?) HMD.out
          simp only [List.getElem?_drop, Nat.add_zero] at this
          rw [List.getElem?_eq_getElem hjM, List.getElem?_eq_getElem hlt] at this
          exact Option.some.inj this
        rw [getD_in M j hjM, hMj] at e1 e2
        generalize hx : l[j] = x at e1 e2
        have HX := hide hx
        have fz1 := hfz (ii * 2)
        have fz2 := hfz (ii * 2 + 1)
        have hGl : G < wr.heap.size := World.block_lt_of_cell? wr _ e1
        clear hx hcells hfz hMj hM
        obtain ⟨x1, x2⟩ := x
        have f1 : (0 : Int) ≤ (j : Int) := by omega
        have f2 : (j : Int) < (l.length : Int) := by omega
        have f3 : (j : Int).toNat = j := by omega
        have f4 : (0 : Int) ≤ (ii : Int) := by omega
        have f5 : (ii : Int) < (l.length : Int) := by omega
        have f6 : (ii : Int).toNat = ii := by omega
        have hU1 : Upd none_ wr (wr.alloc (.cells #[.int .i64 x1, .int .i64 x2] 33)) := (Upd.refl _ _).alloc _
        have hc := HF.out _ (x1, x2) (HU.out.thenNew hU1)
        have hb1 : (wr.alloc (.cells #[.int .i64 x1, .int .i64 x2] 33)).heap[wr.heap.size]? = some (.cells #[.int .i64 x1, .int .i64 x2] 33 (0, 0)) := heapA_at _ _ _ rfl
        have hO1 := hU1.own HO.out (fun _ _ => id)
        have HO1 := hide hO1
        have HUA := hide (HU.out.thenNew hU1)
        have HB1 := hide hb1
        clear hU1 hb1 hO1
        have hiM : ii < M.length := by have := HM.out; omega
        cases hp : p (x1, x2) <;> rw [hp] at hc
        · have HPX := hide hp
          clear hp
          go_wp2_with (go_at_fn g; refine hc.mono ?_; rintro e w2 ⟨rfl, hu2⟩; have hb2 := hu2.heap HB1.out id; have q1 : w2.cell? ⟨wr.heap.size, 0, none⟩ = some (.int .i64 x1) := (by rw [cell_of_row w2 _ _ _ _ _ hb2]; rfl); have q2 : w2.cell? ⟨wr.heap.size, 1, none⟩ = some (.int .i64 x2) := (by rw [cell_of_row w2 _ _ _ _ _ hb2]; rfl); have HO2 := hide (hu2.own HO1.out (fun _ _ => id)); have HU2 := hide (HUA.out.thenNew hu2); obtain ⟨G2, hG2, _, hcl2, hfz2⟩ := own_at2 HO2.out (by omega); injection hG2 with hG2; injection hG2 with hG2 _ _; subst hG2; have s1 := hcl2 _ _ (flat_get M ii hiM).1; have s2 := hcl2 _ _ (flat_get M ii hiM).2; have z1 := hfz2 (ii * 2); have z2 := hfz2 (ii * 2 + 1); have hGl2 : G < w2.heap.size := World.block_lt_of_cell? w2 _ s1; clear hb2 hcl2 hfz2 hu2)
          go_roundw
          case rel =>
            have ho3 := own_store2 (own_store2 HO2.out (ii * 2) (by rw [flat_length]; omega) (.int .i64 x1)) (ii * 2 + 1) (by rw [List.length_set, flat_length]; omega) (.int .i64 x2)
            rw [flat_set M ii hiM (x1, x2)] at ho3
            refine ⟨ii + 1, j + 1, M.set ii (x1, x2), by omega, by omega, by go_num, by go_num, by rw [List.length_set]; exact HM.out, ho3, ?_, ?_, ?_⟩
            · rw [List.take_succ_eq_append_getElem hlt, List.filter_append, ← HMT.out, HX.out, List.take_succ_eq_append_getElem (by rw [List.length_set]; exact hiM), List.take_set_of_le (Nat.le_refl _)]
              simp [HPX.out]
            · rw [List.drop_set_of_lt (by omega), ← List.drop_drop, HMD.out, List.drop_drop]
            · exact (HU2.out.setCell (p := ⟨G, ii * 2, none⟩) (fun _ => rfl) _).setCell (p := ⟨G, ii * 2 + 1, none⟩) (fun _ => rfl) _
          case measure => simp [intOf]; omega
        · have HPX := hide hp
          clear hp
          go_wp2_with (go_at_fn g; refine hc.mono ?_; rintro e w2 ⟨rfl, hu2⟩; have HO2 := hide (hu2.own HO1.out (fun _ _ => id)); have HU2 := hide (HUA.out.thenNew hu2); clear hu2)
          go_roundw
          case rel => exact ⟨ii, j + 1, M, by omega, by omega, rfl, by go_num, HM.out, HO2.out, by
            rw [List.take_succ_eq_append_getElem hlt, List.filter_append, ← HMT.out, HX.out]
            simp [HPX.out], by rw [← List.drop_drop, HMD.out, List.drop_drop], HU2.out⟩
          case measure => simp [intOf]; omega
      · obtain rfl : j = l.length := by omega
        obtain ⟨c', L, heq, hnc, hcm, hbG, hgL, hL, hT⟩ := own_row HO.out (G := G) rfl
        injection heq with _ _ heq
        subst heq
        obtain ⟨ad6, had6, hcf⟩ := cut_from (P := Try.prog) 30 33 Try.underlying30 2 elem_rng.size G 0 l.length c ii (by omega) .i64 (ii : Int) rfl
        have hct := cut_to (P := Try.prog) 30 33 Try.underlying30 2 elem_rng.size G 0 l.length c ii (by omega) .i64 (ii : Int) rfl
        have hd := had6 (by omega)
        rw [Nat.zero_add] at hd
        subst hd
        have hlen : ii = (l.filter fun x => !p x).length := by
          have := congrArg List.length HMT.out
          rw [List.take_length, List.length_take] at this
          omega
        have HLEN := hide hlen
        have HGL := hide hgL
        have HL := hide (And.intro hL (And.intro hnc (And.intro hcm (And.intro hbG hT))))
        clear hgL hL hnc hcm hbG hT hlen had6 hM
        go_wp2_with (refine wpL_clear rfl _ _ rfl 33 _ 2 16 Try.underlying30 elem_rng rng_cells _ (l.length - ii) _ rfl G (ii * 2) L 33 HGL.out (.inr rfl) (by have := HL.out; omega) ?_; intro w6 hg6 hu6; have HG6 := hide hg6; have HU6 := hide hu6; clear hg6 hu6)
        go_ret
        obtain ⟨hL, hnc, hcm, hbG, hT⟩ := HL.out
        have hz := zeros_length (P := Try.prog) elem_rng (l.length - ii)
        have hl := HLEN.out
        rw [← hl]
        refine ⟨rfl, own_mk base hbG (by omega) hcm HG6.out (by rw [lay_length _ _ _ (by rw [hz]; omega)]; exact hL) ?_, HU.out.trans' HU6.out (fun _ _ e => by rw [e]; rfl)⟩
        rw [lay_take_le _ _ _ _ (by omega) (Nat.le_refl _)]
        have h1 := HMT.out
        rw [List.take_length] at h1
        rw [← h1, ← flat_take, ← hT, List.take_take]
        congr 1
        omega
end Go.Proofs.Ytjjiemicacbmaaa
