/- The document's ranges: their form, and the contracts of inside, Total, Has. -/
import Derived.Test.YtjjiemicacbmaaaRg15
namespace Go.Proofs.Ytjjiemicacbmaaa
open Go.RowKit Go.Shelf

/-- A block holds the document's ranges. -/
def RQ (w : World) (b : Nat) (o : Option Nat) (l : List (Int × Int)) : Prop :=
  ∃ v, w.heap[b]? = some (.cells #[v] 42 (0, 0)) ∧ w.ownsRow 0 33 2 v l.length (flat l) ∧ v.ownBlock = o
theorem RQ.slice {w : World} {b : Nat} {o : Option Nat} {l : List (Int × Int)} (h : RQ w b o l) :
    ∃ a cap, w.cell? ⟨b, 0, none⟩ = some (.slice a l.length cap) ∧ l.length ≤ cap ∧ w.heap[b]? = some (.cells #[.slice a l.length cap] 42 (0, 0)) ∧ w.ownsRow 0 33 2 (.slice a l.length cap) l.length (flat l) ∧
      (Value.slice a l.length cap).ownBlock = o ∧
      ∀ k, k < l.length → ∃ g, a = some ⟨g, 0, none⟩ ∧ o = some g ∧ w.cell? ⟨g, k * 2, none⟩ = some (.int .i64 (l.getD k (0, 0)).1) ∧ w.cell? ⟨g, k * 2 + 1, none⟩ = some (.int .i64 (l.getD k (0, 0)).2) := by
  obtain ⟨v, hb, ho, rfl⟩ := h
  have ho' := ho
  obtain ⟨h1, h2⟩ := ho
  rcases h2 with ⟨rfl, hn⟩ | ⟨g, cap, cur, rfl, _, hg, hn, hm, hsz, ht⟩
  · refine ⟨none, 0, ?_, by omega, ?_, ?_, rfl, fun k hk => by omega⟩
    · rw [hn]; exact cell_of_one hb
    · rw [hn]; exact hb
    · rw [hn] at ho' ⊢; exact ho'
  · refine ⟨_, cap, cell_of_one hb, hn, hb, ho', rfl, fun k hk => ⟨g, rfl, rfl, ?_, ?_⟩⟩
    · rw [cell_of_row w g _ cur _ _ hg, ← (flat_get l k hk).1, ← ht, List.getElem?_take, if_pos (by omega)]; simp
    · rw [cell_of_row w g _ cur _ _ hg, ← (flat_get l k hk).2, ← ht, List.getElem?_take, if_pos (by omega)]; simp
theorem RQ.upd {S : Nat → Prop} {w w' : World} {b : Nat} {o : Option Nat} {l : List (Int × Int)} (h : RQ w b o l) (hu : Upd S w w') (hb : ¬ S b) (ho : ∀ g, o = some g → ¬ S g) : RQ w' b o l := by
  obtain ⟨v, h1, h2, rfl⟩ := h
  exact ⟨v, hu.heap h1 hb, hu.own h2 ho, rfl⟩
theorem RQ.keep {w w' : World} {b : Nat} {o : Option Nat} {l : List (Int × Int)} (h : RQ w b o l) (hu : Upd none_ w w') : RQ w' b o l := h.upd hu id fun _ _ => id
theorem RQ.lt {w : World} {b : Nat} {o : Option Nat} {l : List (Int × Int)} (h : RQ w b o l) : b < w.heap.size := by
  obtain ⟨v, h1, _⟩ := h; exact (Array.getElem?_eq_some_iff.1 h1).1
theorem RQ.olt {w : World} {b : Nat} {o : Option Nat} {l : List (Int × Int)} (h : RQ w b o l) : ∀ g, o = some g → g < w.heap.size := by
  obtain ⟨v, h1, h2, rfl⟩ := h
  exact own_lt h2

theorem qinside_any (a b : Int) (w : World) :
    Calls Try.prog 80 #[.int .i64 a, .int .i64 b] w fun e w' => e = .returned (.tuple #[.int .i64 (max a 0), .int .i64 (min b 4611686018427387904)]) ∧ w = w' := by
  go_enter Try.func80, Try.ntmps80
  have hmx := run_max2 Try.prog
  have hmn := run_min2 Try.prog
  go_wp2
  go_ret2
  exact ⟨rfl, rfl⟩

theorem tot_snoc (l : List (Int × Int)) (k : Nat) (hk : k < l.length) : tot (l.take (k + 1)) = tot (l.take k) + (l[k].2 - l[k].1) := by
  rw [List.take_succ_eq_append_getElem hk, tot_append]
  simp [tot]
theorem WF.take {l : List (Int × Int)} (h : WF l) (k : Nat) : WF (l.take k) := h.sub (List.take_sublist k l)

set_option maxHeartbeats 2000000 in
theorem qtotal_any (b : Nat) (o : Option Nat) (l : List (Int × Int)) (w : World) (h : RQ w b o l) (hw : WF l) (hn : l.length < 4611686018427387904) :
    Calls Try.prog 28 #[.pointer (some ⟨b, 0, none⟩)] w fun e w' => e = .returned (.int .i64 (tot l)) ∧ Upd none_ w w' := by
  obtain ⟨a, cap, hc, hcap, -, -, -, hk⟩ := h.slice
  have HC := hide hc
  have HK := hide hk
  have HW := hide hw
  clear hc hk hw h
  go_enter Try.func28, Try.ntmps28
  go_wp2_with fail
  go_loopw [3, 4] (fun n i wr => ∃ k : Nat, k ≤ l.length ∧ i = .int .i64 k ∧ n = .int .i64 (tot (l.take k)) ∧ Upd none_ w wr) (fun _ i _ => l.length - (intOf i).toNat)
  case atStart => exact ⟨0, Nat.zero_le _, rfl, rfl, Upd.refl _ _⟩
  case round =>
    obtain ⟨k, hk, rfl, rfl, hu⟩ := hrel
    have c0 := hu.cell HC.out id
    have HU := hide hu
    clear hu
    by_cases hlt : k < l.length
    · obtain ⟨g, rfl, -, e1, e2⟩ := HK.out k hlt
      have e3 := HU.out.cell e1 id
      have e4 := HU.out.cell e2 id
      clear e1 e2
      rw [getD_in l k hlt] at e3 e4
      have hT := tot_snoc l k hlt
      have h1 := (HW.out.take k).tot
      have h2 := (HW.out.take (k + 1)).tot
      have h3 := HW.out.at' hlt
      have HT := hide hT
      generalize l[k] = x at e3 e4 h3 hT HT
      generalize tot (l.take k) = T at h1 hT HT
      rw [hT] at h2
      clear hT
      have f1 : (0 : Int) ≤ (k : Int) := by omega
      have f2 : (k : Int) < (l.length : Int) := by omega
      have f3 : (k : Int).toNat = k := by omega
      have f4 : IntKind.i64.wrap (T + x.2) = T + x.2 := IntWalk.i64_in _ (by omega)
      have f5 : IntKind.i64.wrap (T + x.2 - x.1) = T + x.2 - x.1 := IntWalk.i64_in _ (by omega)
      go_wp2_with fail
      go_quiet (fail)
      go_wp2_with fail
      go_roundw
      case rel => exact ⟨k + 1, by omega, by go_num, by rw [HT.out]; congr 1; omega, HU.out.drewN _⟩
      case measure => simp [intOf]; omega
    · obtain rfl : k = l.length := by omega
      have HE := hide (List.take_length (l := l))
      go_wp2_with fail
      go_ret
      exact ⟨by rw [HE.out]; rfl, HU.out⟩

set_option maxHeartbeats 2000000 in
theorem qhas_any (b : Nat) (o : Option Nat) (l : List (Int × Int)) (n : Int) (w : World) (h : RQ w b o l) (hw : WF l) (hn : l.length < 4611686018427387904) :
    Calls Try.prog 29 #[.pointer (some ⟨b, 0, none⟩), .int .i64 n] w fun e w' => e = .returned (.bool (hasL l n)) ∧ Upd none_ w w' := by
  obtain ⟨a, cap, hc, hcap, -, -, -, hk⟩ := h.slice
  have HC := hide hc
  have HK := hide hk
  have HH := hide (has_law hw n)
  clear hc hk hw h
  go_enter Try.func29, Try.ntmps29
  go_wp2_with fail
  go_loopw [5] (fun i wr => ∃ k : Nat, k ≤ l.length ∧ i = .int .i64 k ∧ Upd none_ w wr ∧ ∀ m, (hm : m < l.length) → m < k → ¬ (l[m].1 ≤ n ∧ n < l[m].2)) (fun i _ => l.length - (intOf i).toNat)
  case atStart => exact ⟨0, Nat.zero_le _, rfl, Upd.refl _ _, fun m _ h => absurd h (Nat.not_lt_zero _)⟩
  case round =>
    obtain ⟨k, hk, rfl, hu, hno⟩ := hrel
    have c0 := hu.cell HC.out id
    have HU := hide hu
    have HN := hide hno
    clear hu hno
    by_cases hlt : k < l.length
    · obtain ⟨g, rfl, -, e1, e2⟩ := HK.out k hlt
      have e3 := HU.out.cell e1 id
      have e4 := HU.out.cell e2 id
      clear e1 e2
      rw [getD_in l k hlt] at e3 e4
      have HX := hide (rfl : l[k] = l[k])
      have HM := hide (List.getElem_mem hlt)
      generalize hx : l[k] = x at e3 e4 HM
      have HXX := hide hx
      clear hx HX
      have f1 : (0 : Int) ≤ (k : Int) := by omega
      have f2 : (k : Int) < (l.length : Int) := by omega
      have f3 : (k : Int).toNat = k := by omega
      by_cases g1 : x.1 ≤ n
      · by_cases g2 : n < x.2
        · have HR := hide (HH.out.2 ⟨x, HM.out, g1, g2⟩)
          go_wp2_with fail
          go_ret
          exact ⟨by rw [HR.out]; rfl, HU.out⟩
        · go_wp2_with fail
          go_roundw
          case rel => exact ⟨k + 1, by omega, by go_num, HU.out, fun m hm hmk => by
            by_cases e : m = k
            · subst e; rw [HXX.out]; omega
            · exact HN.out m hm (by omega)⟩
          case measure => simp [intOf]; omega
      · go_wp2_with fail
        go_roundw
        case rel => exact ⟨k + 1, by omega, by go_num, HU.out, fun m hm hmk => by
          by_cases e : m = k
          · subst e; rw [HXX.out]; omega
          · exact HN.out m hm (by omega)⟩
        case measure => simp [intOf]; omega
    · obtain rfl : k = l.length := by omega
      have hr : hasL l n = false := by
        have : ¬ InS l n := by
          rintro ⟨x, hx, e1, e2⟩
          obtain ⟨m, hm, rfl⟩ := List.mem_iff_getElem.1 hx
          exact HN.out m hm hm ⟨e1, e2⟩
        have := mt HH.out.1 this
        simpa using this
      have HR := hide hr
      clear hr
      go_wp2_with fail
      go_ret
      exact ⟨by rw [HR.out]; rfl, HU.out⟩
end Go.Proofs.Ytjjiemicacbmaaa
