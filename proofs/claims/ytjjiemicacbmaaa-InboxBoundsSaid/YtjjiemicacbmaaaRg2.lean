/- Contracts of package ranges: touched, many, at. -/
import Derived.Test.YtjjiemicacbmaaaRg1
namespace Go.Proofs.Ytjjiemicacbmaaa
open Go.RowKit Go.Shelf

theorem RG.slice {w : World} {b : Nat} {o : Option Nat} {l : List (Int × Int)} (h : RG w b o l) :
    ∃ a cap, w.cell? ⟨b, 0, none⟩ = some (.slice a l.length cap) ∧ l.length ≤ cap ∧ w.heap[b]? = some (.cells #[.slice a l.length cap] 89 (0, 0)) ∧ w.ownsRow 0 33 2 (.slice a l.length cap) l.length (flat l) ∧
      (Value.slice a l.length cap).ownBlock = o ∧
      ∀ k, k < l.length → ∃ g, a = some ⟨g, 0, none⟩ ∧ o = some g ∧ w.cell? ⟨g, k * 2, none⟩ = some (.int .i64 (l.getD k (0, 0)).1) ∧ w.cell? ⟨g, k * 2 + 1, none⟩ = some (.int .i64 (l.getD k (0, 0)).2) := by
  obtain ⟨v, hb, ho, rfl⟩ := h
  have ho' := ho
  obtain ⟨h1, h2⟩ := ho
  rcases h2 with ⟨rfl, hn⟩ | ⟨g, cap, cur, rfl, _, hg, hn, hm, hsz, ht⟩
  · refine ⟨none, 0, ?_, by omega, ?_, ?_, rfl, fun k hk => by omega⟩
    · rw [hn]; exact cell_of_one hb
    · rw [hn]; exact hb
    · rw [hn] at ho' ⊢; exact ho'
  · refine ⟨_, cap, cell_of_one hb, hn, hb, ho', rfl, fun k hk => ⟨g, rfl, rfl, ?_, ?_⟩⟩
    · rw [cell_of_row w g _ cur _ _ hg, ← (flat_get l k hk).1, ← ht, List.getElem?_take, if_pos (by omega)]; simp
    · rw [cell_of_row w g _ cur _ _ hg, ← (flat_get l k hk).2, ← ht, List.getElem?_take, if_pos (by omega)]; simp

theorem enters90 : Enters Try.prog 90 := enters_of Try.func90 (by kernel_rfl) rfl
theorem enters91 : Enters Try.prog 91 := enters_of Try.func91 (by kernel_rfl) rfl
theorem enters96 : Enters Try.prog 96 := enters_of Try.func96 (by kernel_rfl) rfl
theorem enters78 : Enters Try.prog 78 := enters_of Try.func78 (by kernel_rfl) rfl

/-- The two searches of touched. -/
def pLo (l : List (Int × Int)) (f : Int) (k : Nat) : Bool := decide (f ≤ (l.getD k (0, 0)).2)
def pHi (l : List (Int × Int)) (f : Int) (k : Nat) : Bool := decide (f < (l.getD k (0, 0)).1)
def pAt (l : List (Int × Int)) (f : Int) (k : Nat) : Bool := decide (f < (l.getD k (0, 0)).2)

theorem RG.closures {w : World} {b : Nat} {o : Option Nat} {l : List (Int × Int)} (h : RG w b o l) (f : Int) (br bf : Nat) (W : World) (hu : Upd none_ w W)
    (h1 : W.cell? ⟨br, 0, none⟩ = some (.pointer (some ⟨b, 0, none⟩))) (h2 : W.cell? ⟨bf, 0, none⟩ = some (.int .i64 f)) :
    (∀ (q i : Nat), i < l.length → Calls Try.prog 90 (#[.int .i64 i] ++ #[.pointer (some ⟨br, 0, none⟩), .pointer (some ⟨bf, 0, none⟩)]) (W.drewN q) fun e w' => e = .returned (.bool (pLo l f i)) ∧ ∃ q', (W.drewN q).drewN q' = w') ∧
    (∀ (q i : Nat), i < l.length → Calls Try.prog 91 (#[.int .i64 i] ++ #[.pointer (some ⟨br, 0, none⟩), .pointer (some ⟨bf, 0, none⟩)]) (W.drewN q) fun e w' => e = .returned (.bool (pHi l f i)) ∧ ∃ q', (W.drewN q).drewN q' = w') ∧
    (∀ (q i : Nat), i < l.length → Calls Try.prog 96 (#[.int .i64 i] ++ #[.pointer (some ⟨br, 0, none⟩), .pointer (some ⟨bf, 0, none⟩)]) (W.drewN q) fun e w' => e = .returned (.bool (pAt l f i)) ∧ ∃ q', (W.drewN q).drewN q' = w') ∧
    (∀ (q i : Nat), i < l.length → Calls Try.prog 78 (#[.int .i64 i] ++ #[.pointer (some ⟨br, 0, none⟩), .pointer (some ⟨bf, 0, none⟩)]) (W.drewN q) fun e w' => e = .returned (.bool (pHi l f i)) ∧ ∃ q', (W.drewN q).drewN q' = w') := by
  obtain ⟨a, cap, hc, -, -, -, -, hk⟩ := h.slice
  refine ⟨fun q i hi => ?_, fun q i hi => ?_, fun q i hi => ?_, fun q i hi => ?_⟩ <;> obtain ⟨g, rfl, _, e1, e2⟩ := hk i hi
  · exact touched1_any i l.length cap f _ b g br bf (W.drewN q) h1 h2 (hu.cell hc id) (by omega) (hu.cell e2 id)
  · exact touched2_any i l.length cap f _ b g br bf (W.drewN q) h1 h2 (hu.cell hc id) (by omega) (hu.cell e1 id)
  · exact at1_any i l.length cap f _ b g br bf (W.drewN q) h1 h2 (hu.cell hc id) (by omega) (hu.cell e2 id)
  · exact gap1_any i l.length cap f _ b g br bf (W.drewN q) h1 h2 (hu.cell hc id) (by omega) (hu.cell e1 id)

set_option maxHeartbeats 1000000 in
set_option maxRecDepth 10000 in
theorem touched_any (b : Nat) (o : Option Nat) (l : List (Int × Int)) (f t : Int) (w : World) (h : RG w b o l) (hn : l.length < 4611686018427387904) :
    Calls Try.prog 73 #[.pointer (some ⟨b, 0, none⟩), .int .i64 f, .int .i64 t] w fun e w' =>
      e = .returned (.tuple #[.int .i64 (bs (pLo l f) l.length : Nat), .int .i64 (max (bs (pLo l f) l.length) (bs (pHi l t) l.length) : Nat)]) ∧ Upd none_ w w' := by
  obtain ⟨a, cap, hc, hcap, hb, -, -, hk⟩ := h.slice
  have hlt : b < w.heap.size := World.block_lt_of_cell? w _ hc
  have hlt1 : b < w.heap.size + 1 := by omega
  have hlt2 : b < w.heap.size + 1 + 1 := by omega
  have hmx := run_max2 Try.prog
  have hcl := hide (RG.closures h)
  clear hk h
  go_enter Try.func73, Try.ntmps73
  go_wp2_with (go_at_call 77; first | ((with_reducible refine (search_any 90 _ l.length (pLo l f) _ enters90 hn ?hf1).mono ?_); rotate_left; rintro e w' ⟨rfl, q, rfl⟩) | ((with_reducible refine (search_any 91 _ l.length (pHi l t) _ enters91 hn ?hf2).mono ?_); rotate_left; rintro e w' ⟨rfl, q2, rfl⟩))
  · go_ret2
    exact ⟨by simp only [Array.getD_eq_getD_getElem?]; simp; omega, ((((Upd.refl _ _).alloc _).alloc _).alloc _).drewN _⟩
  case hf1 => exact (hcl.out f _ _ _ ((((Upd.refl _ _).alloc _).alloc _).alloc _) (by go_simp) (by go_simp)).1
  case hf2 => exact (hcl.out t _ _ _ (((((Upd.refl _ _).alloc _).alloc _).alloc _).drewN _) (by go_simp) (by go_simp)).2.1

/-- many, as the machine reckons. -/
def manyW : List (Int × Int) → Int → Int
  | [], n => n
  | x :: l, n => manyW l (wrap64 (n + wrap64 (x.2 - x.1)))
theorem manyW_snoc (l : List (Int × Int)) (x : Int × Int) : ∀ n, manyW (l ++ [x]) n = wrap64 (manyW l n + wrap64 (x.2 - x.1)) := by
  induction l with
  | nil => intro n; rfl
  | cons y l ih => intro n; exact ih _

set_option maxHeartbeats 1000000 in
theorem many_any (F : Nat → Prop) (a : Option Addr) (l : List (Int × Int)) (c : Nat) (w : World) (hr : Rd F w a l.length 2 (flat l)) (hn : l.length < 4611686018427387904) :
    Calls Try.prog 74 #[.slice a l.length c] w fun e w' => e = .returned (.int .i64 (manyW l 0)) ∧ Upd none_ w w' := by
  have HR := hide hr
  clear hr
  go_enter Try.func74, Try.ntmps74
  go_wp2
  go_loopw [3, 8] (fun t i wr => ∃ k : Nat, k ≤ l.length ∧ i = .int .i64 k ∧ t = .int .i64 (manyW (l.take k) 0) ∧ Upd none_ w wr) (fun _ i _ => l.length - (intOf i).toNat)
  case atStart => exact ⟨0, Nat.zero_le _, rfl, rfl, Upd.refl _ _⟩
  case round =>
    obtain ⟨k, hk, rfl, rfl, hu⟩ := hrel
    have HU := hide hu
    clear hu
    by_cases hlt : k < l.length
    · obtain ⟨b, off, rfl, -, hc⟩ := HR.out.2.resolve_left (by omega)
      have e1 := HU.out.cell (hc _ _ (flat_get l k hlt).1) id
      have e2 := HU.out.cell (hc _ _ (flat_get l k hlt).2) id
      clear hc
      rw [← Nat.add_assoc] at e2
      have HS := hide (show manyW (l.take (k + 1)) 0 = wrap64 (manyW (l.take k) 0 + wrap64 ((l.getD k (0, 0)).2 - (l.getD k (0, 0)).1)) by
        rw [List.take_succ_eq_append_getElem hlt, manyW_snoc]; simp [hlt])
      go_wp2
      go_roundw
      case rel => exact ⟨k + 1, by omega, by go_num, by rw [HS.out]; simp [hlt], (HU.out.alloc _)⟩
      case measure => simp [intOf]; omega
    · obtain rfl : k = l.length := by omega
      go_wp2
      go_ret
      exact ⟨by rw [List.take_length]; rfl, HU.out⟩
end Go.Proofs.Ytjjiemicacbmaaa
