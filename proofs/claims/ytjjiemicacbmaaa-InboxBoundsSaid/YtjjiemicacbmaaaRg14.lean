/- The helpers of the laws of ranges: same, kind. -/
import Derived.Test.YtjjiemicacbmaaaRg13
namespace Go.Proofs.Ytjjiemicacbmaaa
open Go.RowKit Go.Shelf

set_option maxHeartbeats 1000000 in
theorem same17 (F F' : Nat → Prop) (a a' : Option Addr) (c c' : Nat) (l : List (Int × Int)) (w : World) (hr : Rd F w a l.length 2 (flat l)) (hr' : Rd F' w a' l.length 2 (flat l)) (hn : l.length < 4611686018427387904) :
    Calls Try.prog 18 #[.slice a l.length c, .slice a' l.length c'] w fun e w' => e = .returned (.bool true) ∧ Upd none_ w w' := by
  have HR := hide hr
  have HR' := hide hr'
  clear hr hr'
  go_enter Try.func18, Try.ntmps18
  go_wp2
  go_loopw [5] (fun i wr => ∃ k : Nat, k ≤ l.length ∧ i = .int .i64 k ∧ Upd none_ w wr) (fun i _ => l.length - (intOf i).toNat)
  case atStart => exact ⟨0, Nat.zero_le _, rfl, Upd.refl _ _⟩
  case round =>
    obtain ⟨k, hk, rfl, hu⟩ := hrel
    have HU := hide hu
    clear hu
    by_cases hlt : k < l.length
    · obtain ⟨b, off, rfl, -, hc⟩ := HR.out.2.resolve_left (by omega)
      obtain ⟨b', off', rfl, -, hc'⟩ := HR'.out.2.resolve_left (by omega)
      have e1 := HU.out.cell (hc _ _ (flat_get l k hlt).1) id
      have e2 := HU.out.cell (hc _ _ (flat_get l k hlt).2) id
      have e3 := HU.out.cell (hc' _ _ (flat_get l k hlt).1) id
      have e4 := HU.out.cell (hc' _ _ (flat_get l k hlt).2) id
      clear hc hc'
      rw [← Nat.add_assoc] at e2 e4
      generalize l.getD k (0, 0) = x at e1 e2 e3 e4
      have f1 : (0 : Int) ≤ (k : Int) := by omega
      have f2 : (k : Int) < (l.length : Int) := by omega
      have f3 : (k : Int).toNat = k := by omega
      go_wp2_with fail
      go_quiet (fail)
      go_wp2_with fail
      go_roundw
      case rel => exact ⟨k + 1, by omega, by go_num, HU.out.drewN _⟩
      case measure => simp [intOf]; omega
    · obtain rfl : k = l.length := by omega
      go_wp2
      go_ret
      exact ⟨rfl, HU.out⟩

/-- kind. -/
def kindZ (c n : Int) : Int := (if c < 0 then -(c + 1) else c) % n
theorem kindZ_bd (c n : Int) (hn : 0 < n) : 0 ≤ kindZ c n ∧ kindZ c n < n := ⟨Int.emod_nonneg _ (by omega), Int.emod_lt_of_pos _ hn⟩
set_option maxHeartbeats 1000000 in
theorem kind17 (c n : Int) (w : World) (h1 : -9223372036854775808 ≤ c ∧ c ≤ 9223372036854775807) (hn : 0 < n ∧ n ≤ 9223372036854775807) :
    Calls Try.prog 19 #[.int .i64 c, .int .i64 n] w fun e w' => e = .returned (.int .i64 (kindZ c n)) ∧ Upd none_ w w' := by
  have f0 : (n == 0) = false := by simp; omega
  by_cases hc : c < 0
  · have f1 : IntKind.i64.wrap (c + 1) = c + 1 := IntWalk.i64_in _ (by omega)
    have f2 : IntKind.i64.wrap (-(c + 1)) = -(c + 1) := IntWalk.i64_in _ (by omega)
    go_enter Try.func19, Try.ntmps19
    go_wp2
    go_ret
    refine ⟨?_, Upd.refl _ _⟩
    unfold kindZ
    rw [if_pos hc, ← Int.tmod_eq_emod_of_nonneg (by omega), Int.neg_tmod]
    rfl
  · go_enter Try.func19, Try.ntmps19
    go_wp2
    go_ret
    refine ⟨?_, Upd.refl _ _⟩
    unfold kindZ
    rw [if_neg (by omega), ← Int.tmod_eq_emod_of_nonneg (by omega)]
    rfl
end Go.Proofs.Ytjjiemicacbmaaa
