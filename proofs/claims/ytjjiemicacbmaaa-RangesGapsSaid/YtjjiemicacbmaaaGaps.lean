/- RangesGaps answers true, whatever the input; the input reads as it did. -/
import Derived.Test.YtjjiemicacbmaaaRows
import Derived.Test.YtjjiemicacbmaaaRg16
namespace Go.Proofs.Ytjjiemicacbmaaa
open Go.ChangeShapes Go.WideShapes Go.ChangeAt Go.RowKit

theorem gaps_knob : ownKnob Try.prog.godebug = none := by kernel_rfl
theorem gaps_laid : laidOutB Try.prog = true := by kernel_rfl

set_option maxRecDepth 100000 in
theorem gaps_lifted (os : Os) (started : os.Started) (H : Type) (enc : TypeId × Value → H) :
    ReturnsInHanded {} Try.checked os 4 .any (Rows.rangesGapsSpec.pre6 enc Try.prog Try.f4 Rows.rangesGapsRow.domain false) (Rows.rangesGapsSpec.post enc Try.prog Try.f4 false true false false) := by
  refine returnsInHanded_of_change (C := Try.checked) gaps_knob started (by kernel_rfl) Try.func4
    (ChangeSpec.witness6 (enc := enc) (C := Try.checked) false ⟨#[], #[.slice none 0 0, .int .i64 0, .int .i64 0], []⟩ 8 (by kernel_rfl) (by kernel_rfl) (by kernel_rfl) (by kernel_rfl)) ?_
  intro W base args ds gs before hval0 hW hcnd _
  have hval : ∀ (j : Nat) t v, Try.f4.params[j]? = some t → args[j]? = some v → Value.okWide Try.prog W .any base t v := hval0
  have hW' := hW
  obtain ⟨p, q, hA0, hV, rfl, hfz, hnd⟩ := hW
  have hA : DataW.TrodAll enc Try.prog W 0 (fun _ => true) true Try.f4.params.toList args.toList ds p := hA0
  rw [Try.params4] at hA hval
  obtain ⟨v0, v1, v2, d0, d1, d2, p0, p1, p2, rfl, rfl, rfl, h0, h1, h2⟩ := trodAll_three hA
  obtain ⟨rfl, rfl⟩ := trodVars_none hV
  obtain ⟨al, cl, L, e0, hl, hn1, -⟩ := open_rows3 Try.underlying22 Try.underlying29 Try.underlying3 (by kernel_rfl) (by kernel_rfl) ⟨rfl, rfl⟩ ⟨rfl, rfl⟩ ⟨rfl, rfl⟩ (hval 0 22 v0 rfl rfl) h0
  obtain ⟨f, rfl, rfl, rfl, wf⟩ := open_int Try.underlying3 (hval 1 3 v1 rfl rfl) h1
  obtain ⟨t, rfl, rfl, rfl, wt⟩ := open_int Try.underlying3 (hval 2 3 v2 rfl rfl) h2
  clear hA0 hval0
  simp only [List.append_nil] at hW'
  have hlt : ∀ x ∈ p0, x.block < W.heap.size := fun x hx => hW'.lt x hx
  have hwalk := gaps_walk _ al cl L f t W hl (i64_of wf) (i64_of wt)
  rw [← e0] at hwalk
  refine hwalk.mono fun e W' ⟨he, hu⟩ => ?_
  subst he
  have hB := hu.toBelow
  have t0 := Below.trod gaps_laid (by kernel_rfl) (of_decide_eq_true (by kernel_rfl)) h0 hB hlt
  refine ⟨_, rfl, _, _, _, [], p0, [], hW', ?_, ?_, rfl, hB.frame _, fun h => by cases h⟩
  · exact trodAll_mk1 (shut_bool Try.underlying4 true)
  · have h3 := trodAll_mk3 t0 (shut_int Try.underlying3 wf) (shut_int Try.underlying3 wt)
    rw [show p0 ++ ([] ++ []) = p0 by simp] at h3
    exact h3

theorem rangesGaps_holds : Rows.RangesGapsSaid :=
  OpenClaim.holds_of_wide 4 Try.f4 rfl rfl rfl rfl rfl rfl rfl ⟨rfl, rfl, rfl, rfl, rfl⟩ rfl rfl rfl rfl rfl (by kernel_rfl) Try.func4 (by kernel_rfl)
    (of_decide_eq_true (by kernel_rfl)) (by unfold Func.isWrapper; first | (rw [if_pos (by decide +kernel)]; kernel_rfl) | (rw [if_neg (by decide +kernel)]; exact ⟨rfl, rfl⟩))
    (fun os started H enc _ => gaps_lifted os started H enc)
end Go.Proofs.Ytjjiemicacbmaaa
