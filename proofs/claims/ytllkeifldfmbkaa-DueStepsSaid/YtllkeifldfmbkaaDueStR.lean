/- The law DueSteps of layer 12 returns true for every row of acts and every two ticks, and leaves its arguments as they were. Conditions: none. -/
import Derived.Test.YtllkeifldfmbkaaDueOpen
import Derived.Test.YtllkeifldfmbkaaDueSt
import Derived.Test.YtllkeifldfmbkaaRows
import Derived.Carry
namespace Go.Proofs.Ytllkeifldfmbkaa
open Go.ChangeShapes Go.WideShapes Go.ChangeAt Go.RowKit Go.Deep

theorem steps_knob : ownKnob Try.prog.godebug = none := by kernel_rfl
theorem steps_laid : laidOutB Try.prog = true := by kernel_rfl

set_option maxRecDepth 100000 in
theorem dueSteps_lifted (os : Os) (started : os.Started) (H : Type) (enc : TypeId × Value → H) :
    ReturnsInHanded {} Try.checked os 7 .any (Rows.dueStepsSpec.pre6 enc Try.prog Try.f7 Rows.dueStepsRow.domain false) (Rows.dueStepsSpec.post enc Try.prog Try.f7 false true false false) := by
  refine returnsInHanded_of_change (C := Try.checked) steps_knob started (by kernel_rfl) Try.func7
    (ChangeSpec.witness6 (enc := enc) (C := Try.checked) false ⟨#[], #[.slice none 0 0, .int .i64 0, .int .i64 0], []⟩ 8 (by kernel_rfl) (by kernel_rfl) (by kernel_rfl) (by kernel_rfl)) ?_
  intro W base args ds gs before hval0 hW hcnd _
  have hval : ∀ (j : Nat) t v, Try.f7.params[j]? = some t → args[j]? = some v → Value.okWide Try.prog W .any base t v := hval0
  have hW' := hW
  obtain ⟨p, q, hA0, hV, rfl, hfz, hnd⟩ := hW
  have hA : DataW.TrodAll enc Try.prog W 0 (fun _ => true) true Try.f7.params.toList args.toList ds p := hA0
  rw [Try.params7] at hA hval
  obtain ⟨v0, v1, v2, d0, d1, d2, p0, p1, p2, rfl, rfl, rfl, h0, h1, h2⟩ := trodAll_three hA
  obtain ⟨rfl, rfl⟩ := trodVars_none hV
  obtain ⟨a, rfl, rfl, rfl, wa⟩ := open_int Try.underlying2 (hval 1 2 v1 rfl rfl) h1
  obtain ⟨b, rfl, rfl, rfl, wb⟩ := open_int Try.underlying2 (hval 2 2 v2 rfl rfl) h2
  obtain ⟨fuel, hf⟩ := id h0
  obtain ⟨A, n, c, rfl⟩ := okWide_slice Try.underlying47 (hval 0 47 v0 rfl rfl)
  obtain ⟨v, l, e, hacts⟩ := open_acts12 hf
  have e' : [Value.slice A n c] = [v] := e
  injection e' with e'
  subst e'
  clear hA0 hval0 hf e
  have hlt := hW'.lt
  simp only [List.append_nil] at hW' hlt
  refine (steps12_any (fun _ => True) _ l a b W hacts).mono fun e W' ⟨he, hb⟩ => ?_
  subst he
  have T1 := Below.trod steps_laid (by kernel_rfl) (of_decide_eq_true (by kernel_rfl)) h0 hb hlt
  refine ⟨_, rfl, ⟨_, _, _, [], _, [], hW', trodAll_mk1 (shut_bool Try.underlying4 true), trodAll_mk3 T1 (shut_int Try.underlying2 wa) (shut_int Try.underlying2 wb), rfl, hb.frame _, fun h => by cases h⟩⟩

theorem dueSteps_holds : Rows.DueStepsSaid :=
  OpenClaim.holds_of_wide 7 Try.f7 rfl rfl rfl rfl rfl rfl rfl ⟨rfl, rfl, rfl, rfl, rfl⟩ rfl rfl rfl rfl rfl (by kernel_rfl) Try.func7 (by kernel_rfl)
    (of_decide_eq_true (by kernel_rfl)) (by unfold Func.isWrapper; first | (rw [if_pos (by decide +kernel)]; kernel_rfl) | (rw [if_neg (by decide +kernel)]; exact ⟨rfl, rfl⟩))
    (fun os started H enc _ => dueSteps_lifted os started H enc)
#print axioms dueSteps_holds
end Go.Proofs.Ytllkeifldfmbkaa
