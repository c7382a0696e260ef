/- The law DueTakes of layer 12 returns true for every row of acts, and leaves it as it was. Conditions: none. -/
import Derived.Test.YtllkeifldfmbkaaDueOpen
import Derived.Test.YtllkeifldfmbkaaDueTa
import Derived.Test.YtllkeifldfmbkaaRows
import Derived.Carry
namespace Go.Proofs.Ytllkeifldfmbkaa
open Go.ChangeShapes Go.WideShapes Go.ChangeAt Go.RowKit Go.Deep

theorem takes_knob : ownKnob Try.prog.godebug = none := by kernel_rfl
theorem takes_laid : laidOutB Try.prog = true := by kernel_rfl

set_option maxRecDepth 100000 in
theorem dueTakes_lifted (os : Os) (started : os.Started) (H : Type) (enc : TypeId × Value → H) :
    ReturnsInHanded {} Try.checked os 6 .any (Rows.dueTakesSpec.pre6 enc Try.prog Try.f6 Rows.dueTakesRow.domain false) (Rows.dueTakesSpec.post enc Try.prog Try.f6 false true false false) := by
  refine returnsInHanded_of_change (C := Try.checked) takes_knob started (by kernel_rfl) Try.func6
    (ChangeSpec.witness6 (enc := enc) (C := Try.checked) false ⟨#[], #[.slice none 0 0], []⟩ 8 (by kernel_rfl) (by kernel_rfl) (by kernel_rfl) (by kernel_rfl)) ?_
  intro W base args ds gs before hval0 hW hcnd _
  have hval : ∀ (j : Nat) t v, Try.f6.params[j]? = some t → args[j]? = some v → Value.okWide Try.prog W .any base t v := hval0
  have hW' := hW
  obtain ⟨p, q, hA0, hV, rfl, hfz, hnd⟩ := hW
  have hA : DataW.TrodAll enc Try.prog W 0 (fun _ => true) true Try.f6.params.toList args.toList ds p := hA0
  rw [Try.params6] at hA hval
  obtain ⟨v0, d0, rfl, rfl, h0⟩ := trodAll_one hA
  obtain ⟨rfl, rfl⟩ := trodVars_none hV
  obtain ⟨fuel, hf⟩ := id h0
  obtain ⟨A, n, c, rfl⟩ := okWide_slice Try.underlying47 (hval 0 47 v0 rfl rfl)
  obtain ⟨v, l, e, hacts⟩ := open_acts12 hf
  have e' : [Value.slice A n c] = [v] := e
  injection e' with e'
  subst e'
  clear hA0 hval0 hf e
  have hlt := hW'.lt
  simp only [List.append_nil] at hW' hlt
  refine (takes12_any (fun _ => True) _ l W hacts).mono fun e W' ⟨he, hb⟩ => ?_
  subst he
  have T1 := Below.trod takes_laid (by kernel_rfl) (of_decide_eq_true (by kernel_rfl)) h0 hb hlt
  refine ⟨_, rfl, ⟨_, _, _, [], _, [], hW', trodAll_mk1 (shut_bool Try.underlying4 true), trodAll_mk1 T1, rfl, hb.frame _, fun h => by cases h⟩⟩

theorem dueTakes_holds : Rows.DueTakesSaid :=
  OpenClaim.holds_of_wide 6 Try.f6 rfl rfl rfl rfl rfl rfl rfl ⟨rfl, rfl, rfl, rfl, rfl⟩ rfl rfl rfl rfl rfl (by kernel_rfl) Try.func6 (by kernel_rfl)
    (of_decide_eq_true (by kernel_rfl)) (by unfold Func.isWrapper; first | (rw [if_pos (by decide +kernel)]; kernel_rfl) | (rw [if_neg (by decide +kernel)]; exact ⟨rfl, rfl⟩))
    (fun os started H enc _ => dueTakes_lifted os started H enc)
#print axioms dueTakes_holds
end Go.Proofs.Ytllkeifldfmbkaa
