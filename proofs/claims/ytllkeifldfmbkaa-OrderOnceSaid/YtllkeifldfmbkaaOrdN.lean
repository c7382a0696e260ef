/- The law OrderOnce of layer 14 returns true for every number and every row of acts, and leaves its arguments as they were. Conditions: none. -/
import Derived.Test.YtllkeifldfmbkaaOrdM
import Derived.Test.YtllkeifldfmbkaaOrdL
import Derived.Test.YtllkeifldfmbkaaRows
import Derived.Carry
namespace Go.Proofs.Ytllkeifldfmbkaa
open Go.ChangeShapes Go.WideShapes Go.ChangeAt Go.RowKit Go.Deep

theorem own_knob : ownKnob Try.prog.godebug = none := by kernel_rfl
theorem laid_out : laidOutB Try.prog = true := by kernel_rfl

set_option maxRecDepth 100000 in
theorem orderOnce_lifted (os : Os) (started : os.Started) (H : Type) (enc : TypeId × Value → H) :
    ReturnsInHanded {} Try.checked os 3 .any (Rows.orderOnceSpec.pre6 enc Try.prog Try.f3 Rows.orderOnceRow.domain false) (Rows.orderOnceSpec.post enc Try.prog Try.f3 false true false false) := by
  refine returnsInHanded_of_change (C := Try.checked) own_knob started (by kernel_rfl) Try.func3
    (ChangeSpec.witness6 (enc := enc) (C := Try.checked) false ⟨#[], #[.int .i64 0, .slice none 0 0], []⟩ 8 (by kernel_rfl) (by kernel_rfl) (by kernel_rfl) (by kernel_rfl)) ?_
  intro W base args ds gs before hval0 hW hcnd _
  have hval : ∀ (j : Nat) t v, Try.f3.params[j]? = some t → args[j]? = some v → Value.okWide Try.prog W .any base t v := hval0
  have hW' := hW
  obtain ⟨p, q, hA0, hV, rfl, hfz, hnd⟩ := hW
  have hA : DataW.TrodAll enc Try.prog W 0 (fun _ => true) true Try.f3.params.toList args.toList ds p := hA0
  rw [Try.params3] at hA hval
  obtain ⟨v0, v1, d0, d1, p0, p1, rfl, rfl, rfl, h0, h1⟩ := trodAll_two hA
  obtain ⟨rfl, rfl⟩ := trodVars_none hV
  obtain ⟨a, rfl, rfl, rfl, wa⟩ := open_int Try.underlying2 (hval 0 2 v0 rfl rfl) h0
  obtain ⟨fuel, hf⟩ := id h1
  obtain ⟨A, n, c, rfl⟩ := okWide_slice Try.underlying22 (hval 1 22 v1 rfl rfl)
  obtain ⟨v, l, e, hacts⟩ := open_acts hf
  have e' : [Value.slice A n c] = [v] := e
  injection e' with e'
  subst e'
  clear hA0 hval0 hf e
  have hlt := hW'.lt
  simp only [List.append_nil, List.nil_append] at hW' hlt
  refine (once_any awake_any a (fun _ => True) _ l W hacts).mono fun e W' ⟨he, hb⟩ => ?_
  subst he
  have T1 := Below.trod laid_out (by kernel_rfl) (of_decide_eq_true (by kernel_rfl)) h1 hb hlt
  refine ⟨_, rfl, ⟨_, _, _, [], _, [], hW', trodAll_mk1 (shut_bool Try.underlying4 true), trodAll_mk2 (shut_int Try.underlying2 wa) T1, rfl, hb.frame _, fun h => by cases h⟩⟩

theorem orderOnce_holds : Rows.OrderOnceSaid :=
  OpenClaim.holds_of_wide 3 Try.f3 rfl rfl rfl rfl rfl rfl rfl ⟨rfl, rfl, rfl, rfl, rfl⟩ rfl rfl rfl rfl rfl (by kernel_rfl) Try.func3 (by kernel_rfl)
    (of_decide_eq_true (by kernel_rfl)) (by unfold Func.isWrapper; first | (rw [if_pos (by decide +kernel)]; kernel_rfl) | (rw [if_neg (by decide +kernel)]; exact ⟨rfl, rfl⟩))
    (fun os started H enc _ => orderOnce_lifted os started H enc)
#print axioms orderOnce_holds
end Go.Proofs.Ytllkeifldfmbkaa
