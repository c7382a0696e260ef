/- The law OrderTurned of layer 14 returns true for every number and every row of places, and leaves its arguments as they were. Conditions: none. -/
import Derived.Test.YtllkeifldfmbkaaTurnC
import Derived.Test.YtllkeifldfmbkaaOrdM
import Derived.Test.YtllkeifldfmbkaaOrdL
import Derived.Test.YtllkeifldfmbkaaRows
import Derived.Carry
namespace Go.Proofs.Ytllkeifldfmbkaa
open Go.ChangeShapes Go.WideShapes Go.ChangeAt Go.RowKit Go.Deep

theorem turn_knob : ownKnob Try.prog.godebug = none := by kernel_rfl
theorem turn_laid : laidOutB Try.prog = true := by kernel_rfl
theorem one_u8 : Try.prog.cellsOf 5 = 1 := by kernel_rfl
theorem wf_u8 {n : Int} (h : (Lit.int .u8 n).wf = true) : 0 ≤ n ∧ n ≤ 255 := by
  have e1 : IntKind.u8.min = 0 := by decide
  have e2 : IntKind.u8.max = 255 := by decide
  rw [Lit.wf, e1, e2] at h
  simpa using h
theorem flat_one : ∀ l : List Int, l.flatMap (fun n : Int => [Value.int .u8 n]) = l.map (Value.int .u8)
  | [] => rfl
  | a :: l => by rw [List.flatMap_cons, flat_one l]; rfl
section
variable {H : Type} {enc : TypeId × Value → H} {w : World} {held : Bool} {fuel : Nat} {cs : List Value} {x : DataW H × List MemPlace}
theorem open_bys (h : DataW.trod enc Try.prog w 0 (fun _ => true) held fuel 44 cs = some x) : ∃ v l, cs = [v] ∧ Bys w (fun _ => True) v l := by
  rcases open_slice Try.underlying44 h with ⟨rfl, _⟩ | ⟨a, len, cap, m, n, D, Pl, rfl, _, hl, hc, hm, _, hr⟩
  · exact ⟨_, [], rfl, none, 0, rfl, Nat.le_refl _, by simp [maxLen], Rd.nil, by simp⟩
  · rw [one_u8] at hr
    obtain ⟨l, hl', hr', hq⟩ := rd_of_open (w := w) (a := a) (len := len) (k := 1) (by omega) (fun n : Int => [Value.int .u8 n]) (fun _ => rfl) (fun y => 0 ≤ y ∧ y ≤ 255) (fun i hi => by
      obtain ⟨cs', h1, h2⟩ := hr i (by rw [hm]; simp; omega)
      obtain ⟨y, e, _, hw⟩ := DataW.trod_int Try.underlying5 h2
      exact ⟨y, by rw [h1, e], wf_u8 hw⟩)
    subst hl'
    refine ⟨_, l, rfl, some a, cap, rfl, hl, hc, ?_, hq⟩
    rw [← flat_one l]; exact hr'
end

set_option maxRecDepth 100000 in
theorem orderTurned_lifted (os : Os) (started : os.Started) (H : Type) (enc : TypeId × Value → H) :
    ReturnsInHanded {} Try.checked os 4 .any (Rows.orderTurnedSpec.pre6 enc Try.prog Try.f4 Rows.orderTurnedRow.domain false) (Rows.orderTurnedSpec.post enc Try.prog Try.f4 false true false false) := by
  refine returnsInHanded_of_change (C := Try.checked) turn_knob started (by kernel_rfl) Try.func4
    (ChangeSpec.witness6 (enc := enc) (C := Try.checked) false ⟨#[], #[.int .u8 0, .slice none 0 0], []⟩ 8 (by kernel_rfl) (by kernel_rfl) (by kernel_rfl) (by kernel_rfl)) ?_
  intro W base args ds gs before hval0 hW hcnd _
  have hval : ∀ (j : Nat) t v, Try.f4.params[j]? = some t → args[j]? = some v → Value.okWide Try.prog W .any base t v := hval0
  have hW' := hW
  obtain ⟨p, q, hA0, hV, rfl, hfz, hnd⟩ := hW
  have hA : DataW.TrodAll enc Try.prog W 0 (fun _ => true) true Try.f4.params.toList args.toList ds p := hA0
  rw [Try.params4] at hA hval
  obtain ⟨v0, v1, d0, d1, p0, p1, rfl, rfl, rfl, h0, h1⟩ := trodAll_two hA
  obtain ⟨rfl, rfl⟩ := trodVars_none hV
  obtain ⟨a, rfl, rfl, rfl, wa⟩ := open_int Try.underlying5 (hval 0 5 v0 rfl rfl) h0
  obtain ⟨fuel, hf⟩ := id h1
  obtain ⟨A, n, c, rfl⟩ := okWide_slice Try.underlying44 (hval 1 44 v1 rfl rfl)
  obtain ⟨v, l, e, hbys⟩ := open_bys hf
  have e' : [Value.slice A n c] = [v] := e
  injection e' with e'
  subst e'
  clear hA0 hval0 hf e
  have hlt := hW'.lt
  simp only [List.append_nil, List.nil_append] at hW' hlt
  refine (turned_any awake_any a (fun _ => True) _ l W (wf_u8 wa).1 (wf_u8 wa).2 hbys).mono fun e W' ⟨he, hb⟩ => ?_
  subst he
  have T1 := Below.trod turn_laid (by kernel_rfl) (of_decide_eq_true (by kernel_rfl)) h1 hb hlt
  refine ⟨_, rfl, ⟨_, _, _, [], _, [], hW', trodAll_mk1 (shut_bool Try.underlying4 true), trodAll_mk2 (shut_int Try.underlying5 wa) T1, rfl, hb.frame _, fun h => by cases h⟩⟩

theorem orderTurned_holds : Rows.OrderTurnedSaid :=
  OpenClaim.holds_of_wide 4 Try.f4 rfl rfl rfl rfl rfl rfl rfl ⟨rfl, rfl, rfl, rfl, rfl⟩ rfl rfl rfl rfl rfl (by kernel_rfl) Try.func4 (by kernel_rfl)
    (of_decide_eq_true (by kernel_rfl)) (by unfold Func.isWrapper; first | (rw [if_pos (by decide +kernel)]; kernel_rfl) | (rw [if_neg (by decide +kernel)]; exact ⟨rfl, rfl⟩))
    (fun os started H enc _ => orderTurned_lifted os started H enc)
#print axioms orderTurned_holds
end Go.Proofs.Ytllkeifldfmbkaa
