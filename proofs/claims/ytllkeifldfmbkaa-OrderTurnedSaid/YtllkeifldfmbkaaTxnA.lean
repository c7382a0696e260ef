/- Walks of layer 6 and its callees: clock.Right, long, Check$1, IndexFunc, ContainsFunc. -/
import Derived.Test.YtllkeifldfmbkaaChecked
import Derived.Test.YtllkeifldfmbkaaData
import Derived.BigQuiet
import Derived.Deep.QuietTactic
namespace Go.Proofs.Ytllkeifldfmbkaa
open Go.RowKit

set_option maxHeartbeats 400000 in
theorem right_any (a b c : Int) (w : World) :
    Calls Try.prog 45 #[.agg #[.int .i64 a, .int .i64 b, .int .i64 c]] w fun e w' => e = .returned (.bool (okN a && okN b && okN c)) ∧ Below w.heap.size w w' := by
  have i0 : ∀ w, (Instr.index 31 (.agg #[.int .i64 a, .int .i64 b, .int .i64 c]) (.int .i64 0)).run Try.prog w = .ok (.int .i64 a) w := fun _ => by kernel_rfl
  have i1 : ∀ w, (Instr.index 31 (.agg #[.int .i64 a, .int .i64 b, .int .i64 c]) (.int .i64 1)).run Try.prog w = .ok (.int .i64 b) w := fun _ => by kernel_rfl
  have i2 : ∀ w, (Instr.index 31 (.agg #[.int .i64 a, .int .i64 b, .int .i64 c]) (.int .i64 2)).run Try.prog w = .ok (.int .i64 c) w := fun _ => by kernel_rfl
  go_enter Try.func45, Try.ntmps45
  go_wp2
  go_rounds 4
  all_goals (go_returns; refine ⟨?_, by go_grown⟩; simp [okN]; omega)

set_option maxHeartbeats 400000 in
theorem long_any (x : Wr) (w : World) :
    Calls Try.prog 47 #[wrVal x] w fun e w' => e = .returned (.bool (longB x)) ∧ Below w.heap.size w w' := by
  unfold wrVal longB
  by_cases h : 64 < x.key.size
  all_goals
    go_enter Try.func47, Try.ntmps47
    go_wp2
    go_returns
    refine ⟨?_, by go_grown⟩
    simp only [Ending.returned.injEq, Array.getD_eq_getD_getElem?]
    refine congrArg Value.bool ?_
    first | (rw [Bool.eq_iff_iff]; done) | (rw [Bool.eq_iff_iff]; simp; done) | (rw [Bool.eq_iff_iff]; simp; omega)

set_option maxHeartbeats 400000 in
theorem bad_any (x : Wr) (w : World) :
    Calls Try.prog 48 #[wrVal x] w fun e w' => e = .returned (.bool (badB x)) ∧ Below w.heap.size w w' := by
  unfold wrVal badB
  cases h : x.gone
  all_goals
    go_enter Try.func48, Try.ntmps48
    go_wp2
    go_returns
    refine ⟨?_, by go_grown⟩
    simp

set_option maxHeartbeats 800000 in
/-- IndexFunc over writes, at either of the two predicates. -/
theorem index_any (f : Nat) (p : Wr → Bool) (hf : (f = 47 ∧ p = longB) ∨ (f = 48 ∧ p = badB)) (S : Nat → Prop) (v : Value) (ws : List Wr) (w : World) (hw : Ws w S v ws) :
    Calls Try.prog 61 #[v, .func (.func f) #[] #[]] w fun e w' => ∃ n : Int, e = .returned (.int .i64 n) ∧ (decide (0 ≤ n) = ws.any p) ∧ Below w.heap.size w w' := by
  obtain ⟨A, c, rfl, hc, hm, hr⟩ := hw
  have hm1 := hm; unfold maxLen at hm1
  have hp : ∀ (x : Wr) (W : World), Calls Try.prog f #[wrVal x] W fun e w' => e = .returned (.bool (p x)) ∧ Below W.heap.size W w' := by
    rcases hf with ⟨rfl, rfl⟩ | ⟨rfl, rfl⟩
    · exact long_any
    · exact bad_any
  have HF := hid hf
  rcases hf with ⟨rfl, hpp⟩ | ⟨rfl, hpp⟩
  all_goals
    clear hpp HF
    have HP := hid hp
    have HR := hid hr
    clear hp hr
    go_enter Try.func61, Try.ntmps61
    go_wp2
    go_loopw [8] (fun i wr => ∃ k : Nat, k ≤ ws.length ∧ i = .int .i64 k ∧ (ws.take k).any p = false ∧ Below w.heap.size w wr) (fun i _ => ws.length - (intOf i).toNat)
    case atStart => exact ⟨0, Nat.zero_le _, rfl, by simp, Below.refl _ _⟩
    case round =>
      obtain ⟨k, hk, rfl, hno, hb⟩ := hrel
      have HNO := hid hno
      clear hno
      by_cases hlt : k < ws.length
      · obtain ⟨x, hx⟩ : ∃ x, ws[k]? = some x := ⟨_, List.getElem?_eq_getElem hlt⟩
        obtain ⟨b, o, rfl, hbl, hS, c0, c1, c2⟩ := ((HR.out).below hb).wr hx
        have HX := hid hx
        clear hx
        have HNX := hid (any_step HNO.out HX.out)
        go_wp2_with fail
        with_reducible refine (HP.out x _).mono ?_
        rintro e w' ⟨rfl, hb'⟩
        cases hpx : p x
        all_goals
          go_wp2
        · go_roundw
          case rel => exact ⟨k + 1, by omega, by go_num, by rw [HNX.out, hpx], hb.next hb'⟩
          case measure => simp [intOf]; omega
        · go_returns
          exact ⟨k, rfl, by rw [any_get HX.out hpx]; simp, hb.next hb'⟩
      · go_wp2
        go_returns
        exact ⟨-1, rfl, by rw [any_none HNO.out (by omega)]; rfl, hb⟩
end Go.Proofs.Ytllkeifldfmbkaa
