/- Layer 12, the small functions: cmp.Compare, cmp.Or, ahead; a list of what is due as it lies in memory. -/
import Derived.Test.YtllkeifldfmbkaaChecked
import Derived.Test.YtllkeifldfmbkaaMap
import Derived.Test.YtllkeifldfmbkaaHeap
import Derived.BigQuiet
import Derived.Deep.QuietTactic
import Derived.Deep.RegionHeld3
import Derived.Deep.DeepCutAuto
namespace Go.Proofs.Ytllkeifldfmbkaa
open Go.RowKit

/-- What cmp.Compare answers. -/
def cmpZ (a b : Int) : Int := if a < b then -1 else if b < a then 1 else 0

set_option maxHeartbeats 400000 in
theorem nan64_any (a : Int) (w : World) : Calls Try.prog 67 #[.int .i64 a] w fun e w' => e = .returned (.bool false) ∧ w = w' := by
  go_enter Try.func67, Try.ntmps67
  go_wp2
  go_returns
  exact ⟨by simp, rfl⟩
set_option maxHeartbeats 400000 in
theorem nan_any (a : Int) (w : World) : Calls Try.prog 68 #[.int .i64 a] w fun e w' => e = .returned (.bool false) ∧ w = w' := by
  go_enter Try.func68, Try.ntmps68
  go_wp2
  go_returns
  exact ⟨by simp, rfl⟩
theorem ret_i64 {a b : Int} (h : a = b) : Ending.returned (.int .i64 a) = .returned (.int .i64 b) := by rw [h]
set_option maxHeartbeats 400000 in
theorem cmp64_any (a b : Int) (w : World) : Calls Try.prog 59 #[.int .i64 a, .int .i64 b] w fun e w' => e = .returned (.int .i64 (cmpZ a b)) ∧ w = w' := by
  obtain ⟨c, hc⟩ : ∃ c, c = cmpZ a b := ⟨_, rfl⟩
  rw [← hc]
  replace hc := hid hc
  go_enter Try.func59, Try.ntmps59
  go_wp2_with (go_at_call 67; refine (nan64_any _ _).mono ?_; rintro e _ ⟨rfl, rfl⟩)
  all_goals
    go_returns
    refine ⟨ret_i64 ?_, rfl⟩
    rw [hc.out]; unfold cmpZ; (repeat' split) <;> omega
set_option maxHeartbeats 400000 in
theorem cmp_any (a b : Int) (w : World) : Calls Try.prog 60 #[.int .i64 a, .int .i64 b] w fun e w' => e = .returned (.int .i64 (cmpZ a b)) ∧ w = w' := by
  obtain ⟨c, hc⟩ : ∃ c, c = cmpZ a b := ⟨_, rfl⟩
  rw [← hc]
  replace hc := hid hc
  go_enter Try.func60, Try.ntmps60
  go_wp2_with (go_at_call 68; refine (nan_any _ _).mono ?_; rintro e _ ⟨rfl, rfl⟩)
  all_goals
    go_returns
    refine ⟨ret_i64 ?_, rfl⟩
    rw [hc.out]; unfold cmpZ; (repeat' split) <;> omega
/-- What cmp.Or answers of two. -/
def orZ (a b : Int) : Int := if a = 0 then b else a
set_option maxHeartbeats 400000 in
theorem or_any (a b : Int) (w : World) (g : Nat) (h0 : w.cell? ⟨g, 0, none⟩ = some (.int .i64 a)) (h1 : w.cell? ⟨g, 1, none⟩ = some (.int .i64 b)) :
    Calls Try.prog 58 #[.slice (some ⟨g, 0, none⟩) 2 2] w fun e w' => e = .returned (.int .i64 (orZ a b)) ∧ w = w' := by
  unfold orZ
  by_cases ha : a = 0
  · subst ha
    by_cases hb : b = 0
    · subst hb
      go_enter Try.func58, Try.ntmps58
      go_wp2
      go_rounds 3
      all_goals (go_returns; exact ⟨by simp, rfl⟩)
    · have hb1 : (b != 0) = true := by simpa using hb
      go_enter Try.func58, Try.ntmps58
      go_wp2
      go_rounds 3
      all_goals (go_returns; exact ⟨by simp, rfl⟩)
  · have ha1 : (a != 0) = true := by simpa using ha
    rw [if_neg ha]
    go_enter Try.func58, Try.ntmps58
    go_wp2
    go_rounds 3
    all_goals (go_returns; exact ⟨by simp, rfl⟩)
end Go.Proofs.Ytllkeifldfmbkaa
