/- Layer 12, the reference's Same. -/
import Derived.Test.YtllkeifldfmbkaaRefA
namespace Go.Proofs.Ytllkeifldfmbkaa
open Go.RowKit

def sameB (a b : List (Int × Int)) : Bool := decide (a = b)
theorem sameB_len {a b : List (Int × Int)} (h : a.length ≠ b.length) : sameB a b = false := decide_eq_false (fun e => h (by rw [e]))
theorem sameB_no {a b : List (Int × Int)} {k : Nat} {x y : Int × Int} (hx : a[k]? = some x) (hy : b[k]? = some y) (h : x ≠ y) : sameB a b = false := decide_eq_false (fun e => by subst e; rw [hx] at hy; injection hy with hy; exact h hy)
theorem sameB_yes {a b : List (Int × Int)} (hl : a.length = b.length) (h : a.take a.length = b.take a.length) : sameB a b = true := decide_eq_true (by rw [List.take_length, hl, List.take_length] at h; exact h)
theorem take_eq_succ {a b : List (Int × Int)} {k : Nat} {x : Int × Int} (h : a.take k = b.take k) (hx : a[k]? = some x) (hy : b[k]? = some x) : a.take (k + 1) = b.take (k + 1) := by
  rw [List.take_add_one, List.take_add_one, h, hx, hy]

set_option maxRecDepth 100000 in
set_option maxHeartbeats 1000000 in
theorem same12_any (S1 S2 : Nat → Prop) (u v : Value) (a b : List (Int × Int)) (w : World) (ha : Kas w S1 u a) (hb : Kas w S2 v b) :
    Calls Try.prog 23 #[u, v] w fun e w' => e = .returned (.bool (sameB a b)) ∧ Below w.heap.size w w' := by
  obtain ⟨A, c, rfl, hc1, hc2, hr⟩ := ha
  obtain ⟨A', c', rfl, hc1', hc2', hr'⟩ := hb
  unfold maxLen at hc2 hc2'
  obtain ⟨B, hB⟩ : ∃ B, B = sameB a b := ⟨_, rfl⟩
  rw [← hB]
  by_cases hl : a.length = b.length
  · have t1 : ((a.length : Int) != (b.length : Int)) = false := by rw [hl]; simp
    replace hB := hid hB
    replace hr := hid hr
    replace hr' := hid hr'
    replace hl := hid hl
    go_enter Try.func23, Try.ntmps23
    go_wp2_with fail
    go_loopg [5] a.length (fun n ix wr => ∃ k : Nat, k ≤ a.length ∧ n = a.length - k ∧ ix = .int .i64 k ∧ a.take k = b.take k ∧ Below w.heap.size w wr)
    case atStart => exact ⟨0, Nat.zero_le _, by omega, rfl, by simp, Below.refl _ _⟩
    case round =>
      obtain ⟨k, hk, rfl, rfl, heq, hbw⟩ := hrel
      replace heq := hid heq
      by_cases hlt : k < a.length
      · have hlt' : k < b.length := by rw [← hl.out]; exact hlt
        obtain ⟨x, hx⟩ : ∃ x, a[k]? = some x := ⟨_, List.getElem?_eq_getElem hlt⟩
        obtain ⟨y, hy⟩ : ∃ y, b[k]? = some y := ⟨_, List.getElem?_eq_getElem hlt'⟩
        obtain ⟨p, o, rfl, _, _, x0, x1⟩ := (hr.out.below hbw).ka hx
        obtain ⟨p', o', rfl, _, _, y0, y1⟩ := (hr'.out.below hbw).ka hy
        obtain ⟨xk, xa⟩ := x
        obtain ⟨yk, ya⟩ := y
        simp only [] at x0 x1 y0 y1
        have hn := fun W => neq_rdue xk xa yk ya W
        have i0 : (0 : Int) ≤ (k : Int) := by omega
        have i1 : (k : Int) < (a.length : Int) := by omega
        have i2 : (k : Int) < (b.length : Int) := by omega
        by_cases hxy : xk = yk ∧ xa = ya
        · obtain ⟨rfl, rfl⟩ := hxy
          have hst := hid (take_eq_succ heq.out hx hy)
          simp only [beq_self_eq_true, Bool.and_self, Bool.not_true] at hn
          replace hbw := hid hbw
          clear hx hy
          go_wp2_with fail
          go_quiet (fail)
          go_wp2_with fail
          go_roundg (a.length - (k + 1))
          case rel => exact ⟨k + 1, by omega, rfl, by go_num, hst.out, hbw.out.drewN _⟩
          case measure => omega
        · have hfin := sameB_no hx hy (fun e => hxy (by injection e with e1 e2; exact ⟨e1, e2⟩))
          have e : (xk == yk && xa == ya) = false := by
            cases h : (xk == yk && xa == ya) with
            | false => rfl
            | true => exact absurd (by simpa using h) hxy
          rw [e] at hn
          simp only [Bool.not_false] at hn
          replace hfin := hid hfin
          replace hbw := hid hbw
          clear hx hy hxy e
          go_wp2_with fail
          go_quiet (fail)
          go_wp2
          go_returns
          exact ⟨by rw [hB.out, hfin.out]; rfl, hbw.out.drewN _⟩
      · obtain rfl : k = a.length := by omega
        have hfin := hid (sameB_yes hl.out heq.out)
        go_wp2
        go_returns
        exact ⟨by rw [hB.out, hfin.out]; rfl, hbw⟩
  · have t1 : ((a.length : Int) != (b.length : Int)) = true := by rw [bne_iff_ne]; omega
    have hfin := hid (sameB_len hl)
    replace hB := hid hB
    clear hr hr' hl
    go_enter Try.func23, Try.ntmps23
    go_wp2
    go_returns
    exact ⟨by rw [hB.out, hfin.out]; rfl, Below.refl _ _⟩
end Go.Proofs.Ytllkeifldfmbkaa
