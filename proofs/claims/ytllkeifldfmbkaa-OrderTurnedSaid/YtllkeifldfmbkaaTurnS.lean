/- Several cells written at once into a row of the call's own; two elements of a list changed for each other. No program in sight. -/
import Derived.Test.YtllkeifldfmbkaaData
import Derived.Laws.OwnMore
import Derived.Deep.MidRow
namespace Go.Proofs.Ytllkeifldfmbkaa
open Go.RowKit

/-- The list with vs written from place o on. -/
def setL : List Value → Nat → List Value → List Value
  | xs, _, [] => xs
  | xs, o, v :: r => setL (xs.set o v) (o + 1) r
theorem setL_right (a : List Value) : ∀ (vs : List Value) (b : List Value) (o : Nat), setL (a ++ b) (a.length + o) vs = a ++ setL b o vs
  | [], _, _ => rfl
  | v :: r, b, o => by
    simp only [setL]
    rw [List.set_append_right _ _ (by omega), Nat.add_sub_cancel_left, Nat.add_assoc]
    exact setL_right a r (b.set o v) (o + 1)
theorem setL_all : ∀ (vs p a b : List Value), a.length = vs.length → setL (p ++ (a ++ b)) p.length vs = p ++ (vs ++ b)
  | [], p, a, b, h => by
    have : a = [] := List.eq_nil_of_length_eq_zero (by simpa using h)
    subst this; rfl
  | v :: r, p, [], b, h => by simp at h
  | v :: r, p, x :: a, b, h => by
    simp only [setL]
    have e : (p ++ ((x :: a) ++ b)).set p.length v = (p ++ [v]) ++ (a ++ b) := by
      rw [List.set_append_right _ _ (Nat.le_refl _), Nat.sub_self]; simp
    rw [e]
    have := setL_all r (p ++ [v]) a b (by simpa using h)
    rw [List.length_append] at this
    simpa using this
theorem flat_set {α : Type} (f : α → List Value) (k : Nat) (hf : ∀ x, (f x).length = k) (x : α) : ∀ (l : List α) (i : Nat), i < l.length → setL (l.flatMap f) (i * k) (f x) = (l.set i x).flatMap f
  | [], i, h => by simp at h
  | y :: l, 0, _ => by
    have := setL_all (f x) [] (f y) (l.flatMap f) (by rw [hf, hf])
    simpa using this
  | y :: l, i + 1, h => by
    have := setL_right (f y) (f x) (l.flatMap f) (i * k)
    rw [hf] at this
    rw [List.flatMap_cons, List.set_cons_succ, List.flatMap_cons, ← flat_set f k hf x l i (by simpa using h), ← this, Nat.add_mul, Nat.one_mul, Nat.add_comm]
theorem own_setL {base : Nat} {e : TypeId} {size n g cap : Nat} : ∀ (vs : List Value) {w : World} {xs : List Value} (o : Nat), w.ownsRow base e size (.slice (some ⟨g, 0, none⟩) n cap) n xs →
    (w.setCells g o vs).ownsRow base e size (.slice (some ⟨g, 0, none⟩) n cap) n (setL xs o vs) ∧ w.grownBy (w.setCells g o vs) (some g)
  | [], w, xs, o, h => ⟨h, rfl, rfl, rfl, Nat.le_refl _, fun _ _ _ => rfl⟩
  | v :: r, w, xs, o, h => by
    obtain ⟨h1, g1⟩ := h.stored o v
    obtain ⟨h2, g2⟩ := own_setL r (o + 1) h1
    refine ⟨h2, ⟨g2.os.trans g1.os, g2.tape.trans g1.tape, g2.output.trans g1.output, Nat.le_trans g1.size g2.size, fun k hk hne => ?_⟩⟩
    have e1 := g1.block k hk hne
    exact (g2.block k (Nat.lt_of_lt_of_le hk g1.size) hne).trans e1
theorem swap_perm {α : Type} (l : List α) {a c : Nat} {x y : α} (ha : l[a]? = some x) (hc : l[c]? = some y) : ((l.set a y).set c x).Perm l := by
  have ha' := List.getElem?_eq_some_iff.1 ha
  have hc' := List.getElem?_eq_some_iff.1 hc
  have h := Array.swap_perm (xs := l.toArray) (i := a) (j := c) (by simpa using ha'.1) (by simpa using hc'.1)
  have e : (l.toArray.swap a c (by simpa using ha'.1) (by simpa using hc'.1)).toList = (l.set a y).set c x := by
    rw [Array.toList_swap]; simp [ha'.2, hc'.2]
  have h2 := Array.perm_iff_toList_perm.1 h
  rw [e] at h2
  simpa using h2
end Go.Proofs.Ytllkeifldfmbkaa
