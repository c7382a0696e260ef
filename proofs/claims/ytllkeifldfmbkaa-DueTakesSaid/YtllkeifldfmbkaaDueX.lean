/- Layer 12: Set in one statement; two lists that differ in their blocks alone. -/
import Derived.Test.YtllkeifldfmbkaaDueL
import Derived.Test.YtllkeifldfmbkaaRefB
namespace Go.Proofs.Ytllkeifldfmbkaa
open Go.RowKit

/-- Set, whatever comes. -/
def SetA (w : World) (F : Nat → Prop) (lb : Nat) (most now : Int) (L : List Nd) (key at_ : Int) (e : Ending) (w' : World) : Prop :=
  ∃ (r : Int) (L' : List Nd) (now' : Int) (F' : Nat → Prop), e = .returned (.int .i64 r) ∧ DueS w' F' lb most now' L' ∧ (∀ b, F' b → F b ∨ w.heap.size ≤ b) ∧ Chg F w w' ∧
    (((key < 0 ∨ at_ < 0) ∧ r = 1 ∧ L' = L ∧ now' = now) ∨ (0 ≤ key ∧ 0 ≤ at_ ∧ keyL L key = none ∧ (L.length : Int) = most ∧ r = 7 ∧ L' = L ∧ now' = now) ∨
     (0 ≤ key ∧ 0 ≤ at_ ∧ ¬ (keyL L key = none ∧ (L.length : Int) = most) ∧ r = 0 ∧ now' = now + 1 ∧ ∃ nb, L' = insL ⟨nb, key, at_, now + 1⟩ (dropL L key)))
theorem dset_all (F : Nat → Prop) (lb : Nat) (most now : Int) (L : List Nd) (key at_ : Int) (w : World) (h : DueS w F lb most now L) (hl : L.length ≤ 5000) (hw0 : 0 ≤ now) (hw1 : now ≤ 1000000) :
    Calls Try.prog 19 #[.pointer (some ⟨lb, 0, none⟩), .int .i64 key, .int .i64 at_] w (SetA w F lb most now L key at_) := by
  by_cases hb : key < 0 ∨ at_ < 0
  · refine (dset_arg F lb most now L key at_ w h hb).mono ?_
    rintro e _ ⟨rfl, rfl⟩
    exact ⟨1, L, now, F, rfl, h, fun b hb => .inl hb, Chg.refl _ _, .inl ⟨hb, rfl, rfl, rfl⟩⟩
  · by_cases hf : keyL L key = none ∧ (L.length : Int) = most
    · refine (dset_full F lb most now L key at_ w h (by omega) (by omega) hf.1 hf.2).mono ?_
      rintro e w' ⟨rfl, hb'⟩
      exact ⟨7, L, now, F, rfl, h.next hb', fun b hb => .inl hb, Chg.of_below hb', .inr (.inl ⟨by omega, by omega, hf.1, hf.2, rfl, rfl, rfl⟩)⟩
    · refine (dset_ok F lb most now L key at_ w h hl (by omega) (by omega) hf hw0 hw1).mono ?_
      rintro e w' ⟨rfl, nb, F', h1, h2, h3⟩
      exact ⟨0, _, _, F', rfl, h1, h2, h3, .inr (.inr ⟨by omega, by omega, hf, rfl, rfl, nb, rfl⟩)⟩

/-- All but the block. -/
def strip (x : Nd) : Int × Int × Int := (x.key, x.at_, x.set)
def Alike (L M : List Nd) : Prop := L.map strip = M.map strip
theorem Alike.len {L M : List Nd} (h : Alike L M) : L.length = M.length := by have := congrArg List.length h; simpa using this
theorem Alike.ka {L M : List Nd} (h : Alike L M) : kaL L = kaL M := by
  have := congrArg (List.map (fun p : Int × Int × Int => (p.1, p.2.1))) h
  rw [List.map_map, List.map_map] at this
  exact this
theorem alike_cons {x y : Nd} {L M : List Nd} : Alike (x :: L) (y :: M) ↔ strip x = strip y ∧ Alike L M := by
  unfold Alike; simp
theorem strip_key {x y : Nd} (h : strip x = strip y) : x.key = y.key ∧ x.at_ = y.at_ := by
  unfold strip at h
  injection h with h1 h2
  injection h2 with h2 h3
  exact ⟨h1, h2⟩
theorem Alike.drop : ∀ {L M : List Nd}, Alike L M → ∀ k, Alike (dropL L k) (dropL M k)
  | [], [], _, _ => rfl
  | [], y :: M, h, _ => by simp [Alike] at h
  | x :: L, [], h, _ => by simp [Alike] at h
  | x :: L, y :: M, h, k => by
    obtain ⟨h1, h2⟩ := alike_cons.1 h
    have ih := Alike.drop h2 k
    have hk := (strip_key h1).1
    simp only [dropL, List.filter_cons, hk]
    split
    · exact alike_cons.2 ⟨h1, ih⟩
    · exact ih
theorem Alike.ins : ∀ {L M : List Nd}, Alike L M → ∀ (x y : Nd), strip x = strip y → Alike (insL x L) (insL y M)
  | [], [], _, x, y, hxy => by simp [insL, Alike, hxy]
  | [], y :: M, h, _, _, _ => by simp [Alike] at h
  | x :: L, [], h, _, _, _ => by simp [Alike] at h
  | x :: L, y :: M, h, u, v, huv => by
    obtain ⟨h1, h2⟩ := alike_cons.1 h
    have ih := Alike.ins h2 u v huv
    have hk := (strip_key h1).2
    have hk2 := (strip_key huv).2
    simp only [insL, hk, hk2]
    split
    · exact alike_cons.2 ⟨h1, ih⟩
    · exact alike_cons.2 ⟨huv, h⟩
theorem Alike.key : ∀ {L M : List Nd}, Alike L M → ∀ k, (keyL L k = none ↔ keyL M k = none)
  | [], [], _, _ => Iff.rfl
  | [], y :: M, h, _ => by simp [Alike] at h
  | x :: L, [], h, _ => by simp [Alike] at h
  | x :: L, y :: M, h, k => by
    obtain ⟨h1, h2⟩ := alike_cons.1 h
    have ih := Alike.key h2 k
    have hk := (strip_key h1).1
    simp only [keyL, List.find?_cons, hk] at ih ⊢
    by_cases e : k = y.key
    · simp [e]
    · simp [e]; simpa using ih
theorem takeL_ka : ∀ (L : List Nd) (t : Int), kaL (takeL L t) = (kaL L).takeWhile (fun p => decide (p.2 ≤ t))
  | [], _ => rfl
  | x :: L, t => by
    have ih := takeL_ka L t
    simp only [takeL, kaL, List.takeWhile_cons, List.map_cons] at ih ⊢
    by_cases h : x.at_ ≤ t
    · simp [h, ih]
    · simp [h]
theorem restL_ka : ∀ (L : List Nd) (t : Int), kaL (restL L t) = (kaL L).dropWhile (fun p => decide (p.2 ≤ t))
  | [], _ => rfl
  | x :: L, t => by
    have ih := restL_ka L t
    simp only [restL, kaL, List.dropWhile_cons, List.map_cons] at ih ⊢
    by_cases h : x.at_ ≤ t
    · simp [h, ih]
    · simp [h]
/-- By steps it is all at once. -/
theorem take_steps : ∀ (l : List (Int × Int)) (f s : Int), f ≤ s →
    l.takeWhile (fun p => decide (p.2 ≤ f)) ++ (l.dropWhile (fun p => decide (p.2 ≤ f))).takeWhile (fun p => decide (p.2 ≤ s)) = l.takeWhile (fun p => decide (p.2 ≤ s)) ∧
    (l.dropWhile (fun p => decide (p.2 ≤ f))).dropWhile (fun p => decide (p.2 ≤ s)) = l.dropWhile (fun p => decide (p.2 ≤ s))
  | [], _, _, _ => ⟨rfl, rfl⟩
  | x :: l, f, s, h => by
    obtain ⟨i1, i2⟩ := take_steps l f s h
    by_cases h1 : x.2 ≤ f
    · have h2 : x.2 ≤ s := by omega
      simp only [List.takeWhile_cons, List.dropWhile_cons, h1, h2, decide_true, if_true, List.cons_append, i1, i2]
      exact ⟨trivial, trivial⟩
    · simp only [List.takeWhile_cons, List.dropWhile_cons, h1, decide_false, Bool.false_eq_true, if_false, List.nil_append]
      exact ⟨trivial, trivial⟩
end Go.Proofs.Ytllkeifldfmbkaa
