/- Layer 14, plain law: transactions that come in any order of their numbers are all in order at last. -/
import Derived.Test.YtllkeifldfmbkaaOrdI
namespace Go.Proofs.Ytllkeifldfmbkaa
open Go.RowKit

/-- The transaction of origin 2 and number s. -/
def U (s : Int) : Tx := ⟨2, s, 0, 0, s - 1, []⟩
theorem rowM_ge : ∀ (n : Nat) (hv : Int) (m : Held), hv ≤ (rowM n hv m).2.1
  | 0, _, _ => Int.le_refl _
  | n + 1, hv, m => by
    simp only [rowM]
    cases hg : hget m (hv + 1) with
    | none => exact Int.le_refl _
    | some x => exact Int.le_trans (by omega) (rowM_ge n (hv + 1) (hdel m (hv + 1)))
theorem rowM_keeps : ∀ (n : Nat) (hv : Int) (m : Held) (p : Int × Tx × Value), p ∈ m → (rowM n hv m).2.1 < p.1 → p ∈ (rowM n hv m).2.2
  | 0, _, _, _, h, _ => h
  | n + 1, hv, m, p, h, hlt => by
    simp only [rowM] at hlt ⊢
    cases hg : hget m (hv + 1) with
    | none => exact h
    | some x =>
      rw [hg] at hlt
      have hge := rowM_ge n (hv + 1) (hdel m (hv + 1))
      refine rowM_keeps n (hv + 1) (hdel m (hv + 1)) p ?_ hlt
      refine List.mem_filter.2 ⟨h, ?_⟩
      have : hv + 1 ≠ p.1 := by intro e; rw [← e] at hlt; exact absurd hge (by simpa using hlt)
      simp [this]
/-- Where the run stands: the first k of the numbers ps have come, the first h are in order, m is held. -/
structure TurnM (ps : List Nat) (k h : Nat) (m : Held) : Prop where
  key : ∀ p ∈ m, ∃ j : Nat, j ∈ ps.take k ∧ p.1 = 11 + (j : Int) ∧ p.2.1 = U p.1
  ok : HeldOk 2 (10 + (h : Int) + 1) m
  low : ∀ j, j < h → j ∈ ps.take k
  all : ∀ j ∈ ps.take k, j < h ∨ ∃ p ∈ m, p.1 = 11 + (j : Int)
  len : m.length + h ≤ k
theorem TurnM.start (ps : List Nat) : TurnM ps 0 0 [] :=
  ⟨fun p hp => by simp at hp, fun p hp => by simp at hp, fun j hj => by omega, fun j hj => by simp at hj, by simp⟩
theorem TurnM.notin {ps : List Nat} {k h : Nat} {m : Held} (I : TurnM ps k h m) : h ∉ ps.take k := by
  intro hm
  rcases I.all h hm with e | ⟨p, hp, e⟩
  · omega
  · have := (I.ok p hp).2.2.1; omega
theorem mem_take_succ {ps : List Nat} {k j i : Nat} (hk : ps[k]? = some j) : i ∈ ps.take (k + 1) ↔ i ∈ ps.take k ∨ i = j := by
  rw [List.take_add_one, hk]; simp
theorem not_before {ps : List Nat} {k j : Nat} (hn : ps.Nodup) (hk : ps[k]? = some j) : j ∉ ps.take k := by
  intro hm
  obtain ⟨i, hi⟩ := List.getElem?_of_mem hm
  have hik : i < k := by
    have := (List.getElem?_eq_some_iff.1 hi).1
    rw [List.length_take] at this; omega
  rw [List.getElem?_take_of_lt hik] at hi
  have hl := (List.getElem?_eq_some_iff.1 hi).1
  have := (List.getElem?_inj hl hn).1 (hi.trans hk.symm)
  omega
theorem check_U (j : Nat) (h : j < 8) : check (U (11 + (j : Int))) = 0 := by
  match j, h with
  | 0, _ => decide
  | 1, _ => decide
  | 2, _ => decide
  | 3, _ => decide
  | 4, _ => decide
  | 5, _ => decide
  | 6, _ => decide
  | 7, _ => decide
section
variable {ps : List Nat} {k h j : Nat} {m : Held}
theorem TurnM.put (I : TurnM ps k h m) (hn : ps.Nodup) (hk : ps[k]? = some j) (hj : j < 8) (hk8 : k < 8) : putM 2 (10 + (h : Int)) m (U (11 + (j : Int))) = if j = h then 2 else 3 := by
  have hnb := not_before hn hk
  have hjh : h ≤ j := Nat.le_of_not_lt fun e => hnb (I.low j e)
  have hget0 : (hget m (11 + (j : Int))).isSome = false := by
    cases hg : hget m (11 + (j : Int)) with
    | none => rfl
    | some x =>
      obtain ⟨j', hj', e, _⟩ := I.key _ (hget_mem hg)
      have : j = j' := by simp only [] at e; omega
      subst this
      exact absurd hj' hnb
  have hlen := I.len
  unfold putM
  rw [if_neg (by rw [check_U j hj]; simp [U])]
  rw [if_neg (by simp only [U]; rw [hget0]; simp; omega)]
  by_cases e : j = h
  · subst e
    rw [if_neg (by simp only [U]; omega), if_neg (by simp only [U]; omega), if_pos rfl]
  · rw [if_neg (by simp only [U]; omega), if_pos (by simp only [U]; omega), if_neg e]
theorem TurnM.held (I : TurnM ps k h m) (hn : ps.Nodup) (hk : ps[k]? = some j) (hj : j < 8) (e : j ≠ h) (v : Value) : TurnM ps (k + 1) h (m ++ [((U (11 + (j : Int))).s, U (11 + (j : Int)), v)]) := by
  have hnb := not_before hn hk
  have hjh : h ≤ j := Nat.le_of_not_lt fun e => hnb (I.low j e)
  have hl := I.len
  refine ⟨fun p hp => ?_, fun p hp => ?_, fun i hi => (mem_take_succ hk).2 (.inl (I.low i hi)), fun i hi => ?_, by simp; omega⟩
  · rcases List.mem_append.1 hp with hp | hp
    · obtain ⟨i, h1, h2⟩ := I.key p hp
      exact ⟨i, (mem_take_succ hk).2 (.inl h1), h2⟩
    · rw [List.mem_singleton.1 hp]
      exact ⟨j, (mem_take_succ hk).2 (.inr rfl), rfl, rfl⟩
  · rcases List.mem_append.1 hp with hp | hp
    · exact I.ok p hp
    · rw [List.mem_singleton.1 hp]
      exact ⟨rfl, rfl, by simp only [U]; omega, by simp only [U]; omega⟩
  · rcases (mem_take_succ hk).1 hi with hi | rfl
    · rcases I.all i hi with h1 | ⟨p, hp, h1⟩
      · exact .inl h1
      · exact .inr ⟨p, List.mem_append_left _ hp, h1⟩
    · exact .inr ⟨_, List.mem_append_right _ (List.mem_singleton.2 rfl), rfl⟩
theorem TurnM.next (I : TurnM ps k h m) (hk : ps[k]? = some h) (hh : h < 8) (v : Value) (r : List (Tx × Value) × Int × Held)
    (hr : rowM (m.length + 1) (10 + (h : Int)) (m ++ [((U (11 + (h : Int))).s, U (11 + (h : Int)), v)]) = r) :
    r.2.1 = 10 + ((h + r.1.length : Nat) : Int) ∧ TurnM ps (k + 1) (h + r.1.length) r.2.2 ∧ ∀ i x, r.1[i]? = some x → x.1 = U (11 + ((h + i : Nat) : Int)) := by
  have hkey : ∀ p ∈ m ++ [((U (11 + (h : Int))).s, U (11 + (h : Int)), v)], ∃ i : Nat, i ∈ ps.take (k + 1) ∧ p.1 = 11 + (i : Int) ∧ p.2.1 = U p.1 := by
    intro p hp
    rcases List.mem_append.1 hp with hp | hp
    · obtain ⟨i, h1, h2⟩ := I.key p hp
      exact ⟨i, (mem_take_succ hk).2 (.inl h1), h2⟩
    · rw [List.mem_singleton.1 hp]
      exact ⟨h, (mem_take_succ hk).2 (.inr rfl), rfl, rfl⟩
  have hok : HeldOk 2 (10 + (h : Int)) (m ++ [((U (11 + (h : Int))).s, U (11 + (h : Int)), v)]) := by
    intro p hp
    rcases List.mem_append.1 hp with hp | hp
    · obtain ⟨h1, h2, h3, h4⟩ := I.ok p hp
      exact ⟨h1, h2, by omega, h4⟩
    · rw [List.mem_singleton.1 hp]
      exact ⟨rfl, rfl, by simp only [U]; omega, by simp only [U]; omega⟩
  have hkeep := rowM_keeps (m.length + 1) (10 + (h : Int)) (m ++ [((U (11 + (h : Int))).s, U (11 + (h : Int)), v)])
  obtain ⟨r1, r2, r3, r4, r5⟩ := row_spec 2 (m.length + 1) (10 + (h : Int)) _ (by simp) hok
  rw [hr] at r1 r2 r3 r4 r5 hkeep
  have hhv : r.2.1 = 10 + ((h + r.1.length : Nat) : Int) := by rw [r2]; push_cast; omega
  have hl := I.len
  have htx : ∀ i x, r.1[i]? = some x → x.1 = U (11 + ((h + i : Nat) : Int)) ∧ h + i ∈ ps.take (k + 1) := by
    intro i x hx
    obtain ⟨h1, p, hp, h2⟩ := r1 i x hx
    obtain ⟨i', h3, h4, h5⟩ := hkey p hp
    rw [h2] at h5
    have h6 := (hok p hp).1
    rw [h2, h1] at h6
    have h7 : i' = h + i := by omega
    subst h7
    rw [h5, h4]
    exact ⟨rfl, h3⟩
  refine ⟨hhv, ⟨fun p hp => hkey p (r3 p hp), by rw [← hhv]; exact r4, fun i hi => ?_, fun i hi => ?_, by rw [List.length_append] at r5; simp at r5; omega⟩, fun i x hx => (htx i x hx).1⟩
  · by_cases e : i < h
    · exact (mem_take_succ hk).2 (.inl (I.low i e))
    · have hx := (htx (i - h) _ (List.getElem?_eq_getElem (by omega))).2
      rwa [show h + (i - h) = i by omega] at hx
  · have hp : i < h ∨ ∃ p ∈ m ++ [((U (11 + (h : Int))).s, U (11 + (h : Int)), v)], p.1 = 11 + (i : Int) := by
      rcases (mem_take_succ hk).1 hi with hi | rfl
      · rcases I.all i hi with h1 | ⟨p, hp, h1⟩
        · exact .inl h1
        · exact .inr ⟨p, List.mem_append_left _ hp, h1⟩
      · exact .inr ⟨_, List.mem_append_right _ (List.mem_singleton.2 rfl), rfl⟩
    rcases hp with h1 | ⟨p, hp, h1⟩
    · exact .inl (by omega)
    · by_cases e : r.2.1 < p.1
      · exact .inr ⟨p, hkeep p hp e, h1⟩
      · exact .inl (by omega)
theorem TurnM.done {many : Nat} (I : TurnM ps many h m) (hp : ps.Perm (List.range many)) : h = many ∧ m = [] := by
  have hl := I.len
  have hlen : ps.length = many := by rw [hp.length_eq, List.length_range]
  have hni := I.notin
  rw [List.take_of_length_le (by omega)] at hni
  have : ¬ h < many := fun e => hni (hp.mem_iff.2 (List.mem_range.2 e))
  exact ⟨by omega, List.eq_nil_of_length_eq_zero (by omega)⟩
end
end Go.Proofs.Ytllkeifldfmbkaa
