/- Layer 12, plain law: what is due as a sorted list; a finite map's entries. No program in sight. -/
import Derived.Test.YtllkeifldfmbkaaHeap
import Derived.Test.YtllkeifldfmbkaaMap
namespace Go.Proofs.Ytllkeifldfmbkaa
open Go.RowKit

section
variable {K : Type} [DecidableEq K]
theorem mget_mdel (m : List (K × Value)) (k k' : K) : mget (mdel m k) k' = if k' = k then none else mget m k' := by
  induction m with
  | nil => simp [mget, mdel]
  | cons p m ih =>
    simp only [mdel, List.filter_cons]
    by_cases h : k = p.1
    · simp only [h, decide_true, Bool.not_true, Bool.false_eq_true, if_false]
      have ih' := ih
      rw [h] at ih'
      simp only [mdel] at ih'
      rw [ih']
      by_cases h2 : k' = p.1
      · simp [h2]
      · simp [h2, mget]
    · simp only [decide_eq_false h, Bool.not_false, if_true]
      simp only [mdel] at ih
      by_cases h2 : k' = p.1
      · have h3 : k' ≠ k := fun e => h (e.symm.trans h2)
        simp [mget, h2, Ne.symm h]
      · have e1 : mget (p :: m.filter (fun p => !decide (k = p.1))) k' = mget (m.filter (fun p => !decide (k = p.1))) k' := by simp [mget, h2]
        have e2 : mget (p :: m) k' = mget m k' := by simp [mget, h2]
        rw [e1, e2, ih]
theorem mget_append (m m' : List (K × Value)) (k : K) : mget (m ++ m') k = (mget m k).or (mget m' k) := by
  simp only [mget, List.find?_append]
  cases m.find? (fun p => decide (k = p.1)) <;> simp
theorem mget_map_put (m : List (K × Value)) (k k' : K) (v : Value) : mget (m.map (fun p => if k = p.1 then (k, v) else p)) k' = if k' = k then (mget m k).map (fun _ => v) else mget m k' := by
  induction m with
  | nil => simp [mget]
  | cons p m ih =>
    rw [List.map_cons]
    by_cases h : k = p.1
    · rw [if_pos h]
      by_cases h2 : k' = k
      · subst h2; simp [mget, h]
      · have h3 : k' ≠ p.1 := fun e => h2 (e.trans h.symm)
        have e1 : ∀ q : K × Value, q.1 = p.1 ∨ q.1 = k → ∀ l, mget (q :: l) k' = mget l k' := by
          intro q hq l
          have : k' ≠ q.1 := by rcases hq with hq | hq <;> rw [hq]; exact h3; exact h2
          simp [mget, this]
        rw [e1 (k, v) (.inr rfl), e1 p (.inl rfl), ih, if_neg h2, if_neg h2]
    · rw [if_neg h]
      by_cases h2 : k' = p.1
      · have h3 : k' ≠ k := fun e => h (e.symm.trans h2)
        simp [mget, h2, Ne.symm h]
      · have e1 : ∀ l, mget (p :: l) k' = mget l k' := fun l => by simp [mget, h2]
        have e2 : mget (p :: m) k = mget m k := by simp [mget, h]
        rw [e1, e1, e2, ih]
theorem mget_mput (m : List (K × Value)) (k k' : K) (v : Value) : mget (mput m k v) k' = if k' = k then some v else mget m k' := by
  unfold mput
  by_cases h : (mget m k).isSome = true
  · rw [if_pos h, mget_map_put]
    obtain ⟨u, hu⟩ := Option.isSome_iff_exists.1 h
    rw [hu]; rfl
  · rw [if_neg h, mget_append]
    have h0 : mget m k = none := by simpa using h
    by_cases h2 : k' = k
    · subst h2; rw [h0]; simp [mget]
    · rw [if_neg h2]
      have : mget [(k, v)] k' = none := by simp [mget, h2]
      rw [this]; simp
theorem mput_len {m : List (K × Value)} {k : K} (v : Value) (h : mget m k = none) : (mput m k v).length = m.length + 1 := by
  unfold mput; rw [h]; simp
theorem mdel_len {m : List (K × Value)} {k : K} (hn : (m.map (·.1)).Nodup) (h : (mget m k).isSome = true) : (mdel m k).length + 1 = m.length := by
  induction m with
  | nil => simp [mget] at h
  | cons p m ih =>
    simp only [List.map_cons, List.nodup_cons] at hn
    by_cases e : k = p.1
    · have : mdel (p :: m) k = m := by
        unfold mdel
        rw [List.filter_cons, if_neg (by simp [e])]
        rw [List.filter_eq_self]
        intro q hq
        have : k ≠ q.1 := fun e2 => hn.1 (by rw [← e, e2]; exact List.mem_map.2 ⟨q, hq, rfl⟩)
        simp [this]
      rw [this]; rfl
    · have : mdel (p :: m) k = p :: mdel m k := by unfold mdel; rw [List.filter_cons, if_pos (by simp [e])]
      rw [this]
      have h2 : (mget m k).isSome = true := by simpa [mget, e] using h
      have := ih hn.2 h2
      simp only [List.length_cons]; omega
end
theorem GMap.nodup {K : Type} {κ : K → Value} {w : World} {b : Nat} {m : List (K × Value)} (h : GMap κ w b m) : (m.map (·.1)).Nodup := by
  obtain ⟨_, _, _, _, h, _⟩ := h
  exact h

/-- The one of key k. -/
def keyL (L : List Nd) (k : Int) : Option Nd := L.find? (fun x => decide (k = x.key))
/-- All but the one of key k. -/
def dropL (L : List Nd) (k : Int) : List Nd := L.filter (fun x => !decide (k = x.key))
theorem keyL_mem {L : List Nd} {k : Int} {x : Nd} (h : keyL L k = some x) : x ∈ L ∧ x.key = k := by
  have := List.find?_some h
  exact ⟨List.mem_of_find?_eq_some h, by simpa using (of_decide_eq_true this).symm⟩
theorem keyL_none {L : List Nd} {k : Int} (h : keyL L k = none) : ∀ x ∈ L, x.key ≠ k := by
  intro x hx e
  exact absurd (List.find?_eq_none.1 h x hx) (by simp [e])
theorem dropL_none {L : List Nd} {k : Int} (h : keyL L k = none) : dropL L k = L := by
  unfold dropL
  rw [List.filter_eq_self]
  intro x hx
  have := keyL_none h x hx
  simp; exact fun e => this e.symm
theorem dropL_perm {L : List Nd} (hn : (L.map (·.key)).Nodup) {k : Int} {x : Nd} (h : keyL L k = some x) : L.Perm (x :: dropL L k) := by
  induction L with
  | nil => simp [keyL] at h
  | cons y L ih =>
    simp only [List.map_cons, List.nodup_cons] at hn
    by_cases e : k = y.key
    · have hx : y = x := by simpa [keyL, e] using h
      subst hx
      have : dropL (y :: L) k = L := by
        unfold dropL
        rw [List.filter_cons, if_neg (by simp [e]), List.filter_eq_self]
        intro q hq
        have : k ≠ q.key := fun e2 => hn.1 (by rw [← e, e2]; exact List.mem_map.2 ⟨q, hq, rfl⟩)
        simp [this]
      rw [this]
    · have h1 : dropL (y :: L) k = y :: dropL L k := by unfold dropL; rw [List.filter_cons, if_pos (by simp [e])]
      have h2 : keyL L k = some x := by simpa [keyL, e] using h
      rw [h1]
      exact ((ih hn.2 h2).cons y).trans (List.Perm.swap x y _)
theorem keyL_drop (L : List Nd) (k k' : Int) : keyL (dropL L k) k' = if k' = k then none else keyL L k' := by
  induction L with
  | nil => simp [keyL, dropL]
  | cons p m ih =>
    simp only [dropL, List.filter_cons]
    by_cases h : k = p.key
    · simp only [h, decide_true, Bool.not_true, Bool.false_eq_true, if_false]
      have ih' := ih
      rw [h] at ih'
      simp only [dropL] at ih'
      rw [ih']
      by_cases h2 : k' = p.key
      · simp [h2]
      · simp [h2, keyL]
    · simp only [decide_eq_false h, Bool.not_false, if_true]
      simp only [dropL] at ih
      by_cases h2 : k' = p.key
      · have h3 : k' ≠ k := fun e => h (e.symm.trans h2)
        simp [keyL, h2, Ne.symm h]
      · have e1 : keyL (p :: m.filter (fun x => !decide (k = x.key))) k' = keyL (m.filter (fun x => !decide (k = x.key))) k' := by simp [keyL, h2]
        have e2 : keyL (p :: m) k' = keyL m k' := by simp [keyL, h2]
        rw [e1, e2, ih]
theorem keyL_perm {L L' : List Nd} (hp : L.Perm L') (hn : (L.map (·.key)).Nodup) (k : Int) : keyL L k = keyL L' k := by
  have hn' : (L'.map (·.key)).Nodup := ((hp.map (·.key)).nodup_iff).1 hn
  cases h : keyL L k with
  | none =>
    cases h' : keyL L' k with
    | none => rfl
    | some x =>
      obtain ⟨h1, h2⟩ := keyL_mem h'
      exact absurd h2 (keyL_none h x (hp.mem_iff.2 h1))
  | some x =>
    obtain ⟨h1, h2⟩ := keyL_mem h
    have hx' := hp.mem_iff.1 h1
    cases h' : keyL L' k with
    | none => exact absurd h2 (keyL_none h' x hx')
    | some y =>
      obtain ⟨h3, h4⟩ := keyL_mem h'
      obtain ⟨i, hi⟩ := List.getElem?_of_mem hx'
      obtain ⟨j, hj⟩ := List.getElem?_of_mem h3
      have hil := (List.getElem?_eq_some_iff.1 hi).1
      have : i = j := (List.getElem?_inj (by simpa using hil) hn').1 (by rw [List.getElem?_map, List.getElem?_map, hi, hj]; simp [h2, h4])
      subst this
      rw [hi] at hj
      injection hj with hj
      rw [hj]

/-- Set in, behind all that come no later. -/
def insL (x : Nd) : List Nd → List Nd
  | [] => [x]
  | y :: r => if y.at_ ≤ x.at_ then y :: insL x r else x :: y :: r
theorem insL_perm (x : Nd) : ∀ L, (insL x L).Perm (x :: L)
  | [] => List.Perm.refl _
  | y :: r => by
    simp only [insL]
    split
    · exact ((insL_perm x r).cons y).trans (List.Perm.swap x y r)
    · exact List.Perm.refl _
theorem insL_sorted (x : Nd) : ∀ L : List Nd, L.Pairwise Nd.lt → (∀ y ∈ L, y.set < x.set) → (insL x L).Pairwise Nd.lt
  | [], _, _ => by simp [insL]
  | y :: r, h, hs => by
    simp only [insL]
    rw [List.pairwise_cons] at h
    have hy := hs y (by simp)
    split
    · rename_i hle
      rw [List.pairwise_cons]
      refine ⟨fun z hz => ?_, insL_sorted x r h.2 (fun z hz => hs z (by simp [hz]))⟩
      rcases List.mem_cons.1 ((insL_perm x r).mem_iff.1 hz) with rfl | hz
      · unfold Nd.lt; omega
      · exact h.1 z hz
    · rename_i hgt
      rw [List.pairwise_cons, List.pairwise_cons]
      refine ⟨fun z hz => ?_, h⟩
      rcases List.mem_cons.1 hz with rfl | hz
      · unfold Nd.lt; omega
      · have := h.1 z hz
        unfold Nd.lt at *; omega
theorem dropL_sorted {L : List Nd} (h : L.Pairwise Nd.lt) (k : Int) : (dropL L k).Pairwise Nd.lt := h.filter _
theorem dropL_mem {L : List Nd} {k : Int} {x : Nd} (h : x ∈ dropL L k) : x ∈ L ∧ x.key ≠ k := by
  have := List.mem_filter.1 h
  exact ⟨this.1, fun e => by have := this.2; simp [e] at this⟩
/-- The heap's first one is the list's. -/
theorem heap_head {hs L : List Nd} {x : Nd} {r : List Nd} (h : Heap hs hs.length) (hp : hs.Perm L) (hL : L = x :: r) (hs' : L.Pairwise Nd.lt) : hs[0]? = some x := by
  have hl : 0 < hs.length := by rw [hp.length_eq, hL]; simp
  obtain ⟨z, hz⟩ : ∃ z, hs[0]? = some z := ⟨_, List.getElem?_eq_getElem hl⟩
  have hzL : z ∈ L := hp.mem_iff.1 (List.mem_of_getElem? hz)
  rw [hL] at hzL hs'
  rcases List.mem_cons.1 hzL with rfl | hzr
  · exact hz
  · exfalso
    have hlt := (List.pairwise_cons.1 hs').1 z hzr
    have hx : x ∈ hs := hp.mem_iff.2 (by rw [hL]; simp)
    obtain ⟨k, hk⟩ := List.getElem?_of_mem hx
    have := heap_min h (Nat.le_refl _) k z x (List.getElem?_eq_some_iff.1 hk).1 hz hk
    unfold Nd.lt at hlt
    unfold Nd.le at this
    omega
end Go.Proofs.Ytllkeifldfmbkaa
