/- Layer 12, plain law: a binary heap in a list: what 'up' and 'down' leave. No program in sight. -/
import Derived.Test.YtllkeifldfmbkaaData
namespace Go.Proofs.Ytllkeifldfmbkaa

/-- One that is due: its block, its key, its tick, when it was set. -/
structure Nd where
  b : Nat
  key : Int
  at_ : Int
  set : Int

def Nd.le (x y : Nd) : Prop := x.at_ < y.at_ ∨ (x.at_ = y.at_ ∧ x.set ≤ y.set)
def Nd.lt (x y : Nd) : Prop := x.at_ < y.at_ ∨ (x.at_ = y.at_ ∧ x.set < y.set)
instance (x y : Nd) : Decidable (Nd.lt x y) := by unfold Nd.lt; infer_instance
instance (x y : Nd) : Decidable (Nd.le x y) := by unfold Nd.le; infer_instance
theorem Nd.le_refl (x : Nd) : x.le x := by unfold Nd.le; omega
theorem Nd.le_trans {x y z : Nd} (h : x.le y) (k : y.le z) : x.le z := by unfold Nd.le at *; omega
theorem Nd.le_of_lt {x y : Nd} (h : x.lt y) : x.le y := by unfold Nd.lt at h; unfold Nd.le; omega
theorem Nd.not_lt {x y : Nd} : ¬ x.lt y ↔ y.le x := by unfold Nd.lt Nd.le; omega

section
variable {n : Nat}
/-- The ordered pairs of places that 'heap' asks: at place k the one above it is no later. -/
def UpOk (l : List Nd) (k : Nat) : Prop := ∀ x y, l[(k - 1) / 2]? = some x → l[k]? = some y → x.le y
def Heap (l : List Nd) (n : Nat) : Prop := ∀ k, 0 < k → k < n → UpOk l k
/-- A heap but for place i. -/
def Near (l : List Nd) (n i : Nat) : Prop :=
  (∀ k, 0 < k → k < n → k ≠ i → (k - 1) / 2 ≠ i → UpOk l k) ∧ (∀ c x y, 0 < i → c < n → 0 < c → (c - 1) / 2 = i → l[(i - 1) / 2]? = some x → l[c]? = some y → x.le y)
/-- Those below place i are no earlier. -/
def Below2 (l : List Nd) (n i : Nat) : Prop := ∀ c, 0 < c → c < n → (c - 1) / 2 = i → UpOk l c

def swapL (l : List Nd) (i j : Nat) : List Nd :=
  match l[i]?, l[j]? with
  | some x, some y => (l.set i y).set j x
  | _, _ => l
def lessL (l : List Nd) (i j : Nat) : Bool :=
  match l[i]?, l[j]? with
  | some x, some y => decide (x.lt y)
  | _, _ => false

theorem swapL_len (l : List Nd) (i j : Nat) : (swapL l i j).length = l.length := by unfold swapL; split <;> simp
theorem swapL_get {l : List Nd} {i j : Nat} {x y : Nd} (hi : l[i]? = some x) (hj : l[j]? = some y) (k : Nat) :
    (swapL l i j)[k]? = if k = j then some x else if k = i then some y else l[k]? := by
  have hil := (List.getElem?_eq_some_iff.1 hi).1
  have hjl := (List.getElem?_eq_some_iff.1 hj).1
  unfold swapL
  rw [hi, hj]
  simp only [List.getElem?_set, List.length_set]
  by_cases h1 : k = j
  · subst h1; simp [hjl]
  · by_cases h2 : k = i
    · subst h2; simp [h1, Ne.symm h1, hil]
    · simp [h1, h2, Ne.symm h1, Ne.symm h2]

/-- 'up' from place j. -/
def upL : Nat → List Nd → Nat → List Nd
  | 0, l, _ => l
  | f + 1, l, j => if (j - 1) / 2 = j ∨ lessL l j ((j - 1) / 2) = false then l else upL f (swapL l ((j - 1) / 2) j) ((j - 1) / 2)
/-- The earlier one of the two below place i. -/
def kid (l : List Nd) (n i : Nat) : Nat := if 2 * i + 2 < n ∧ lessL l (2 * i + 2) (2 * i + 1) = true then 2 * i + 2 else 2 * i + 1
/-- 'down' from place i, among the first n. -/
def downL : Nat → List Nd → Nat → Nat → List Nd × Nat
  | 0, l, i, _ => (l, i)
  | f + 1, l, i, n => if n ≤ 2 * i + 1 ∨ lessL l (kid l n i) i = false then (l, i) else downL f (swapL l i (kid l n i)) (kid l n i) n

theorem near_up {l : List Nd} {j : Nat} (h : Near l n j) (h2 : Below2 l n j) (hjn : j < n) (hn : n ≤ l.length) (hj : 0 < j) (hlt : lessL l j ((j - 1) / 2) = true) :
    Near (swapL l ((j - 1) / 2) j) n ((j - 1) / 2) ∧ Below2 (swapL l ((j - 1) / 2) j) n ((j - 1) / 2) := by
  have hil : (j - 1) / 2 < j := by omega
  obtain ⟨y, hy⟩ : ∃ y, l[j]? = some y := ⟨_, List.getElem?_eq_getElem (by omega)⟩
  obtain ⟨x, hx⟩ : ∃ x, l[(j - 1) / 2]? = some x := ⟨_, List.getElem?_eq_getElem (by omega)⟩
  have hyx : y.lt x := by unfold lessL at hlt; rw [hy, hx] at hlt; simpa using hlt
  obtain ⟨i, hi⟩ : ∃ i, i = (j - 1) / 2 := ⟨_, rfl⟩
  rw [← hi] at hil hx ⊢
  have hg := swapL_get hx hy
  refine ⟨⟨fun k hk0 hkn hki hkp a b ha hb => ?_, fun c a b hi0 hcn hc0 hcp ha hb => ?_⟩, fun c hc0 hcn hcp a b ha hb => ?_⟩
  · rw [hg] at ha hb
    rw [if_neg hkp] at ha
    rw [if_neg hki] at hb
    by_cases hkj : k = j
    · subst hkj; exact absurd hi.symm hkp
    · rw [if_neg hkj] at hb
      by_cases hpj : (k - 1) / 2 = j
      · rw [if_pos hpj] at ha
        have hcx := h.2 k x b hj hkn hk0 hpj (by rw [← hi]; exact hx) hb
        injection ha with ha
        subst ha
        exact hcx
      · rw [if_neg hpj] at ha
        exact h.1 k hk0 hkn hkj hpj a b ha hb
  · rw [hg] at ha hb
    have e1 : (i - 1) / 2 ≠ j := by omega
    have e2 : (i - 1) / 2 ≠ i := by omega
    rw [if_neg e1, if_neg e2] at ha
    have hix : a.le x := by
      have := h.1 i hi0 (by omega) (by omega) (by omega) a x ha hx
      exact this
    by_cases hcj : c = j
    · rw [if_pos hcj] at hb
      injection hb with hb; subst hb; exact hix
    · have hci : c ≠ i := by omega
      rw [if_neg hcj, if_neg hci] at hb
      have := h.1 c hc0 hcn hcj (by omega) x b (by rw [hcp]; exact hx) hb
      exact Nd.le_trans hix this
  · rw [hg] at ha hb
    have e1 : (c - 1) / 2 ≠ j := by omega
    rw [if_neg e1, if_pos hcp] at ha
    injection ha with ha; subst ha
    by_cases hcj : c = j
    · rw [if_pos hcj] at hb
      injection hb with hb; subst hb; exact Nd.le_of_lt hyx
    · have hci : c ≠ i := by omega
      rw [if_neg hcj, if_neg hci] at hb
      have := h.1 c hc0 hcn hcj (by omega) x b (by rw [hcp]; exact hx) hb
      exact Nd.le_trans (Nd.le_of_lt hyx) this

theorem heap_of_near {l : List Nd} {i : Nat} (h : Near l n i) (h2 : Below2 l n i) (h3 : 0 < i → i < n → UpOk l i) : Heap l n := by
  intro k hk0 hkn
  by_cases e : k = i
  · subst e; exact h3 hk0 hkn
  · by_cases e2 : (k - 1) / 2 = i
    · exact h2 k hk0 hkn e2
    · exact h.1 k hk0 hkn e e2

theorem upL_heap : ∀ (f : Nat) (l : List Nd) (j : Nat), j < f → j < n → n ≤ l.length → Near l n j → Below2 l n j → Heap (upL f l j) n ∧ (upL f l j).length = l.length
  | 0, _, _, h, _, _, _, _ => by omega
  | f + 1, l, j, hf, hjn, hn, h, h2 => by
    simp only [upL]
    by_cases hc : (j - 1) / 2 = j ∨ lessL l j ((j - 1) / 2) = false
    · rw [if_pos hc]
      refine ⟨heap_of_near h h2 (fun hj0 _ a b ha hb => ?_), rfl⟩
      rcases hc with hc | hc
      · omega
      · unfold lessL at hc
        rw [ha, hb] at hc
        exact Nd.not_lt.1 (by simpa using hc)
    · rw [if_neg hc]
      have hj : 0 < j := by omega
      have hlt : lessL l j ((j - 1) / 2) = true := by
        cases e : lessL l j ((j - 1) / 2)
        · exact absurd (.inr e) hc
        · rfl
      obtain ⟨k1, k2⟩ := near_up h h2 hjn hn hj hlt
      obtain ⟨r1, r2⟩ := upL_heap f (swapL l ((j - 1) / 2) j) ((j - 1) / 2) (by omega) (by omega) (by rw [swapL_len]; exact hn) k1 k2
      exact ⟨r1, by rw [r2, swapL_len]⟩

theorem kid_spec {l : List Nd} {i : Nat} (h : 2 * i + 1 < n) : (kid l n i = 2 * i + 1 ∨ kid l n i = 2 * i + 2) ∧ kid l n i < n ∧ ∀ c, 0 < c → c < n → (c - 1) / 2 = i → ∀ x y, l[kid l n i]? = some x → l[c]? = some y → x.le y := by
  unfold kid
  by_cases hc : 2 * i + 2 < n ∧ lessL l (2 * i + 2) (2 * i + 1) = true
  · rw [if_pos hc]
    refine ⟨.inr rfl, hc.1, fun c hc0 hcn hcp x y hx hy => ?_⟩
    have : c = 2 * i + 1 ∨ c = 2 * i + 2 := by omega
    rcases this with rfl | rfl
    · have h3 := hc.2
      unfold lessL at h3
      rw [hx, hy] at h3
      exact Nd.le_of_lt (by simpa using h3)
    · rw [hx] at hy; injection hy with hy; subst hy; exact Nd.le_refl _
  · rw [if_neg hc]
    refine ⟨.inl rfl, h, fun c hc0 hcn hcp x y hx hy => ?_⟩
    have : c = 2 * i + 1 ∨ c = 2 * i + 2 := by omega
    rcases this with rfl | rfl
    · rw [hx] at hy; injection hy with hy; subst hy; exact Nd.le_refl _
    · have h3 : lessL l (2 * i + 2) (2 * i + 1) = false := by
        cases e : lessL l (2 * i + 2) (2 * i + 1)
        · rfl
        · exact absurd ⟨hcn, e⟩ hc
      unfold lessL at h3
      rw [hy, hx] at h3
      exact Nd.not_lt.1 (by simpa using h3)

theorem near_down {l : List Nd} {i : Nat} (h : Near l n i) (hn : n ≤ l.length) (h1 : 2 * i + 1 < n) (hlt : lessL l (kid l n i) i = true) :
    Near (swapL l i (kid l n i)) n (kid l n i) ∧ UpOk (swapL l i (kid l n i)) (kid l n i) ∧ (0 < i → UpOk (swapL l i (kid l n i)) i) ∧ (kid l n i - 1) / 2 = i := by
  obtain ⟨hk, hkn, hmin⟩ := kid_spec (l := l) h1
  obtain ⟨j, hj⟩ : ∃ j, j = kid l n i := ⟨_, rfl⟩
  rw [← hj] at hk hkn hmin hlt ⊢
  have hji : (j - 1) / 2 = i := by omega
  obtain ⟨y, hy⟩ : ∃ y, l[j]? = some y := ⟨_, List.getElem?_eq_getElem (by omega)⟩
  obtain ⟨x, hx⟩ : ∃ x, l[i]? = some x := ⟨_, List.getElem?_eq_getElem (by omega)⟩
  have hyx : y.lt x := by unfold lessL at hlt; rw [hy, hx] at hlt; simpa using hlt
  have hg := swapL_get hx hy
  have hij : i ≠ j := by omega
  refine ⟨⟨fun k hk0 hkn' hkj hkp a b ha hb => ?_, fun c a b hj0 hcn hc0 hcp ha hb => ?_⟩, fun a b ha hb => ?_, fun hi0 a b ha hb => ?_, hji⟩
  · rw [hg] at ha hb
    rw [if_neg hkp] at ha
    rw [if_neg hkj] at hb
    by_cases hki : k = i
    · subst hki
      rw [if_pos rfl] at hb
      rw [if_neg (by omega)] at ha
      injection hb with hb; subst hb
      exact h.2 j a y hk0 hkn (by omega) hji ha hy
    · rw [if_neg hki] at hb
      by_cases hpi : (k - 1) / 2 = i
      · rw [if_pos hpi] at ha
        injection ha with ha; subst ha
        exact hmin k hk0 hkn' hpi y b hy hb
      · rw [if_neg hpi] at ha
        exact h.1 k hk0 hkn' hki hpi a b ha hb
  · rw [hg] at ha hb
    rw [hji, if_neg hij, if_pos rfl] at ha
    injection ha with ha; subst ha
    have hcj : c ≠ j := by omega
    have hci : c ≠ i := by omega
    rw [if_neg hcj, if_neg hci] at hb
    exact h.1 c hc0 hcn (by omega) (by omega) y b (by rw [hcp]; exact hy) hb
  · rw [hg] at ha hb
    rw [hji, if_neg hij, if_pos rfl] at ha
    rw [if_pos rfl] at hb
    injection ha with ha; injection hb with hb; subst ha; subst hb
    exact Nd.le_of_lt hyx
  · rw [hg] at ha hb
    rw [if_neg (by omega), if_neg (by omega)] at ha
    rw [if_neg hij, if_pos rfl] at hb
    injection hb with hb; subst hb
    exact h.2 j a y hi0 hkn (by omega) hji ha hy

/-- 'down' leaves a heap, or it did nothing and those below are no earlier. -/
theorem downL_spec : ∀ (f : Nat) (l : List Nd) (i : Nat), n ≤ i + f → n ≤ l.length → Near l n i →
    (downL f l i n = (l, i) ∧ Below2 l n i) ∨ (i < (downL f l i n).2 ∧ Heap (downL f l i n).1 n)
  | 0, l, i, hf, hn, h => .inl ⟨rfl, fun c _ hc hp => by omega⟩
  | f + 1, l, i, hf, hn, h => by
    simp only [downL]
    by_cases hc : n ≤ 2 * i + 1 ∨ lessL l (kid l n i) i = false
    · rw [if_pos hc]
      refine .inl ⟨rfl, fun c hc0 hcn hcp a b ha hb => ?_⟩
      by_cases h1 : n ≤ 2 * i + 1
      · omega
      · have hlf : lessL l (kid l n i) i = false := by rcases hc with hc | hc; exact absurd hc h1; exact hc
        obtain ⟨hk, hkn, hmin⟩ := kid_spec (l := l) (n := n) (i := i) (by omega)
        obtain ⟨y, hy⟩ : ∃ y, l[kid l n i]? = some y := ⟨_, List.getElem?_eq_getElem (by omega)⟩
        rw [hcp] at ha
        unfold lessL at hlf
        rw [hy, ha] at hlf
        exact Nd.le_trans (Nd.not_lt.1 (by simpa using hlf)) (hmin c hc0 hcn hcp y b hy hb)
    · rw [if_neg hc]
      have h1 : 2 * i + 1 < n := by omega
      have hlt : lessL l (kid l n i) i = true := by
        cases e : lessL l (kid l n i) i
        · exact absurd (.inr e) hc
        · rfl
      obtain ⟨k1, k2, k3, k4⟩ := near_down h hn h1 hlt
      have hik : i < kid l n i := by have := (kid_spec (l := l) h1).1; omega
      rcases downL_spec f (swapL l i (kid l n i)) (kid l n i) (by omega) (by rw [swapL_len]; exact hn) k1 with ⟨e, hb⟩ | ⟨r1, r2⟩
      · rw [e]
        exact .inr ⟨hik, heap_of_near k1 hb (fun _ _ => k2)⟩
      · exact .inr ⟨by omega, r2⟩
end

theorem swapL_perm (l : List Nd) (i j : Nat) : (swapL l i j).Perm l := by
  unfold swapL
  split
  · rename_i x y hi hj
    have hi' := List.getElem?_eq_some_iff.1 hi
    have hj' := List.getElem?_eq_some_iff.1 hj
    have h := Array.swap_perm (xs := l.toArray) (i := i) (j := j) (by simpa using hi'.1) (by simpa using hj'.1)
    have e : (l.toArray.swap i j (by simpa using hi'.1) (by simpa using hj'.1)).toList = (l.set i y).set j x := by
      rw [Array.toList_swap]; simp [hi'.2, hj'.2]
    have h2 := Array.perm_iff_toList_perm.1 h
    rw [e] at h2
    simpa using h2
  · exact List.Perm.refl _
theorem upL_perm : ∀ (f : Nat) (l : List Nd) (j : Nat), (upL f l j).Perm l
  | 0, l, _ => List.Perm.refl l
  | f + 1, l, j => by
    simp only [upL]
    split
    · exact List.Perm.refl l
    · exact (upL_perm f _ _).trans (swapL_perm _ _ _)
theorem downL_perm (n : Nat) : ∀ (f : Nat) (l : List Nd) (i : Nat), (downL f l i n).1.Perm l
  | 0, l, _ => List.Perm.refl l
  | f + 1, l, i => by
    simp only [downL]
    split
    · exact List.Perm.refl l
    · exact (downL_perm n f _ _).trans (swapL_perm _ _ _)
theorem swapL_far (l : List Nd) {i j k : Nat} (hi : k ≠ i) (hj : k ≠ j) : (swapL l i j)[k]? = l[k]? := by
  unfold swapL
  split
  · rw [List.getElem?_set_ne (Ne.symm hj), List.getElem?_set_ne (Ne.symm hi)]
  · rfl
theorem kid_lt {l : List Nd} {n i : Nat} (h : 2 * i + 1 < n) : i < kid l n i ∧ kid l n i < n := by
  unfold kid
  split
  · rename_i h2; exact ⟨by omega, h2.1⟩
  · exact ⟨by omega, h⟩
theorem downL_far (n : Nat) : ∀ (f : Nat) (l : List Nd) (i k : Nat), n ≤ k → i < n ∨ n = 0 → (downL f l i n).1[k]? = l[k]?
  | 0, _, _, _, _, _ => rfl
  | f + 1, l, i, k, hk, hi => by
    simp only [downL]
    by_cases hc : n ≤ 2 * i + 1 ∨ lessL l (kid l n i) i = false
    · rw [if_pos hc]
    · rw [if_neg hc]
      obtain ⟨h1, h2⟩ := kid_lt (l := l) (n := n) (i := i) (by omega)
      rw [downL_far n f _ _ k hk (.inl h2), swapL_far _ (by omega) (by omega)]
theorem take_perm {l l' : List Nd} {n : Nat} (h : l'.Perm l) (hf : ∀ k, n ≤ k → l'[k]? = l[k]?) : (l'.take n).Perm (l.take n) := by
  have e : l'.drop n = l.drop n := by
    apply List.ext_getElem?
    intro k
    rw [List.getElem?_drop, List.getElem?_drop]
    exact hf _ (by omega)
  have h1 : (l'.take n ++ l'.drop n).Perm (l.take n ++ l.drop n) := by rw [List.take_append_drop, List.take_append_drop]; exact h
  rw [e] at h1
  exact (List.perm_append_right_iff _).1 h1
theorem heap_take {l : List Nd} {n : Nat} (h : Heap l n) : Heap (l.take n) n := by
  intro k hk hkn a b ha hb
  rw [List.getElem?_take_of_lt (by omega)] at ha
  rw [List.getElem?_take_of_lt hkn] at hb
  exact h k hk hkn a b ha hb
/-- The first one of a heap is no later than any. -/
theorem heap_min {l : List Nd} {n : Nat} (h : Heap l n) (hn : n ≤ l.length) : ∀ (k : Nat) x y, k < n → l[0]? = some x → l[k]? = some y → x.le y := by
  intro k
  induction k using Nat.strongRecOn with
  | _ k ih =>
    intro x y hk hx hy
    by_cases h0 : k = 0
    · subst h0; rw [hx] at hy; injection hy with hy; subst hy; exact Nd.le_refl _
    · obtain ⟨z, hz⟩ : ∃ z, l[(k - 1) / 2]? = some z := ⟨_, List.getElem?_eq_getElem (by omega)⟩
      exact Nd.le_trans (ih ((k - 1) / 2) (by omega) x z (by omega) hx hz) (h k (by omega) hk z y hz hy)

theorem upL_fuel : ∀ (f g : Nat) (l : List Nd) (j : Nat), j < f → j < g → upL f l j = upL g l j
  | 0, _, _, _, h, _ => by omega
  | _ + 1, 0, _, _, _, h => by omega
  | f + 1, g + 1, l, j, hf, hg => by
    simp only [upL]
    by_cases hc : (j - 1) / 2 = j ∨ lessL l j ((j - 1) / 2) = false
    · rw [if_pos hc, if_pos hc]
    · rw [if_neg hc, if_neg hc]
      exact upL_fuel f g _ _ (by omega) (by omega)
theorem downL_fuel (n : Nat) : ∀ (f g : Nat) (l : List Nd) (i : Nat), n ≤ i + f → n ≤ i + g → downL f l i n = downL g l i n
  | 0, 0, _, _, _, _ => rfl
  | 0, g + 1, l, i, hf, _ => by simp only [downL]; rw [if_pos (.inl (by omega))]
  | f + 1, 0, l, i, _, hg => by simp only [downL]; rw [if_pos (.inl (by omega))]
  | f + 1, g + 1, l, i, hf, hg => by
    simp only [downL]
    by_cases hc : n ≤ 2 * i + 1 ∨ lessL l (kid l n i) i = false
    · rw [if_pos hc, if_pos hc]
    · rw [if_neg hc, if_neg hc]
      have := (kid_lt (l := l) (n := n) (i := i) (by omega)).1
      exact downL_fuel n f g _ _ (by omega) (by omega)
/-- heap.Push. -/
def pushL (l : List Nd) (x : Nd) : List Nd := upL (l.length + 1) (l ++ [x]) l.length
theorem pushL_heap {l : List Nd} (h : Heap l l.length) (x : Nd) : Heap (pushL l x) (l.length + 1) ∧ (pushL l x).Perm (l ++ [x]) := by
  refine ⟨?_, upL_perm _ _ _⟩
  refine (upL_heap (l.length + 1) (l ++ [x]) l.length (by omega) (by omega) (by simp) ⟨fun k hk hkn hk2 hkp a b ha hb => ?_, fun c a b _ hcn hc0 hcp => by omega⟩ (fun c hc0 hcn hcp => by omega)).1
  rw [List.getElem?_append_left (by omega)] at ha hb
  exact h k hk (by omega) a b ha hb
/-- heap.Remove of place i, ahead of the last one's being taken. -/
def removeL (l : List Nd) (i : Nat) : List Nd :=
  if l.length - 1 = i then l else
    let r := downL l.length (swapL l i (l.length - 1)) i (l.length - 1)
    if r.2 ≤ i then upL l.length r.1 i else r.1
theorem upL_far : ∀ (f : Nat) (l : List Nd) (j k : Nat), j < k → (upL f l j)[k]? = l[k]?
  | 0, _, _, _, _ => rfl
  | f + 1, l, j, k, hk => by
    simp only [upL]
    split
    · rfl
    · rw [upL_far f _ _ k (by omega), swapL_far _ (by omega) (by omega)]
theorem removeL_heap {l : List Nd} {i : Nat} (h : Heap l l.length) (hi : i < l.length) {x : Nd} (hx : l[i]? = some x) :
    Heap (removeL l i) (l.length - 1) ∧ (removeL l i).Perm l ∧ (removeL l i)[l.length - 1]? = some x := by
  unfold removeL
  by_cases hl : l.length - 1 = i
  · rw [if_pos hl]
    exact ⟨fun k hk hkn => h k hk (by omega), List.Perm.refl _, by rw [hl]; exact hx⟩
  rw [if_neg hl]
  obtain ⟨y, hy⟩ : ∃ y, l[l.length - 1]? = some y := ⟨_, List.getElem?_eq_getElem (by omega)⟩
  have hg := swapL_get hx hy
  have hlast : (swapL l i (l.length - 1))[l.length - 1]? = some x := by rw [hg, if_pos rfl]
  have hN : Near (swapL l i (l.length - 1)) (l.length - 1) i := by
    refine ⟨fun k hk hkn hki hkp a b ha hb => ?_, fun c a b hi0 hcn hc0 hcp ha hb => ?_⟩
    · rw [hg, if_neg (by omega), if_neg hkp] at ha
      rw [hg, if_neg (by omega), if_neg hki] at hb
      exact h k hk (by omega) a b ha hb
    · rw [hg, if_neg (by omega), if_neg (by omega)] at ha
      rw [hg, if_neg (by omega), if_neg (by omega)] at hb
      have h1 := h i hi0 hi a x ha hx
      have h2 := h c hc0 (by omega) x b (by rw [hcp]; exact hx) hb
      exact Nd.le_trans h1 h2
  have hfar := downL_far (l.length - 1) l.length (swapL l i (l.length - 1)) i (l.length - 1) (Nat.le_refl _) (.inl (by omega))
  have hp := (downL_perm (l.length - 1) l.length (swapL l i (l.length - 1)) i).trans (swapL_perm l i (l.length - 1))
  rcases downL_spec (n := l.length - 1) l.length (swapL l i (l.length - 1)) i (by omega) (by rw [swapL_len]; omega) hN with ⟨e, hb⟩ | ⟨h1, h2⟩
  · rw [e] at hfar hp ⊢
    simp only [Nat.le_refl, if_true]
    obtain ⟨r1, _⟩ := upL_heap l.length (swapL l i (l.length - 1)) i hi (by omega) (by rw [swapL_len]; omega) hN hb
    exact ⟨r1, (upL_perm _ _ _).trans hp, by rw [upL_far _ _ _ _ (by omega)]; exact hlast⟩
  · simp only []
    rw [if_neg (by omega)]
    exact ⟨h2, hp, by rw [hfar]; exact hlast⟩
/-- heap.Pop, ahead of the last one's being taken. -/
def popL (l : List Nd) : List Nd := (downL l.length (swapL l 0 (l.length - 1)) 0 (l.length - 1)).1
theorem popL_heap {l : List Nd} (h : Heap l l.length) {x : Nd} (hx : l[0]? = some x) :
    Heap (popL l) (l.length - 1) ∧ (popL l).Perm l ∧ (popL l)[l.length - 1]? = some x := by
  have h0 : 0 < l.length := (List.getElem?_eq_some_iff.1 hx).1
  unfold popL
  by_cases hl : l.length = 1
  · obtain ⟨y, rfl⟩ := List.length_eq_one_iff.1 hl
    have e : downL [y].length (swapL [y] 0 ([y].length - 1)) 0 ([y].length - 1) = (swapL [y] 0 0, 0) := rfl
    rw [e]
    refine ⟨fun k hk hkn => by simp at hkn, swapL_perm [y] 0 0, ?_⟩
    simp [swapL] at hx ⊢
    exact hx
  obtain ⟨y, hy⟩ : ∃ y, l[l.length - 1]? = some y := ⟨_, List.getElem?_eq_getElem (by omega)⟩
  have hg := swapL_get hx hy
  have hlast : (swapL l 0 (l.length - 1))[l.length - 1]? = some x := by rw [hg, if_pos rfl]
  have hN : Near (swapL l 0 (l.length - 1)) (l.length - 1) 0 := by
    refine ⟨fun k hk hkn hki hkp a b ha hb => ?_, fun c a b hi0 => by omega⟩
    rw [hg, if_neg (by omega), if_neg hkp] at ha
    rw [hg, if_neg (by omega), if_neg hki] at hb
    exact h k hk (by omega) a b ha hb
  have hfar := downL_far (l.length - 1) l.length (swapL l 0 (l.length - 1)) 0 (l.length - 1) (Nat.le_refl _) (.inl (by omega))
  have hp := (downL_perm (l.length - 1) l.length (swapL l 0 (l.length - 1)) 0).trans (swapL_perm l 0 (l.length - 1))
  rcases downL_spec (n := l.length - 1) l.length (swapL l 0 (l.length - 1)) 0 (by omega) (by rw [swapL_len]; omega) hN with ⟨e, hb⟩ | ⟨h1, h2⟩
  · rw [e] at hfar hp ⊢
    exact ⟨heap_of_near hN hb (fun h => by omega), hp, hlast⟩
  · exact ⟨h2, hp, by rw [hfar]; exact hlast⟩
end Go.Proofs.Ytllkeifldfmbkaa
