/- Layer 12: the arguments opened: from a reading to rows of acts in memory. -/
import Derived.Test.YtllkeifldfmbkaaDueSS
import Derived.ProofKit
import Derived.Deep.Strs
import Derived.Laws.IdiomArrays
namespace Go.Proofs.Ytllkeifldfmbkaa
open Go.RowKit Go.ChangeShapes Go.WideShapes Go.Deep

theorem choose_list {α : Type} {Q : Nat → α → Prop} : ∀ (n : Nat), (∀ i, i < n → ∃ x, Q i x) → ∃ l : List α, l.length = n ∧ ∀ i x, l[i]? = some x → Q i x
  | 0, _ => ⟨[], rfl, fun i x h => by simp at h⟩
  | n + 1, h => by
    obtain ⟨l, hl, hq⟩ := choose_list n (fun i hi => h i (by omega))
    obtain ⟨x, hx⟩ := h n (by omega)
    refine ⟨l ++ [x], by simp [hl], fun i y hy => ?_⟩
    by_cases hi : i < n
    · rw [List.getElem?_append_left (by omega)] at hy; exact hq i y hy
    · have hlt := (List.getElem?_eq_some_iff.1 hy).1
      have : i = n := by simp [hl] at hlt; omega
      subst this
      rw [List.getElem?_append_right (by omega), hl, Nat.sub_self] at hy
      injection hy with hy
      rw [← hy]; exact hx
theorem add_off {b o : Nat} (n : Nat) : (⟨b, o, none⟩ : Addr).add n = ⟨b, o + n, none⟩ := by unfold Addr.add; split <;> simp_all
/-- A row in memory, read element by element. -/
theorem rd_of_open {α : Type} {w : World} {a : Addr} {len k : Nat} (hk0 : 0 < k) (f : α → List Value) (hf : ∀ x, (f x).length = k) (Q : α → Prop)
    (h : ∀ i, i < len → ∃ x, w.cells? 0 (a.add (i * k)) k = some (f x) ∧ Q x) :
    ∃ l : List α, l.length = len ∧ Rd w (fun _ => True) k (some a) len (l.flatMap f) ∧ ∀ x ∈ l, Q x := by
  obtain ⟨l, hl, hq⟩ := choose_list (Q := fun i x => w.cells? 0 (a.add (i * k)) k = some (f x) ∧ Q x) len h
  refine ⟨l, hl, ⟨by rw [flat_len f k hf, hl], fun h0 => ?_⟩, fun x hx => ?_⟩
  · have g0 : ∃ x, l[0]? = some x := ⟨_, List.getElem?_eq_getElem (by omega)⟩
    obtain ⟨x, hx⟩ := g0
    have h1 := (World.cells?_some (hq 0 x hx).1).2.2 0 hk0
    obtain ⟨u, hu⟩ : ∃ u, (f x)[0]? = some u := ⟨_, List.getElem?_eq_getElem (by rw [hf]; exact hk0)⟩
    have ha : (a.add (0 * k)).add 0 = a := by simp [Addr.add]
    rw [ha, hu] at h1
    obtain ⟨b, o, sp⟩ := a
    have hsp : sp = none := World.cell?_spot h1
    subst hsp
    refine ⟨b, o, rfl, World.block_lt_of_cell? w _ h1, trivial, fun j u hj => ?_⟩
    have hjl : j < len * k := by have := (List.getElem?_eq_some_iff.1 hj).1; rw [flat_len f k hf, hl] at this; exact this
    have hi : j / k < len := (Nat.div_lt_iff_lt_mul hk0).2 hjl
    have hm : j % k < k := Nat.mod_lt _ hk0
    have hjj : j = j / k * k + j % k := by rw [Nat.mul_comm]; exact (Nat.div_add_mod j k).symm
    obtain ⟨y, hy⟩ : ∃ y, l[j / k]? = some y := ⟨_, List.getElem?_eq_getElem (by omega)⟩
    have h2 := (World.cells?_some (hq _ y hy).1).2.2 (j % k) hm
    rw [add_off, add_off, Nat.add_assoc, ← hjj] at h2
    rw [h2]
    rw [hjj, flat_get f k hf l _ _ hm, hy] at hj
    exact hj
  · obtain ⟨i, hi⟩ := List.getElem?_of_mem hx
    exact (hq i x hi).2

theorem len3 {α : Type} {l : List α} (h : l.length = 3) : ∃ a b c, l = [a, b, c] := by
  match l, h with
  | [a, b, c], _ => exact ⟨a, b, c, rfl⟩
section
variable {H : Type} {enc : TypeId × Value → H} {w : World} {held : Bool} {fuel : Nat} {cs : List Value} {x : DataW H × List MemPlace}
theorem one_int : Try.prog.cellsOf 3 = 1 := by kernel_rfl
theorem one_int64 : Try.prog.cellsOf 2 = 1 := by kernel_rfl
theorem three_act : Try.prog.cellsOf 55 = 3 := by kernel_rfl
theorem open_act12 {sp : Nat → Bool} (h : DataW.trod enc Try.prog w 0 sp held fuel 55 cs = some x) : ∃ y : Tr, cs = actC y := by
  obtain ⟨y0, y1, y2, n, _, hl, h0, h1, h2⟩ := trod_struct3 Try.underlying55 h
  rw [three_act] at hl
  obtain ⟨a, b, c, rfl⟩ := len3 hl
  obtain ⟨p, e0, _⟩ := DataW.trod_int Try.underlying3 h0
  obtain ⟨q, e1, _⟩ := DataW.trod_int Try.underlying3 h1
  obtain ⟨r, e2, _⟩ := DataW.trod_int Try.underlying2 h2
  obtain rfl : a = .int .i64 p := by simpa [one_int] using e0
  obtain rfl : b = .int .i64 q := by simpa [one_int] using e1
  obtain rfl : c = .int .i64 r := by simpa [one_int64] using e2
  exact ⟨(p, q, r), rfl⟩
theorem open_acts12 (h : DataW.trod enc Try.prog w 0 (fun _ => true) held fuel 47 cs = some x) : ∃ v l, cs = [v] ∧ Acts12 w (fun _ => True) v l := by
  rcases open_slice Try.underlying47 h with ⟨rfl, _⟩ | ⟨a, len, cap, m, n, D, Pl, rfl, _, hl, hc, hm, _, hr⟩
  · exact ⟨_, [], rfl, none, 0, rfl, Nat.le_refl _, by simp [maxLen], Rd.nil⟩
  · rw [three_act] at hr
    obtain ⟨l, hl', hr', _⟩ := rd_of_open (w := w) (a := a) (len := len) (k := 3) (by omega) actC (fun _ => rfl) (fun _ => True) (fun i hi => by
      obtain ⟨cs', h1, h2⟩ := hr i (by rw [hm]; simp; omega)
      obtain ⟨y, rfl⟩ := open_act12 h2
      exact ⟨y, h1, trivial⟩)
    subst hl'
    exact ⟨_, l, rfl, some a, cap, rfl, hl, hc, hr'⟩
end
end Go.Proofs.Ytllkeifldfmbkaa
