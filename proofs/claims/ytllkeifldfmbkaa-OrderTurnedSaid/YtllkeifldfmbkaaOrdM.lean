/- Layer 14: the arguments opened: from a reading to rows of acts in memory. -/
import Derived.Test.YtllkeifldfmbkaaOrdG
import Derived.ProofKit
import Derived.Deep.Strs
import Derived.Laws.IdiomArrays
namespace Go.Proofs.Ytllkeifldfmbkaa
open Go.RowKit Go.ChangeShapes Go.WideShapes Go.Deep

theorem choose_list {α : Type} {Q : Nat → α → Prop} : ∀ (n : Nat), (∀ i, i < n → ∃ x, Q i x) → ∃ l : List α, l.length = n ∧ ∀ i x, l[i]? = some x → Q i x
  | 0, _ => ⟨[], rfl, fun i x h => by simp at h⟩
  | n + 1, h => by
    obtain ⟨l, hl, hq⟩ := choose_list n (fun i hi => h i (by omega))
    obtain ⟨x, hx⟩ := h n (by omega)
    refine ⟨l ++ [x], by simp [hl], fun i y hy => ?_⟩
    by_cases hi : i < n
    · rw [List.getElem?_append_left (by omega)] at hy; exact hq i y hy
    · have hlt := (List.getElem?_eq_some_iff.1 hy).1
      have : i = n := by simp [hl] at hlt; omega
      subst this
      rw [List.getElem?_append_right (by omega), hl, Nat.sub_self] at hy
      injection hy with hy
      rw [← hy]; exact hx
theorem add_off {b o : Nat} (n : Nat) : (⟨b, o, none⟩ : Addr).add n = ⟨b, o + n, none⟩ := by unfold Addr.add; split <;> simp_all
/-- A row in memory, read element by element. -/
theorem rd_of_open {α : Type} {w : World} {a : Addr} {len k : Nat} (hk0 : 0 < k) (f : α → List Value) (hf : ∀ x, (f x).length = k) (Q : α → Prop)
    (h : ∀ i, i < len → ∃ x, w.cells? 0 (a.add (i * k)) k = some (f x) ∧ Q x) :
    ∃ l : List α, l.length = len ∧ Rd w (fun _ => True) k (some a) len (l.flatMap f) ∧ ∀ x ∈ l, Q x := by
  obtain ⟨l, hl, hq⟩ := choose_list (Q := fun i x => w.cells? 0 (a.add (i * k)) k = some (f x) ∧ Q x) len h
  refine ⟨l, hl, ⟨by rw [flat_len f k hf, hl], fun h0 => ?_⟩, fun x hx => ?_⟩
  · have g0 : ∃ x, l[0]? = some x := ⟨_, List.getElem?_eq_getElem (by omega)⟩
    obtain ⟨x, hx⟩ := g0
    have h1 := (World.cells?_some (hq 0 x hx).1).2.2 0 hk0
    obtain ⟨u, hu⟩ : ∃ u, (f x)[0]? = some u := ⟨_, List.getElem?_eq_getElem (by rw [hf]; exact hk0)⟩
    have ha : (a.add (0 * k)).add 0 = a := by simp [Addr.add]
    rw [ha, hu] at h1
    obtain ⟨b, o, sp⟩ := a
    have hsp : sp = none := World.cell?_spot h1
    subst hsp
    refine ⟨b, o, rfl, World.block_lt_of_cell? w _ h1, trivial, fun j u hj => ?_⟩
    have hjl : j < len * k := by have := (List.getElem?_eq_some_iff.1 hj).1; rw [flat_len f k hf, hl] at this; exact this
    have hi : j / k < len := (Nat.div_lt_iff_lt_mul hk0).2 hjl
    have hm : j % k < k := Nat.mod_lt _ hk0
    have hjj : j = j / k * k + j % k := by rw [Nat.mul_comm]; exact (Nat.div_add_mod j k).symm
    obtain ⟨y, hy⟩ : ∃ y, l[j / k]? = some y := ⟨_, List.getElem?_eq_getElem (by omega)⟩
    have h2 := (World.cells?_some (hq _ y hy).1).2.2 (j % k) hm
    rw [add_off, add_off, Nat.add_assoc, ← hjj] at h2
    rw [h2]
    rw [hjj, flat_get f k hf l _ _ hm, hy] at hj
    exact hj
  · obtain ⟨i, hi⟩ := List.getElem?_of_mem hx
    exact (hq i x hi).2

section
variable {H : Type} {enc : TypeId × Value → H} {w : World} {held : Bool} {fuel : Nat} {cs : List Value} {x : DataW H × List MemPlace}

theorem trod_len {fs : Array Field} {t : TypeId} {sp : Nat → Bool} (ht : Try.prog.underlying t = some (.struct fs)) (h : DataW.trod enc Try.prog w 0 sp held fuel t cs = some x) : cs.length = Try.prog.cellsOf t := by
  obtain ⟨_, _, _, _, h, _⟩ := DataW.trod_struct ht h
  exact h
theorem len2 {α : Type} {l : List α} (h : l.length = 2) : ∃ a b, l = [a, b] := by
  match l, h with
  | [a, b], _ => exact ⟨a, b, rfl⟩
theorem len3 {α : Type} {l : List α} (h : l.length = 3) : ∃ a b c, l = [a, b, c] := by
  match l, h with
  | [a, b, c], _ => exact ⟨a, b, c, rfl⟩
theorem len4 {α : Type} {l : List α} (h : l.length = 4) : ∃ a b c d, l = [a, b, c, d] := by
  match l, h with
  | [a, b, c, d], _ => exact ⟨a, b, c, d, rfl⟩
theorem len6 {α : Type} {l : List α} (h : l.length = 6) : ∃ a b c d e f, l = [a, b, c, d, e, f] := by
  match l, h with
  | [a, b, c, d, e, f], _ => exact ⟨a, b, c, d, e, f, rfl⟩
theorem len7 {α : Type} {l : List α} (h : l.length = 7) : ∃ a b c d e f g, l = [a, b, c, d, e, f, g] := by
  match l, h with
  | [a, b, c, d, e, f, g], _ => exact ⟨a, b, c, d, e, f, g, rfl⟩
theorem one_bool : Try.prog.cellsOf 4 = 1 := by kernel_rfl
theorem one_string : Try.prog.cellsOf 9 = 1 := by kernel_rfl
theorem one_int : Try.prog.cellsOf 3 = 1 := by kernel_rfl
theorem one_int64 : Try.prog.cellsOf 2 = 1 := by kernel_rfl
theorem one_ws : Try.prog.cellsOf 32 = 1 := by kernel_rfl
theorem three_clock : Try.prog.cellsOf 31 = 3 := by kernel_rfl
theorem three_wr : Try.prog.cellsOf 88 = 3 := by kernel_rfl
theorem six_tx : Try.prog.cellsOf 34 = 6 := by kernel_rfl
theorem seven_act : Try.prog.cellsOf 36 = 7 := by kernel_rfl
theorem open_wr {sp : Nat → Bool} (h : DataW.trod enc Try.prog w 0 sp held fuel 88 cs = some x) : ∃ y : Wr, cs = wrCells y := by
  obtain ⟨y0, y1, y2, n, _, hl, h0, h1, h2⟩ := trod_struct3 Try.underlying88 h
  rw [three_wr] at hl
  obtain ⟨a, b, c, rfl⟩ := len3 hl
  obtain ⟨s, e0, _⟩ := DataW.trod_string Try.underlying9 h0
  obtain ⟨s', e1, _⟩ := DataW.trod_string Try.underlying9 h1
  obtain ⟨g, e2, _⟩ := DataW.trod_bool Try.underlying4 h2
  obtain rfl : a = .string s := by simpa [one_string] using e0
  obtain rfl : b = .string s' := by simpa [one_string] using e1
  obtain rfl : c = .bool g := by simpa [one_bool] using e2
  exact ⟨⟨s, s', g⟩, rfl⟩
theorem open_ws (h : DataW.trod enc Try.prog w 0 (fun _ => true) held fuel 32 cs = some x) : ∃ v ws, cs = [v] ∧ Ws w (fun _ => True) v ws := by
  rcases open_slice Try.underlying32 h with ⟨rfl, _⟩ | ⟨a, len, cap, m, n, D, Pl, rfl, _, hl, hc, hm, _, hr⟩
  · exact ⟨_, [], rfl, none, 0, rfl, Nat.le_refl _, by simp [maxLen], Rd.nil⟩
  · rw [three_wr] at hr
    obtain ⟨l, hl', hr', _⟩ := rd_of_open (w := w) (a := a) (len := len) (k := 3) (by omega) wrCells (fun _ => rfl) (fun _ => True) (fun i hi => by
      obtain ⟨cs', h1, h2⟩ := hr i (by rw [hm]; simp; omega)
      obtain ⟨y, rfl⟩ := open_wr h2
      exact ⟨y, h1, trivial⟩)
    subst hl'
    exact ⟨_, l, rfl, some a, cap, rfl, hl, hc, hr'⟩
theorem open_clock {sp : Nat → Bool} {c0 c1 c2 : Value} (h : DataW.trod enc Try.prog w 0 sp held fuel 31 [c0, c1, c2] = some x) : ∃ d0 d1 d2 : Int, c0 = .int .i64 d0 ∧ c1 = .int .i64 d1 ∧ c2 = .int .i64 d2 := by
  obtain ⟨y0, y1, y2, n, _, h0, h1, h2⟩ := trod_array3 Try.underlying31 one_int64 h
  obtain ⟨a, e0, _⟩ := DataW.trod_int Try.underlying2 h0
  obtain ⟨b, e1, _⟩ := DataW.trod_int Try.underlying2 h1
  obtain ⟨c, e2, _⟩ := DataW.trod_int Try.underlying2 h2
  exact ⟨a, b, c, by simpa using e0, by simpa using e1, by simpa using e2⟩
theorem open_tx (h : DataW.trod enc Try.prog w 0 (fun _ => true) held fuel 34 cs = some x) : ∃ (t : Tx) (v : Value), cs = txCells t v ∧ Ws w (fun _ => True) v t.ws := by
  obtain ⟨xs, n, _, _, hl, hlen, hf⟩ := DataW.trod_struct Try.underlying34 h
  rw [six_tx] at hl
  obtain ⟨a, b, c0, c1, c2, v, rfl⟩ := len6 hl
  obtain ⟨x0, x1, x2, x3, rfl⟩ := len4 hlen
  have h0 := hf 0 _ rfl
  have h1 := hf 1 _ rfl
  have h2 : DataW.trod enc Try.prog w 0 (fun _ => true) held n 31 (([a, b, c0, c1, c2, v].drop 2).take (Try.prog.cellsOf 31)) = some x2 := hf 2 _ rfl
  have h3 : DataW.trod enc Try.prog w 0 (fun _ => true) held n 32 (([a, b, c0, c1, c2, v].drop 5).take (Try.prog.cellsOf 32)) = some x3 := hf 3 _ rfl
  obtain ⟨o, e0, _⟩ := DataW.trod_int Try.underlying3 h0
  obtain ⟨s, e1, _⟩ := DataW.trod_int Try.underlying2 h1
  simp only [three_clock, one_ws, List.drop_succ_cons, List.drop_zero, List.take_succ_cons, List.take_zero, List.take_nil] at h2 h3
  obtain ⟨d0, d1, d2, rfl, rfl, rfl⟩ := open_clock h2
  obtain ⟨v', ws, e3, hws⟩ := open_ws h3
  obtain rfl : a = .int .i64 o := by simpa [one_int] using e0
  obtain rfl : b = .int .i64 s := by simpa [one_int64] using e1
  obtain rfl : v = v' := by simpa using e3
  exact ⟨⟨o, s, d0, d1, d2, ws⟩, v, rfl, hws⟩
theorem open_act (h : DataW.trod enc Try.prog w 0 (fun _ => true) held fuel 36 cs = some x) : ∃ y : Act14, cs = actCells y ∧ Ws w (fun _ => True) y.2.2 y.2.1.ws := by
  obtain ⟨xs, n, _, _, hl, hlen, hf⟩ := DataW.trod_struct Try.underlying36 h
  rw [seven_act] at hl
  obtain ⟨a, b, c, d, e, f, g, rfl⟩ := len7 hl
  obtain ⟨x0, x1, rfl⟩ := len2 hlen
  have h0 := hf 0 _ rfl
  have h1 : DataW.trod enc Try.prog w 0 (fun _ => true) held n 34 (([a, b, c, d, e, f, g].drop 1).take (Try.prog.cellsOf 34)) = some x1 := hf 1 _ rfl
  obtain ⟨o, e0, _⟩ := DataW.trod_int Try.underlying3 h0
  simp only [six_tx, List.drop_succ_cons, List.drop_zero, List.take_succ_cons, List.take_nil] at h1
  obtain ⟨t, v, e1, hw⟩ := open_tx h1
  obtain rfl : a = .int .i64 o := by simpa [one_int] using e0
  exact ⟨(o, t, v), by rw [e1]; rfl, hw⟩
theorem open_acts (h : DataW.trod enc Try.prog w 0 (fun _ => true) held fuel 22 cs = some x) : ∃ v l, cs = [v] ∧ Acts w (fun _ => True) v l := by
  rcases open_slice Try.underlying22 h with ⟨rfl, _⟩ | ⟨a, len, cap, m, n, D, Pl, rfl, _, hl, hc, hm, _, hr⟩
  · exact ⟨_, [], rfl, none, 0, rfl, Nat.le_refl _, by simp [maxLen], Rd.nil, by simp⟩
  · rw [seven_act] at hr
    obtain ⟨l, hl', hr', hq⟩ := rd_of_open (w := w) (a := a) (len := len) (k := 7) (by omega) actCells (fun _ => rfl) (fun y => Ws w (fun _ => True) y.2.2 y.2.1.ws) (fun i hi => by
      obtain ⟨cs', h1, h2⟩ := hr i (by rw [hm]; simp; omega)
      obtain ⟨y, rfl, hw⟩ := open_act h2
      exact ⟨y, h1, hw⟩)
    subst hl'
    exact ⟨_, l, rfl, some a, cap, rfl, hl, hc, hr', hq⟩
end
end Go.Proofs.Ytllkeifldfmbkaa
