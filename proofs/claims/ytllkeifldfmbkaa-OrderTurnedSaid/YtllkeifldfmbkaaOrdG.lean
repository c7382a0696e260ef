/- Layer 14: acts as data; large; what row does to a held list. -/
import Derived.Test.YtllkeifldfmbkaaOrdF
import Derived.Test.YtllkeifldfmbkaaOrdE
namespace Go.Proofs.Ytllkeifldfmbkaa
open Go.RowKit

/-- An act: what to do, and a transaction with its writes' slice. -/
abbrev Act14 := Int × Tx × Value
def actCells (x : Act14) : List Value := .int .i64 x.1 :: txCells x.2.1 x.2.2
def Acts (w : World) (S : Nat → Prop) (v : Value) (l : List Act14) : Prop :=
  ∃ A c, v = .slice A l.length c ∧ l.length ≤ c ∧ c ≤ maxLen ∧ Rd w S 7 A l.length (l.flatMap actCells) ∧ ∀ x ∈ l, Ws w S x.2.2 x.2.1.ws
theorem Acts.below {w w' : World} {S : Nat → Prop} {v : Value} {l : List Act14} (h : Acts w S v l) (k : Below w.heap.size w w') : Acts w' S v l := by
  obtain ⟨A, c, e, h1, h2, h3, h4⟩ := h
  exact ⟨A, c, e, h1, h2, h3.below k, fun x hx => (h4 x hx).below k⟩
theorem Rd.act {w : World} {S : Nat → Prop} {A : Option Addr} {l : List Act14} (h : Rd w S 7 A l.length (l.flatMap actCells)) {k : Nat} {x : Act14} (hk : l[k]? = some x) :
    ∃ b o, A = some ⟨b, o, none⟩ ∧ b < w.heap.size ∧ S b ∧ w.cell? ⟨b, o + k * 7, none⟩ = some (.int .i64 x.1) ∧ w.cell? ⟨b, o + k * 7 + 1, none⟩ = some (.int .i64 x.2.1.o) ∧ w.cell? ⟨b, o + k * 7 + 2, none⟩ = some (.int .i64 x.2.1.s) ∧
      w.cell? ⟨b, o + k * 7 + 3, none⟩ = some (.int .i64 x.2.1.d0) ∧ w.cell? ⟨b, o + k * 7 + 4, none⟩ = some (.int .i64 x.2.1.d1) ∧ w.cell? ⟨b, o + k * 7 + 5, none⟩ = some (.int .i64 x.2.1.d2) ∧ w.cell? ⟨b, o + k * 7 + 6, none⟩ = some x.2.2 := by
  have hlt : k < l.length := (List.getElem?_eq_some_iff.1 hk).1
  obtain ⟨b, o, e, hb, hs, hc⟩ := h.at_ hlt
  have hg : ∀ i, i < 7 → w.cell? ⟨b, o + (k * 7 + i), none⟩ = (actCells x)[i]? := fun i hi => by
    have := hc i hi
    rw [flat_get _ 7 (fun x => rfl) l k i hi, hk] at this
    exact this
  exact ⟨b, o, e, hb, hs, hg 0 (by omega), hg 1 (by omega), hg 2 (by omega), hg 3 (by omega), hg 4 (by omega), hg 5 (by omega), hg 6 (by omega)⟩

def Large14 (w : World) (n : Nat) (e : Ending) (w' : World) : Prop := ∃ b : Bool, e = .returned (.bool b) ∧ (b = false → n ≤ 100) ∧ Below w.heap.size w w'
set_option maxRecDepth 100000 in
set_option maxHeartbeats 1000000 in
theorem large14_any (S : Nat → Prop) (v : Value) (l : List Act14) (w : World) (h : Acts w S v l) : Calls Try.prog 9 #[v] w (Large14 w l.length) := by
  obtain ⟨A, c, rfl, hc, hm, hr, hws⟩ := h
  have hm1 := hm; unfold maxLen at hm1
  by_cases h100 : 100 < l.length
  · go_enter Try.func9, Try.ntmps9
    go_wp2
    go_returns
    exact ⟨true, rfl, (fun h => by cases h), Below.refl _ _⟩
  · have h100' : l.length ≤ 100 := by omega
    replace hr := hid hr
    replace hws := hid hws
    go_enter Try.func9, Try.ntmps9
    go_wp2_with fail
    go_loopw [10] (fun i wr => ∃ k : Nat, k ≤ l.length ∧ i = .int .i64 k ∧ Below w.heap.size w wr) (fun i _ => l.length - (intOf i).toNat)
    case atStart => exact ⟨0, Nat.zero_le _, rfl, Below.refl _ _⟩
    case round =>
      obtain ⟨k, hk, rfl, hb⟩ := hrel
      by_cases hlt : k < l.length
      · obtain ⟨x, hx⟩ : ∃ x, l[k]? = some x := ⟨_, List.getElem?_eq_getElem hlt⟩
        obtain ⟨b, o, rfl, hbl, hS, c0, c1, c2, c3, c4, c5, c6⟩ := ((hr.out).below hb).act hx
        have hw := (hws.out _ (List.mem_of_getElem? hx)).below hb
        obtain ⟨xd, xt, xv⟩ := x
        obtain ⟨xA, xc, hxv, _⟩ := id hw
        simp only [] at hxv hw c0 c1 c2 c3 c4 c5 c6
        subst hxv
        have HL : ∀ W, Below wr.heap.size wr W → Calls Try.prog 33 #[txVal xt (.slice xA xt.ws.length xc)] W (LargeB W) := fun W hW => large_any S xt _ W (hw.below hW)
        replace HL := hid HL
        replace hb := hid hb
        clear hx hw
        go_wp2_with fail
        refine (HL.out _ (by go_grown)).mono ?_
        rintro e w2 ⟨bb, rfl, hb2⟩
        have hb3 : Below w.heap.size w w2 := Below.next (hb.out.alloc hb.out.size _) hb2
        cases bb
        · go_wp2_with fail
          go_roundw
          case rel => exact ⟨k + 1, by omega, by go_num, hb3⟩
          case measure => simp [intOf]; omega
        · go_wp2
          go_returns
          exact ⟨true, rfl, (fun h => by cases h), hb3⟩
      · go_wp2
        go_returns
        exact ⟨false, rfl, fun _ => h100', hb⟩

/-- What is held for origin 1 behind number hv. -/
def HeldOk (org hv : Int) (m : Held) : Prop := ∀ p ∈ m, p.1 = p.2.1.s ∧ p.2.1.o = org ∧ hv < p.1 ∧ p.1 ≤ 4611686018427387903

theorem hget_none {m : Held} {k : Int} (h : hget m k = none) : ∀ p ∈ m, p.1 ≠ k := by
  intro p hp e
  unfold hget hgetL at h
  rw [Option.map_eq_none_iff, List.find?_eq_none] at h
  exact absurd (h p hp) (by simp [e])

theorem row_spec (org : Int) : ∀ (n : Nat) (hv : Int) (m : Held), m.length ≤ n → HeldOk org hv m →
    (∀ (i : Nat) x, (rowM n hv m).1[i]? = some x → x.1.s = hv + 1 + (i : Int) ∧ ∃ p ∈ m, p.2 = x) ∧ (rowM n hv m).2.1 = hv + ((rowM n hv m).1.length : Int) ∧ (∀ p ∈ (rowM n hv m).2.2, p ∈ m) ∧
    HeldOk org ((rowM n hv m).2.1 + 1) (rowM n hv m).2.2 ∧ (rowM n hv m).2.2.length + (rowM n hv m).1.length ≤ m.length
  | 0, hv, m, hl, _ => by
    have : m = [] := List.eq_nil_of_length_eq_zero (by omega)
    subst this
    refine ⟨by simp [rowM], by simp [rowM], by simp [rowM], fun p hp => by simp [rowM] at hp, by simp [rowM]⟩
  | n + 1, hv, m, hl, hok => by
    simp only [rowM]
    cases hg : hget m (hv + 1) with
    | none =>
      refine ⟨by simp, by simp, fun p hp => hp, fun p hp => ?_, by simp⟩
      obtain ⟨h1, h2, h3, h4⟩ := hok p hp
      have h5 := hget_none hg p hp
      exact ⟨h1, h2, by simp only []; omega, h4⟩
    | some tv =>
      have hm := hget_mem hg
      have hd := hdel_len hg
      have hok' : HeldOk org (hv + 1) (hdel m (hv + 1)) := by
        intro p hp
        obtain ⟨h1, h2, h3, h4⟩ := hok p (hdel_sub p hp)
        have h5 := (List.mem_filter.1 hp).2
        simp only [Bool.not_eq_true', decide_eq_false_iff_not] at h5
        exact ⟨h1, h2, by omega, h4⟩
      obtain ⟨r1, r2, r3, r4, r5⟩ := row_spec org n (hv + 1) (hdel m (hv + 1)) (by omega) hok'
      refine ⟨?_, ?_, fun p hp => hdel_sub p (r3 p hp), r4, ?_⟩
      · intro i x hx
        cases i with
        | zero =>
          simp only [List.getElem?_cons_zero, Option.some.injEq] at hx
          subst hx
          exact ⟨by have := (hok _ hm).1; simp only [] at this; omega, _, hm, rfl⟩
        | succ i =>
          simp only [List.getElem?_cons_succ] at hx
          obtain ⟨q1, p, hp, q2⟩ := r1 i x hx
          exact ⟨by rw [q1]; push_cast; omega, p, hdel_sub p hp, q2⟩
      · simp only [List.length_cons]; rw [r2]; push_cast; omega
      · simp only [List.length_cons]; omega
theorem row_some {n : Nat} {hv : Int} {m : Held} {x : Tx × Value} (h : hget m (hv + 1) = some x) : (rowM (n + 1) hv m).1.length ≠ 0 := by
  simp [rowM, h]
end Go.Proofs.Ytllkeifldfmbkaa
