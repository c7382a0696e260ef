/- Layer 14: what every law of the layer begins with: a fixed run of the buffer. -/
import Derived.Test.YtllkeifldfmbkaaOrdJ
namespace Go.Proofs.Ytllkeifldfmbkaa
open Go.RowKit

/-- The transaction of number n. -/
def T (n : Int) : Tx := ⟨1, n, 0, n - 1, 0, []⟩
/-- What is held, from its transactions and where their writes lie. -/
def hz (ts : List Tx) (vs : List Value) : Held := (ts.zip vs).map (fun x => (x.1.s, x.1, x.2))
def putT (hv : Int) (ts : List Tx) (t : Tx) : Int :=
  if check t ≠ 0 ∨ t.o ≠ 1 then 0 else if t.s ≤ hv ∨ (ts.any (fun y => decide (t.s = y.s))) = true then 1 else if t.s ≠ hv + 1 ∧ ts.length = 8 then 4 else if t.s ≠ hv + 1 then 3 else 2
theorem hz_len {ts : List Tx} {vs : List Value} (h : vs.length = ts.length) : (hz ts vs).length = ts.length := by simp [hz, h]
theorem hz_get {ts : List Tx} {vs : List Value} (h : vs.length = ts.length) (k : Int) : (hget (hz ts vs) k).isSome = ts.any (fun y => decide (k = y.s)) := by
  induction ts generalizing vs with
  | nil => rfl
  | cons t ts ih =>
    cases vs with
    | nil => simp at h
    | cons v vs =>
      have h' : vs.length = ts.length := by simpa using h
      by_cases e : k = t.s
      · simp [hz, hget, hgetL, e]
      · have := ih h'
        simp only [hz, hget, hgetL, List.zip_cons_cons, List.map_cons, List.any_cons, decide_eq_false e, Bool.false_or, Option.isSome_map] at this ⊢
        rw [List.find?_cons_of_neg (by simp [e])]
        exact this
theorem hz_add {ts : List Tx} {vs : List Value} (h : vs.length = ts.length) (t : Tx) (v : Value) : hz (ts ++ [t]) (vs ++ [v]) = hz ts vs ++ [(t.s, t, v)] := by
  simp [hz, List.zip_append h.symm]
theorem putT_eq {hv : Int} {ts : List Tx} {vs : List Value} (h : vs.length = ts.length) (t : Tx) : putM 1 hv (hz ts vs) t = putT hv ts t := by
  unfold putM putT
  rw [hz_get h, hz_len h]
/-- The buffer in mid run. -/
def AwI (w : World) (g mb : Nat) (hv : Int) (ts : List Tx) (W : World) : Prop :=
  ∃ vs, vs.length = ts.length ∧ Bufr (fun _ => False) W g mb 1 hv (hz ts vs) ∧ Below w.heap.size w W
theorem AwI.next {w W W' : World} {g mb : Nat} {hv : Int} {ts : List Tx} (h : AwI w g mb hv ts W) (k : Below W.heap.size W W') : AwI w g mb hv ts W' := by
  obtain ⟨vs, h1, h2, h3⟩ := h
  exact ⟨vs, h1, h2.next k, h3.next k⟩
theorem nil_ws (W : World) (t : Tx) (h : t.ws = []) : Ws W (fun _ => False) (.slice none 0 0) t.ws := by
  rw [h]; exact ⟨none, 0, rfl, by simp, by simp [maxLen], Rd.nil⟩

theorem aput_no {w W : World} {g mb : Nat} {hv k : Int} {ts : List Tx} (h : AwI w g mb hv ts W) (t : Tx) (ht : t.ws = []) (h0 : 0 ≤ hv) (h1 : hv ≤ 100) (hl : ts.length ≤ 8) (hk : putT hv ts t = k) (hk' : k = 0 ∨ k = 1 ∨ k = 4) :
    Calls Try.prog 11 #[.pointer (some ⟨g, 0, none⟩), txVal t (.slice none 0 0)] W fun e w' => e = .returned (.tuple #[.int .i64 k, .slice none 0 0]) ∧ AwI w g mb hv ts w' := by
  obtain ⟨vs, hv1, hB, hb⟩ := id h
  refine (put_any g mb 1 hv (hz ts vs) t _ _ W hB (nil_ws W t ht) h0 (by omega) (by rw [hz_len hv1]; exact hl) (fun b hb => hb.elim)).mono ?_
  rintro e w' ⟨p1, p2, p3⟩
  rw [putT_eq hv1, hk] at p1
  obtain ⟨q1, q2⟩ := p1 hk'
  exact ⟨q1, h.next q2⟩
theorem aput_held {w W : World} {g mb : Nat} {hv : Int} {ts : List Tx} (h : AwI w g mb hv ts W) (hg : w.heap.size ≤ g) (hm : w.heap.size ≤ mb) (t : Tx) (ht : t.ws = []) (h0 : 0 ≤ hv) (h1 : hv ≤ 100) (hl : ts.length ≤ 8) (hk : putT hv ts t = 3) :
    Calls Try.prog 11 #[.pointer (some ⟨g, 0, none⟩), txVal t (.slice none 0 0)] W fun e w' => e = .returned (.tuple #[.int .i64 3, .slice none 0 0]) ∧ AwI w g mb hv (ts ++ [t]) w' := by
  obtain ⟨vs, hv1, hB, hb⟩ := id h
  refine (put_any g mb 1 hv (hz ts vs) t _ _ W hB (nil_ws W t ht) h0 (by omega) (by rw [hz_len hv1]; exact hl) (fun b hb => hb.elim)).mono ?_
  rintro e w' ⟨p1, p2, p3⟩
  rw [putT_eq hv1] at p2
  obtain ⟨v', q1, q2, q3⟩ := p2 hk
  refine ⟨q1, vs ++ [v'], by simp [hv1], by rw [hz_add hv1]; exact q2, Chg.below_of hb q3 hb.size (fun i hi => by rcases hi with e | e <;> omega)⟩
/-- The held ones of the fixed run. -/
def ts8 : List Tx := [T 6, T 8, T 9, T 10, T 11, T 12, T 13, T 14]
theorem row_awake (a b c d e f g h v : Value) : rowM 9 4 ([(6, T 6, a), (8, T 8, b), (9, T 9, c), (10, T 10, d), (11, T 11, e), (12, T 12, f), (13, T 13, g), (14, T 14, h)] ++ [(5, T 5, v)]) = ([(T 5, v), (T 6, a)], 6, hz [T 8, T 9, T 10, T 11, T 12, T 13, T 14] [b, c, d, e, f, g, h]) := by
  with_unfolding_all rfl
theorem aput_next {w W : World} {g mb : Nat} (h : AwI w g mb 4 ts8 W) (hg : w.heap.size ≤ g) (hm : w.heap.size ≤ mb) :
    Calls Try.prog 11 #[.pointer (some ⟨g, 0, none⟩), txVal (T 5) (.slice none 0 0)] W fun e w' => ∃ v va vb, e = .returned (.tuple #[.int .i64 2, v]) ∧ AwI w g mb 6 [T 8, T 9, T 10, T 11, T 12, T 13, T 14] w' ∧ Txs w' (fun _ => True) v [(T 5, va), (T 6, vb)] := by
  obtain ⟨vs, hv1, hB, hb⟩ := id h
  refine (put_any g mb 1 4 (hz ts8 vs) (T 5) _ _ W hB (nil_ws W (T 5) rfl) (by decide) (by decide) (by rw [hz_len hv1]; decide) (fun b hb => hb.elim)).mono ?_
  rintro e w' ⟨p1, p2, p3⟩
  rw [putT_eq hv1] at p3
  obtain ⟨v', v, q1, q2, q3, q4, q5⟩ := p3 (by decide)
  rw [hz_len hv1] at q2 q3 q4
  match vs, hv1 with
  | [a, b, c, d, e1, f, g1, h1], _ =>
    have hr : rowM (ts8.length + 1) 4 (hz ts8 [a, b, c, d, e1, f, g1, h1] ++ [((T 5).s, T 5, v')]) = ([(T 5, v'), (T 6, a)], 6, hz [T 8, T 9, T 10, T 11, T 12, T 13, T 14] [b, c, d, e1, f, g1, h1]) := row_awake a b c d e1 f g1 h1 v'
    rw [hr] at q2 q3 q4
    refine ⟨v, v', a, q1, ⟨_, rfl, q2, Chg.below_of hb q5 hb.size (fun i hi => by rcases hi with e | e <;> omega)⟩, ?_⟩
    obtain ⟨A, c, e2, e3⟩ := txs_of_own q3 (fun x hx => (q4 x hx).more (fun _ _ _ => trivial))
    rw [e2]; exact e3
theorem sort8 (vs : List Value) (h : vs.length = 8) : sortI ((hz ts8 vs).map (·.1)) = 6 :: [8, 9, 10, 11, 12, 13, 14] := by
  match vs, h with
  | [a, b, c, d, e, f, g, h], _ => 
    show sortI [6, 8, 9, 10, 11, 12, 13, 14] = _
    exact List.mergeSort_of_pairwise (by decide)
theorem sort7 (vs : List Value) (h : vs.length = 7) : sortI ((hz [T 8, T 9, T 10, T 11, T 12, T 13, T 14] vs).map (·.1)) = [8, 9, 10, 11, 12, 13, 14] := by
  match vs, h with
  | [a, b, c, d, e, f, g], _ => 
    show sortI [8, 9, 10, 11, 12, 13, 14] = _
    exact List.mergeSort_of_pairwise (by decide)
theorem hz_key {ts : List Tx} {vs : List Value} : ∀ p ∈ hz ts vs, p.2.1 ∈ ts ∧ p.1 = p.2.1.s := by
  intro p hp
  obtain ⟨x, hx, rfl⟩ := List.mem_map.1 hp
  exact ⟨(List.of_mem_zip hx).1, rfl⟩
theorem agap {w W : World} {g mb : Nat} (h : AwI w g mb 4 ts8 W) :
    Calls Try.prog 31 #[.pointer (some ⟨g, 0, none⟩)] W fun e w' => e = .returned (.tuple #[.int .i64 5, .int .i64 5, .bool true]) ∧ AwI w g mb 4 ts8 w' := by
  obtain ⟨vs, hv1, hB, hb⟩ := id h
  refine (gap_some g mb 1 4 _ W hB (fun p hp => ?_) (by rw [hz_len hv1]; decide) 6 _ (sort8 vs hv1) (by decide) (by decide)).mono ?_
  · obtain ⟨h1, h2⟩ := hz_key p hp
    rw [h2]
    have : ∀ t ∈ ts8, -4611686018427387903 ≤ t.s ∧ t.s ≤ 4611686018427387903 := by decide
    exact this _ h1
  · rintro e w' ⟨rfl, hb'⟩
    exact ⟨rfl, h.next hb'⟩
theorem anum {w W : World} {g mb : Nat} (h : AwI w g mb 6 [T 8, T 9, T 10, T 11, T 12, T 13, T 14] W) :
    Calls Try.prog 14 #[.pointer (some ⟨g, 0, none⟩)] W fun e w' => ∃ A c, e = .returned (.slice A 7 c) ∧ AwI w g mb 6 [T 8, T 9, T 10, T 11, T 12, T 13, T 14] w' ∧ Below W.heap.size W w' := by
  obtain ⟨vs, hv1, hB, hb⟩ := id h
  refine (numbers_any g mb 1 6 _ W hB (fun p hp => ?_) (by rw [hz_len hv1]; decide)).mono ?_
  · obtain ⟨h1, h2⟩ := hz_key p hp
    rw [h2]
    have : ∀ t ∈ [T 8, T 9, T 10, T 11, T 12, T 13, T 14], -9223372036854775808 ≤ t.s ∧ t.s ≤ 9223372036854775807 := by decide
    exact this _ h1
  · rintro e w' ⟨v, rfl, hi, hb'⟩
    rw [sort7 vs hv1] at hi
    obtain ⟨A, c, rfl, _⟩ := hi.form
    exact ⟨A, c, rfl, h.next hb', hb'⟩
theorem ahave {w W : World} {g mb : Nat} {hv : Int} {ts : List Tx} (h : AwI w g mb hv ts W) :
    Calls Try.prog 13 #[.pointer (some ⟨g, 0, none⟩)] W fun e w' => e = .returned (.int .i64 hv) ∧ W = w' := by
  obtain ⟨vs, hv1, hB, hb⟩ := h
  exact have_any g mb 1 hv _ W hB
theorem aback {w W : World} {g mb : Nat} {hv : Int} {ts : List Tx} (h : AwI w g mb hv ts W) (hg : w.heap.size ≤ g) (n : Int) (h0 : 0 ≤ n) (h1 : n ≤ hv) :
    Calls Try.prog 32 #[.pointer (some ⟨g, 0, none⟩), .int .i64 n] W fun e w' => e = .returned (.bool true) ∧ AwI w g W.heap.size n [] w' := by
  obtain ⟨vs, hv1, hB, hb⟩ := h
  refine (back_yes g mb 1 hv _ n W hB h0 h1).mono ?_
  rintro e w' ⟨rfl, hB', hc⟩
  exact ⟨rfl, [], rfl, hB', Chg.below_of hb hc hb.size (fun i hi => by omega)⟩
theorem aback_no {w W : World} {g mb : Nat} {hv : Int} {ts : List Tx} (h : AwI w g mb hv ts W) (n : Int) (h1 : hv < n) :
    Calls Try.prog 32 #[.pointer (some ⟨g, 0, none⟩), .int .i64 n] W fun e w' => e = .returned (.bool false) ∧ W = w' := by
  obtain ⟨vs, hv1, hB, hb⟩ := h
  exact back_no g mb 1 hv _ n W hB (Or.inr h1)
theorem anum0 {w W : World} {g mb : Nat} {hv : Int} (h : AwI w g mb hv [] W) :
    Calls Try.prog 14 #[.pointer (some ⟨g, 0, none⟩)] W fun e w' => ∃ A c, e = .returned (.slice A 0 c) ∧ AwI w g mb hv [] w' := by
  obtain ⟨vs, hv1, hB, hb⟩ := id h
  refine (numbers_any g mb 1 hv _ W hB (fun p hp => by simp [hz] at hp) (by simp [hz])).mono ?_
  rintro e w' ⟨v, rfl, hi, hb'⟩
  have e0 : sortI ((hz [] vs).map (·.1)) = [] := by simp [hz, sortI]
  rw [e0] at hi
  obtain ⟨A, c, rfl, _⟩ := hi.form
  exact ⟨A, c, rfl, h.next hb'⟩
theorem loop_put (k : Nat) (hk : k < 7) : putT 4 (ts8.take (k + 1)) (T (8 + (k : Int))) = 3 ∧ ts8.take (k + 1) ++ [T (8 + (k : Int))] = ts8.take (k + 1 + 1) := by
  match k, hk with
  | 0, _ => exact ⟨by decide, rfl⟩
  | 1, _ => exact ⟨by decide, rfl⟩
  | 2, _ => exact ⟨by decide, rfl⟩
  | 3, _ => exact ⟨by decide, rfl⟩
  | 4, _ => exact ⟨by decide, rfl⟩
  | 5, _ => exact ⟨by decide, rfl⟩
  | 6, _ => exact ⟨by decide, rfl⟩
/-- What the loop of the fixed run keeps. -/
def AwLoop (w : World) (g mb : Nat) (n : Nat) (sq : Value) (wr : World) : Prop := ∃ k : Nat, k ≤ 7 ∧ n = 7 - k ∧ sq = .int .i64 (8 + (k : Int)) ∧ AwI w g mb 4 (ts8.take (k + 1)) wr
end Go.Proofs.Ytllkeifldfmbkaa
