/- Layer 12: two lists side by side, and rows that were told. -/
import Derived.Test.YtllkeifldfmbkaaDueAw
namespace Go.Proofs.Ytllkeifldfmbkaa
open Go.RowKit

abbrev RowT := Value × List (Int × Int) × TypeId
/-- Two lists that share nothing; rows that neither list has. -/
def SS (w W : World) (lx ly : Nat) (nx ny : Int) (Tx Ty : List Tr) (rows : List RowT) : Prop :=
  ∃ Fx Fy, DueT W Fx lx 1000 nx Tx ∧ DueT W Fy ly 1000 ny Ty ∧ (∀ b, Fx b → Fy b → False) ∧ (∀ b, Fx b → w.heap.size ≤ b) ∧ (∀ b, Fy b → w.heap.size ≤ b) ∧ Below w.heap.size w W ∧
    ∀ p ∈ rows, W.ownsRow w.heap.size p.2.2 2 p.1 p.2.1.length (p.2.1.flatMap ka) ∧ ∀ b, p.1.ownBlock = some b → ¬ Fx b ∧ ¬ Fy b
section
variable {w W w' : World} {lx ly : Nat} {nx ny : Int} {Tx Ty : List Tr} {rows : List RowT}
theorem SS.swap (h : SS w W lx ly nx ny Tx Ty rows) : SS w W ly lx ny nx Ty Tx rows := by
  obtain ⟨Fx, Fy, h1, h2, h3, h4, h5, h6, h7⟩ := h
  exact ⟨Fy, Fx, h2, h1, fun b hy hx => h3 b hx hy, h5, h4, h6, fun p hp => ⟨(h7 p hp).1, fun b hb => ((h7 p hp).2 b hb).symm⟩⟩
theorem SS.next (h : SS w W lx ly nx ny Tx Ty rows) (k : Below W.heap.size W w') : SS w w' lx ly nx ny Tx Ty rows := by
  obtain ⟨Fx, Fy, h1, h2, h3, h4, h5, h6, h7⟩ := h
  exact ⟨Fx, Fy, h1.next k, h2.next k, h3, h4, h5, h6.next k, fun p hp => ⟨own_chg (h7 p hp).1 (Chg.of_below (F := fun _ => False) k) (fun _ _ => id), (h7 p hp).2⟩⟩
theorem SS.less (h : SS w W lx ly nx ny Tx Ty rows) {rows' : List RowT} (hr : ∀ p ∈ rows', p ∈ rows) : SS w W lx ly nx ny Tx Ty rows' := by
  obtain ⟨Fx, Fy, h1, h2, h3, h4, h5, h6, h7⟩ := h
  exact ⟨Fx, Fy, h1, h2, h3, h4, h5, h6, fun p hp => h7 p (hr p hp)⟩
theorem SS.below (h : SS w W lx ly nx ny Tx Ty rows) : Below w.heap.size w W := by
  obtain ⟨Fx, Fy, h1, h2, h3, h4, h5, h6, h7⟩ := h
  exact h6
/-- The first list has turned. -/
theorem SS.op {Fx Fy F' : Nat → Prop} {n' : Int} {T' : List Tr} (h2 : DueT W Fy ly 1000 ny Ty) (h3 : ∀ b, Fx b → Fy b → False) (h4 : ∀ b, Fx b → w.heap.size ≤ b) (h6 : Below w.heap.size w W)
    (h7 : ∀ p ∈ rows, W.ownsRow w.heap.size p.2.2 2 p.1 p.2.1.length (p.2.1.flatMap ka) ∧ ∀ b, p.1.ownBlock = some b → ¬ Fx b ∧ ¬ Fy b) (_ : DueT w' F' lx 1000 n' T') (g2 : ∀ b, F' b → Fx b ∨ W.heap.size ≤ b) (g3 : Chg Fx W w') :
    DueT w' Fy ly 1000 ny Ty ∧ (∀ b, F' b → Fy b → False) ∧ (∀ b, F' b → w.heap.size ≤ b) ∧ Below w.heap.size w w' ∧
      ∀ p ∈ rows, w'.ownsRow w.heap.size p.2.2 2 p.1 p.2.1.length (p.2.1.flatMap ka) ∧ ∀ b, p.1.ownBlock = some b → ¬ F' b ∧ ¬ Fy b := by
  refine ⟨h2.chg g3 (fun b hy hx => h3 b hx hy), fun b hx hy => ?_, fun b hb => ?_, Chg.below_of h6 g3 h6.size h4, fun p hp => ⟨own_chg (h7 p hp).1 g3 (fun b hb => ((h7 p hp).2 b hb).1), fun b hb => ⟨fun hF => ?_, ((h7 p hp).2 b hb).2⟩⟩⟩
  · rcases g2 b hx with e | e
    · exact h3 b e hy
    · have := h2.lt b hy; omega
  · rcases g2 b hb with e | e
    · exact h4 b e
    · exact Nat.le_trans h6.size e
  · rcases g2 b hF with e | e
    · exact ((h7 p hp).2 b hb).1 e
    · have := ((h7 p hp).1.lt b hb).2; omega
theorem ss_set (h : SS w W lx ly nx ny Tx Ty rows) (hl : Tx.length ≤ 5000) (h0 : 0 ≤ nx) (h1 : nx ≤ 1000000) (key at_ : Int) :
    Calls Try.prog 19 #[.pointer (some ⟨lx, 0, none⟩), .int .i64 key, .int .i64 at_] W fun e w' => e = .returned (.int .i64 (setT 1000 nx Tx key at_).1) ∧ SS w w' lx ly (setT 1000 nx Tx key at_).2.1 ny (setT 1000 nx Tx key at_).2.2 Ty rows := by
  obtain ⟨Fx, Fy, g1, g2, g3, g4, g5, g6, g7⟩ := h
  refine (tset_any Fx lx 1000 nx Tx key at_ W g1 hl h0 h1).mono ?_
  rintro e w' ⟨F', rfl, q1, q2, q3⟩
  obtain ⟨r1, r2, r3, r4, r5⟩ := SS.op g2 g3 g4 g6 g7 q1 q2 q3
  exact ⟨rfl, F', Fy, q1, r1, r2, r3, g5, r4, r5⟩
theorem ss_stop (h : SS w W lx ly nx ny Tx Ty rows) (hl : Tx.length ≤ 5000) (key : Int) :
    Calls Try.prog 21 #[.pointer (some ⟨lx, 0, none⟩), .int .i64 key] W fun e w' => e = .returned (.bool (keyT Tx key).isSome) ∧ SS w w' lx ly nx ny (dropT Tx key) Ty rows := by
  obtain ⟨Fx, Fy, g1, g2, g3, g4, g5, g6, g7⟩ := h
  refine (tstop_any Fx lx 1000 nx Tx key W g1 hl).mono ?_
  rintro e w' ⟨F', rfl, q1, q2, q3⟩
  obtain ⟨r1, r2, r3, r4, r5⟩ := SS.op g2 g3 g4 g6 g7 q1 q2 q3
  exact ⟨rfl, F', Fy, q1, r1, r2, r3, g5, r4, r5⟩
theorem ss_take (h : SS w W lx ly nx ny Tx Ty rows) (hl : Tx.length ≤ 5000) (t : Int) :
    Calls Try.prog 25 #[.pointer (some ⟨lx, 0, none⟩), .int .i64 t] W fun e w' => ∃ A c, e = .returned (.slice A (kaT (takeT Tx t)).length c) ∧
      SS w w' lx ly nx ny (restT Tx t) Ty ((.slice A (kaT (takeT Tx t)).length c, kaT (takeT Tx t), 72) :: rows) ∧ ∀ p ∈ rows, ∀ b, p.1.ownBlock = some b → (Value.slice A (kaT (takeT Tx t)).length c).ownBlock ≠ some b := by
  obtain ⟨Fx, Fy, g1, g2, g3, g4, g5, g6, g7⟩ := h
  refine (ttake_any Fx lx 1000 nx Tx t W g1 hl).mono ?_
  rintro e w' ⟨v, F', rfl, q0, q1, q2, q3, q4⟩
  obtain ⟨A, c, rfl⟩ := own_form q0
  obtain ⟨r1, r2, r3, r4, r5⟩ := SS.op g2 g3 g4 g6 g7 q1 q2 q3
  refine ⟨A, c, rfl, ⟨F', Fy, q1, r1, r2, r3, g5, r4, fun p hp => ?_⟩, fun p hp b hb e => ?_⟩
  · rcases List.mem_cons.1 hp with rfl | hp
    · refine ⟨ownsRow_base_le q0 g6.size, fun b hb => ⟨fun hF => q4 b hF hb, fun hF => ?_⟩⟩
      have := g2.lt b hF
      have := (q0.lt b hb).1
      omega
    · exact r5 p hp
  · have := ((g7 p hp).1.lt b hb).2
    have := (q0.lt b e).1
    omega
theorem ss_all (h : SS w W lx ly nx ny Tx Ty rows) (hl : Tx.length ≤ 5000) :
    Calls Try.prog 29 #[.pointer (some ⟨lx, 0, none⟩)] W fun e w' => ∃ A c, e = .returned (.slice A (kaT Tx).length c) ∧ SS w w' lx ly nx ny Tx Ty ((.slice A (kaT Tx).length c, kaT Tx, 72) :: rows) := by
  obtain ⟨Fx, Fy, g1, g2, g3, g4, g5, g6, g7⟩ := h
  refine (tall_any Fx lx 1000 nx Tx W g1 hl).mono ?_
  rintro e w' ⟨v, rfl, q1, q2⟩
  obtain ⟨A, c, rfl⟩ := own_form q1
  refine ⟨A, c, rfl, Fx, Fy, g1.next q2, g2.next q2, g3, g4, g5, g6.next q2, fun p hp => ?_⟩
  rcases List.mem_cons.1 hp with rfl | hp
  · refine ⟨ownsRow_base_le q1 g6.size, fun b hb => ?_⟩
    have h1 := (q1.lt b hb).1
    exact ⟨fun hF => by have := g1.lt b hF; omega, fun hF => by have := g2.lt b hF; omega⟩
  · exact ⟨own_chg (g7 p hp).1 (Chg.of_below (F := fun _ => False) q2) (fun _ _ => id), (g7 p hp).2⟩
theorem ss_own (h : SS w W lx ly nx ny Tx Ty rows) {v : Value} {l : List (Int × Int)} {e : TypeId} (hm : (v, l, e) ∈ rows) (hl : l.length ≤ 10000) :
    Calls Try.prog 24 #[v] W fun e w' => ∃ A c, e = .returned (.slice A l.length c) ∧ SS w w' lx ly nx ny Tx Ty ((.slice A l.length c, l, 93) :: rows) := by
  obtain ⟨Fx, Fy, g1, g2, g3, g4, g5, g6, g7⟩ := h
  refine (down12_any _ v l W (Kas.of_own (g7 _ hm).1) hl).mono ?_
  rintro e w' ⟨v', rfl, q1, q2⟩
  obtain ⟨A, c, rfl⟩ := own_form q1
  refine ⟨A, c, rfl, Fx, Fy, g1.next q2, g2.next q2, g3, g4, g5, g6.next q2, fun p hp => ?_⟩
  rcases List.mem_cons.1 hp with rfl | hp
  · refine ⟨ownsRow_base_le q1 g6.size, fun b hb => ?_⟩
    have h1 := (q1.lt b hb).1
    exact ⟨fun hF => by have := g1.lt b hF; omega, fun hF => by have := g2.lt b hF; omega⟩
  · exact ⟨own_chg (g7 p hp).1 (Chg.of_below (F := fun _ => False) q2) (fun _ _ => id), (g7 p hp).2⟩
theorem ss_same (h : SS w W lx ly nx ny Tx Ty rows) {u v : Value} {a b : List (Int × Int)} {e e' : TypeId} (hu : (u, a, e) ∈ rows) (hv : (v, b, e') ∈ rows) :
    Calls Try.prog 23 #[u, v] W fun e w' => e = .returned (.bool (sameB a b)) ∧ SS w w' lx ly nx ny Tx Ty rows := by
  obtain ⟨Fx, Fy, g1, g2, g3, g4, g5, g6, g7⟩ := id h
  refine (same12_any _ _ u v a b W (Kas.of_own (g7 _ hu).1) (Kas.of_own (g7 _ hv).1)).mono ?_
  rintro e w' ⟨rfl, hb⟩
  exact ⟨rfl, h.next hb⟩
/-- A row has been appended to another one. -/
theorem ss_append (h : SS w W lx ly nx ny Tx Ty rows) {v v' : Value} {l l' : List (Int × Int)} (hv : (v, l, 72) ∈ rows) (hO : w'.ownsRow w.heap.size 72 2 v' (l.length + l'.length) (l.flatMap ka ++ l'.flatMap ka))
    (hg : W.grownBy w' v.ownBlock) (hloc : v'.ownBlock = v.ownBlock ∨ v'.ownBlock = some W.heap.size) : SS w w' lx ly nx ny Tx Ty [(v', l ++ l', 72)] := by
  obtain ⟨Fx, Fy, g1, g2, g3, g4, g5, g6, g7⟩ := h
  obtain ⟨h1, h2⟩ := g7 _ hv
  have k : Chg (fun b => v.ownBlock = some b) W w' := Chg.grown hg (fun k hk => hk)
  refine ⟨Fx, Fy, g1.chg k (fun b hb e => (h2 b e).1 hb), g2.chg k (fun b hb e => (h2 b e).2 hb), g3, g4, g5, Chg.below_of g6 k g6.size (fun b hb => (h1.lt b hb).1), fun p hp => ?_⟩
  simp only [List.mem_singleton] at hp
  subst hp
  refine ⟨by rw [List.length_append, List.flatMap_append]; exact hO, fun b hb => ?_⟩
  rcases hloc with e | e
  · rw [e] at hb; exact h2 b hb
  · simp only [] at hb
    rw [e] at hb; injection hb with hb
    exact ⟨fun hF => by have := g1.lt b hF; omega, fun hF => by have := g2.lt b hF; omega⟩
end
/-- The acts of the laws of this layer: what to do, a key, a tick. -/
def actC (x : Tr) : List Value := [.int .i64 x.1, .int .i64 x.2.1, .int .i64 x.2.2]
def Acts12 (w : World) (S : Nat → Prop) (v : Value) (l : List Tr) : Prop := ∃ A c, v = .slice A l.length c ∧ l.length ≤ c ∧ c ≤ maxLen ∧ Rd w S 3 A l.length (l.flatMap actC)
theorem Rd.act12 {w : World} {S : Nat → Prop} {A : Option Addr} {l : List Tr} (h : Rd w S 3 A l.length (l.flatMap actC)) {k : Nat} {x : Tr} (hk : l[k]? = some x) :
    ∃ b o, A = some ⟨b, o, none⟩ ∧ b < w.heap.size ∧ w.cell? ⟨b, o + k * 3, none⟩ = some (.int .i64 x.1) ∧ w.cell? ⟨b, o + k * 3 + 1, none⟩ = some (.int .i64 x.2.1) ∧ w.cell? ⟨b, o + k * 3 + 2, none⟩ = some (.int .i64 x.2.2) := by
  have hlt : k < l.length := (List.getElem?_eq_some_iff.1 hk).1
  obtain ⟨b, o, e, hb, _, hc⟩ := h.at_ hlt
  have hg : ∀ i, i < 3 → w.cell? ⟨b, o + (k * 3 + i), none⟩ = (actC x)[i]? := fun i hi => by
    have := hc i hi
    rw [flat_get _ 3 (fun x => rfl) l k i hi, hk] at this
    exact this
  exact ⟨b, o, e, hb, hg 0 (by omega), hg 1 (by omega), hg 2 (by omega)⟩
theorem kaT_take (T : List Tr) (t : Int) : kaT (takeT T t) = (kaT T).takeWhile (fun p => decide (p.2 ≤ t)) := by
  unfold kaT takeT
  induction T with
  | nil => rfl
  | cons x T ih =>
    simp only [List.takeWhile_cons, List.map_cons]
    split
    · rw [List.map_cons, ih]
    · rfl
theorem kaT_rest (T : List Tr) (t : Int) : kaT (restT T t) = (kaT T).dropWhile (fun p => decide (p.2 ≤ t)) := by
  unfold kaT restT
  induction T with
  | nil => rfl
  | cons x T ih =>
    simp only [List.dropWhile_cons, List.map_cons]
    split
    · exact ih
    · rfl
theorem takeT_len (T : List Tr) (t : Int) : (kaT (takeT T t)).length ≤ T.length := by
  unfold kaT takeT; rw [List.length_map]; exact (List.takeWhile_sublist _).length_le
theorem restT_len (T : List Tr) (t : Int) : (restT T t).length ≤ T.length := (List.dropWhile_sublist _).length_le
end Go.Proofs.Ytllkeifldfmbkaa
