/- Layer 12: what every law of the layer begins with: a fixed run of a list. -/
import Derived.Test.YtllkeifldfmbkaaDueT
namespace Go.Proofs.Ytllkeifldfmbkaa
open Go.RowKit

theorem rows_keep {W w' : World} {F F' : Nat → Prop} {v : Value} {l : List (Int × Int)} (h : Kas W (fun b => ¬ F b) v l) (k : Chg F W w') (hF : ∀ b, F' b → F b ∨ W.heap.size ≤ b) : Kas w' (fun b => ¬ F' b) v l := by
  have h1 := h.more (S' := fun b => b < W.heap.size ∧ ¬ F b) (fun b hb hn => ⟨hb, hn⟩)
  exact (h1.chg k (fun b hb => hb.2)).more (fun b _ hb hf => by rcases hF b hf with e | e; exact hb.2 e; omega)
/-- The list in mid run, and rows that were told. -/
def DR (w : World) (lb : Nat) (W : World) (now : Int) (T : List Tr) (rows : List (Value × List (Int × Int))) : Prop :=
  ∃ F, DueT W F lb 3 now T ∧ (∀ b, F b → w.heap.size ≤ b) ∧ Below w.heap.size w W ∧ ∀ p ∈ rows, Kas W (fun b => ¬ F b) p.1 p.2
theorem DR.next {w W w' : World} {lb : Nat} {now : Int} {T : List Tr} {rows : List (Value × List (Int × Int))} (h : DR w lb W now T rows) (k : Below W.heap.size W w') : DR w lb w' now T rows := by
  obtain ⟨F, h1, h2, h3, h4⟩ := h
  exact ⟨F, h1.next k, h2, h3.next k, fun p hp => (h4 p hp).next k⟩
theorem DR.op {w W w' : World} {lb : Nat} {now : Int} {rows : List (Value × List (Int × Int))} {F F' : Nat → Prop} {T' : List Tr} (h1 : DueT w' F' lb 3 now T') (h2 : ∀ b, F b → w.heap.size ≤ b) (h3 : Below w.heap.size w W) (h4 : ∀ p ∈ rows, Kas W (fun b => ¬ F b) p.1 p.2)
    (hF : ∀ b, F' b → F b ∨ W.heap.size ≤ b) (k : Chg F W w') : DR w lb w' now T' rows :=
  ⟨F', h1, fun b hb => by rcases hF b hb with e | e; exact h2 b e; exact Nat.le_trans h3.size e, Chg.below_of h3 k h3.size h2, fun p hp => rows_keep (h4 p hp) k hF⟩
section
variable {w W : World} {lb : Nat} {now : Int} {T : List Tr} {rows : List (Value × List (Int × Int))}
theorem ar_set (h : DR w lb W now T rows) (hl : T.length ≤ 10) (h0 : 0 ≤ now) (h1 : now ≤ 10) (key at_ : Int) (r now' : Int) (T' : List Tr) (he : setT 3 now T key at_ = (r, now', T')) :
    Calls Try.prog 19 #[.pointer (some ⟨lb, 0, none⟩), .int .i64 key, .int .i64 at_] W fun e w' => e = .returned (.int .i64 r) ∧ DR w lb w' now' T' rows := by
  obtain ⟨F, g1, g2, g3, g4⟩ := h
  refine (tset_any F lb 3 now T key at_ W g1 (by omega) h0 (by omega)).mono ?_
  rintro e w' ⟨F', rfl, q1, q2, q3⟩
  rw [he] at q1 ⊢
  exact ⟨rfl, DR.op q1 g2 g3 g4 q2 q3⟩
theorem ar_stop (h : DR w lb W now T rows) (hl : T.length ≤ 10) (key : Int) (b : Bool) (T' : List Tr) (he : (keyT T key).isSome = b) (hd : dropT T key = T') :
    Calls Try.prog 21 #[.pointer (some ⟨lb, 0, none⟩), .int .i64 key] W fun e w' => e = .returned (.bool b) ∧ DR w lb w' now T' rows := by
  obtain ⟨F, g1, g2, g3, g4⟩ := h
  refine (tstop_any F lb 3 now T key W g1 (by omega)).mono ?_
  rintro e w' ⟨F', rfl, q1, q2, q3⟩
  rw [hd] at q1
  rw [he]
  exact ⟨rfl, DR.op q1 g2 g3 g4 q2 q3⟩
theorem ar_at (h : DR w lb W now T rows) (key : Int) (v : Value) (he : atT (keyT T key) = v) :
    Calls Try.prog 27 #[.pointer (some ⟨lb, 0, none⟩), .int .i64 key] W fun e w' => e = .returned v ∧ W = w' := by
  obtain ⟨F, g1, g2, g3, g4⟩ := h
  rw [← he]
  exact tat_any F lb 3 now T key W g1
theorem ar_take (h : DR w lb W now T rows) (hl : T.length ≤ 10) (t : Int) (l : List (Int × Int)) (T' : List Tr) (he : kaT (takeT T t) = l) (hd : restT T t = T') :
    Calls Try.prog 25 #[.pointer (some ⟨lb, 0, none⟩), .int .i64 t] W fun e w' => ∃ A c, e = .returned (.slice A l.length c) ∧ DR w lb w' now T' ((.slice A l.length c, l) :: rows) := by
  obtain ⟨F, g1, g2, g3, g4⟩ := h
  refine (ttake_any F lb 3 now T t W g1 (by omega)).mono ?_
  rintro e w' ⟨v, F', rfl, q1, q2, q3, q4, q5⟩
  rw [he] at q1
  rw [hd] at q2
  obtain ⟨A, c, rfl⟩ := own_form q1
  obtain ⟨F2, r1, r2, r3, r4⟩ := DR.op q2 g2 g3 g4 q3 q4
  refine ⟨A, c, rfl, F', q2, fun b hb => by rcases q3 b hb with e | e; exact g2 b e; exact Nat.le_trans g3.size e, r3, fun p hp => ?_⟩
  rcases List.mem_cons.1 hp with rfl | hp
  · exact (Kas.of_own q1).more (fun b _ hb hF => q5 b hF hb)
  · exact rows_keep (g4 p hp) q4 q3
theorem ar_all (h : DR w lb W now T rows) (hl : T.length ≤ 10) (l : List (Int × Int)) (he : kaT T = l) :
    Calls Try.prog 29 #[.pointer (some ⟨lb, 0, none⟩)] W fun e w' => ∃ A c, e = .returned (.slice A l.length c) ∧ DR w lb w' now T ((.slice A l.length c, l) :: rows) := by
  obtain ⟨F, g1, g2, g3, g4⟩ := h
  refine (tall_any F lb 3 now T W g1 (by omega)).mono ?_
  rintro e w' ⟨v, rfl, q1, q2⟩
  rw [he] at q1
  obtain ⟨A, c, rfl⟩ := own_form q1
  obtain ⟨F2, r1, r2, r3, r4⟩ := DR.next (rows := rows) ⟨F, g1, g2, g3, g4⟩ q2
  refine ⟨A, c, rfl, F, g1.next q2, g2, g3.next q2, fun p hp => ?_⟩
  rcases List.mem_cons.1 hp with rfl | hp
  · refine (Kas.of_own q1).more (fun b _ hb hF => ?_)
    have h1 := g1.lt b hF
    have h2 := (q1.lt b hb).1
    omega
  · exact (g4 p hp).next q2
/-- own, of a row that was told. -/
theorem ar_own (h : DR w lb W now T rows) {v : Value} {l : List (Int × Int)} (hm : (v, l) ∈ rows) (hl : l.length ≤ 10) :
    Calls Try.prog 24 #[v] W fun e w' => ∃ A c, e = .returned (.slice A l.length c) ∧ DR w lb w' now T rows ∧ Kas w' (fun _ => True) (.slice A l.length c) l := by
  obtain ⟨F, g1, g2, g3, g4⟩ := h
  refine (down12_any _ v l W (g4 _ hm) (by omega)).mono ?_
  rintro e w' ⟨v', rfl, q1, q2⟩
  obtain ⟨A, c, rfl⟩ := own_form q1
  exact ⟨A, c, rfl, DR.next ⟨F, g1, g2, g3, g4⟩ q2, (Kas.of_own q1).more (fun _ _ _ => trivial)⟩
end
/-- A literal row, newly laid. -/
theorem lit_kas (W : World) (l : List (Int × Int)) (hl : l.length ≤ 10) : Kas (W.alloc (.cells (l.flatMap ka).toArray 93)) (fun _ => True) (.slice (some ⟨W.heap.size, 0, none⟩) l.length l.length) l :=
  ⟨_, _, rfl, Nat.le_refl _, by simp only [maxLen]; omega, Rd.new W _ _ _ 2 (flat_len ka 2 (fun _ => rfl) l) trivial⟩
theorem sameB_self (l : List (Int × Int)) : sameB l l = true := decide_eq_true rfl

set_option maxRecDepth 100000 in
set_option maxHeartbeats 8000000 in
theorem awake12_any (w : World) : Calls Try.prog 16 #[] w fun e w' => e = .returned (.bool true) ∧ Below w.heap.size w w' := by
  have hN1 := fun W => tnew_ok 3 W (by decide) (by decide)
  have hN2 := fun W => dnew_bad (-1) W (by decide)
  replace hN1 := hid hN1
  replace hN2 := hid hN2
  go_enter Try.func16, Try.ntmps16
  go_wp2_with fail
  refine (hN1.out _).mono ?_
  rintro e w1 ⟨lb, F, rfl, hD, hF, hb⟩
  have hA : Hid (DR w lb w1 0 [] []) := hid ⟨F, hD, hF, hb, by simp⟩
  clear hD hF hb hN1
  go_wp2_with fail
  refine (hN2.out _).mono ?_
  rintro e _ ⟨rfl, rfl⟩
  clear hN2
  go_wp2_with fail
  refine (ar_set hA.out (by decide) (by decide) (by decide) 1 5 0 1 [(1, 5, 1)] (by decide)).mono ?_
  rintro e w2 ⟨rfl, h⟩
  clear hA
  replace hA := hid h
  clear h
  go_wp2_with fail
  refine (ar_set hA.out (by decide) (by decide) (by decide) 2 3 0 2 [(2, 3, 2), (1, 5, 1)] (by decide)).mono ?_
  rintro e w3 ⟨rfl, h⟩
  clear hA
  replace hA := hid h
  clear h
  go_wp2_with fail
  refine (ar_set hA.out (by decide) (by decide) (by decide) 3 5 0 3 [(2, 3, 2), (1, 5, 1), (3, 5, 3)] (by decide)).mono ?_
  rintro e w4 ⟨rfl, h⟩
  clear hA
  replace hA := hid h
  clear h
  go_wp2_with fail
  refine (ar_set hA.out (by decide) (by decide) (by decide) 1 5 0 4 [(2, 3, 2), (3, 5, 3), (1, 5, 4)] (by decide)).mono ?_
  rintro e w5 ⟨rfl, h⟩
  clear hA
  replace hA := hid h
  clear h
  go_wp2_with fail
  refine (ar_set hA.out (by decide) (by decide) (by decide) 4 1 7 4 [(2, 3, 2), (3, 5, 3), (1, 5, 4)] (by decide)).mono ?_
  rintro e w6 ⟨rfl, h⟩
  clear hA
  replace hA := hid h
  clear h
  go_wp2_with fail
  refine (ar_set hA.out (by decide) (by decide) (by decide) (-1) 1 1 4 [(2, 3, 2), (3, 5, 3), (1, 5, 4)] (by decide)).mono ?_
  rintro e w7 ⟨rfl, h⟩
  clear hA
  replace hA := hid h
  clear h
  go_wp2_with fail
  refine (ar_at hA.out 3 (.tuple #[.int .i64 5, .bool true]) rfl).mono ?_
  rintro e _ ⟨rfl, rfl⟩
  go_wp2_with fail
  refine (ar_all hA.out (by decide) [(2, 3), (3, 5), (1, 5)] rfl).mono ?_
  rintro e w8 ⟨A1, c1, rfl, h⟩
  clear hA
  replace hA := hid h
  clear h
  go_wp2_with fail
  refine (ar_take hA.out (by decide) 2 [] [(2, 3, 2), (3, 5, 3), (1, 5, 4)] (by decide) (by decide)).mono ?_
  rintro e w9 ⟨A2, c2, rfl, h⟩
  clear hA
  replace hA := hid h
  clear h
  go_wp2_with fail
  refine (ar_take hA.out (by decide) 4 [(2, 3)] [(3, 5, 3), (1, 5, 4)] (by decide) (by decide)).mono ?_
  rintro e w10 ⟨A3, c3, rfl, h⟩
  clear hA
  replace hA := hid h
  clear h
  go_wp2_with fail
  refine (ar_stop hA.out (by decide) 3 true [(1, 5, 4)] (by decide) (by decide)).mono ?_
  rintro e w11 ⟨rfl, h⟩
  clear hA
  replace hA := hid h
  clear h
  go_wp2_with fail
  refine (ar_stop hA.out (by decide) 3 false [(1, 5, 4)] (by decide) (by decide)).mono ?_
  rintro e w12 ⟨rfl, h⟩
  clear hA
  replace hA := hid h
  clear h
  go_wp2_with fail
  refine (ar_take hA.out (by decide) 9 [(1, 5)] [] (by decide) (by decide)).mono ?_
  rintro e w13 ⟨A4, c4, rfl, h⟩
  clear hA
  replace hA := hid h
  clear h
  go_wp2_with fail
  refine (ar_own hA.out (v := .slice A1 3 c1) (l := [(2, 3), (3, 5), (1, 5)]) (by simp) (by decide)).mono ?_
  rintro e w14 ⟨A5, c5, rfl, h, hK⟩
  clear hA
  replace hA := hid h
  replace hK := hid hK
  clear h
  go_wp2_with fail
  have hS := same12_any _ _ _ _ _ [(2, 3), (3, 5), (1, 5)] _ (hK.out.next ((Below.refl _ _).alloc (Nat.le_refl _) _)) (lit_kas w14 [(2, 3), (3, 5), (1, 5)] (by decide))
  rw [sameB_self] at hS
  refine hS.mono ?_
  rintro e w15 ⟨rfl, hb⟩
  have h := (hA.out.next ((Below.refl _ _).alloc (Nat.le_refl _) _)).next hb
  clear hA hS hK hb
  replace hA := hid h
  clear h
  go_wp2_with fail
  refine (ar_own hA.out (v := .slice A3 1 c3) (l := [(2, 3)]) (by simp) (by decide)).mono ?_
  rintro e w16 ⟨A6, c6, rfl, h, hK⟩
  clear hA
  replace hA := hid h
  replace hK := hid hK
  clear h
  go_wp2_with fail
  have hS := same12_any _ _ _ _ _ [(2, 3)] _ (hK.out.next ((Below.refl _ _).alloc (Nat.le_refl _) _)) (lit_kas w16 [(2, 3)] (by decide))
  rw [sameB_self] at hS
  refine hS.mono ?_
  rintro e w17 ⟨rfl, hb⟩
  have h := (hA.out.next ((Below.refl _ _).alloc (Nat.le_refl _) _)).next hb
  clear hA hS hK hb
  replace hA := hid h
  clear h
  go_wp2_with fail
  refine (ar_own hA.out (v := .slice A4 1 c4) (l := [(1, 5)]) (by simp) (by decide)).mono ?_
  rintro e w18 ⟨A7, c7, rfl, h, hK⟩
  clear hA
  replace hA := hid h
  replace hK := hid hK
  clear h
  go_wp2_with fail
  have hS := same12_any _ _ _ _ _ [(1, 5)] _ (hK.out.next ((Below.refl _ _).alloc (Nat.le_refl _) _)) (lit_kas w18 [(1, 5)] (by decide))
  rw [sameB_self] at hS
  refine hS.mono ?_
  rintro e w19 ⟨rfl, hb⟩
  have h := (hA.out.next ((Below.refl _ _).alloc (Nat.le_refl _) _)).next hb
  obtain ⟨_, _, _, hfin, _⟩ := h
  clear hA hS hK hb
  replace hfin := hid hfin
  go_wp2
  go_returns
  exact ⟨rfl, hfin.out⟩
end Go.Proofs.Ytllkeifldfmbkaa
