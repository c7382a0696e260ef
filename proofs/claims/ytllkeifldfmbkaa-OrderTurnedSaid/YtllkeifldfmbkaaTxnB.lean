/- Walks of layer 6: ContainsFunc and txn.Check. -/
import Derived.Test.YtllkeifldfmbkaaTxnA
namespace Go.Proofs.Ytllkeifldfmbkaa
open Go.RowKit

set_option maxHeartbeats 400000 in
theorem contains_any (f : Nat) (p : Wr → Bool) (hf : (f = 47 ∧ p = longB) ∨ (f = 48 ∧ p = badB)) (S : Nat → Prop) (v : Value) (ws : List Wr) (w : World) (hw : Ws w S v ws) :
    Calls Try.prog 46 #[v, .func (.func f) #[] #[]] w fun e w' => e = .returned (.bool (ws.any p)) ∧ Below w.heap.size w w' := by
  have HC := index_any f p hf S v ws w hw
  clear hw
  obtain ⟨q, hq⟩ : ∃ q : Bool, q = ws.any p := ⟨_, rfl⟩
  rw [← hq] at HC ⊢
  clear hq hf
  go_enter Try.func46, Try.ntmps46
  go_wp2_with fail
  refine HC.mono ?_
  rintro e w' ⟨n, rfl, hn, hb⟩
  have HN := hid hn
  clear hn
  go_wp2
  go_returns
  exact ⟨by rw [← HN.out]; simp, hb⟩

theorem check9 {o s d0 d1 d2 : Int} {ws : List Wr} (h : o < 0 ∨ 3 ≤ o) : check ⟨o, s, d0, d1, d2, ws⟩ = 9 := by unfold check; rw [if_pos h]
theorem check1 {o s d0 d1 d2 : Int} {ws : List Wr} (h0 : 0 ≤ o) (h3 : o < 3) (h : s < 1 ∨ 4611686018427387903 < s) : check ⟨o, s, d0, d1, d2, ws⟩ = 1 := by
  unfold check; rw [if_neg (by simp only []; omega), if_pos (by simp only []; omega)]
theorem check1' {o s d0 d1 d2 : Int} {ws : List Wr} (h0 : 0 ≤ o) (h3 : o < 3) (h : (okN d0 && okN d1 && okN d2) = false) : check ⟨o, s, d0, d1, d2, ws⟩ = 1 := by
  unfold check; rw [if_neg (by simp only []; omega), if_pos (Or.inr (Or.inr h))]
theorem check_of {o s d0 d1 d2 : Int} {ws : List Wr} (h0 : 0 ≤ o) (h3 : o < 3) (h1 : 1 ≤ s) (h2 : s ≤ 4611686018427387903) (h : (okN d0 && okN d1 && okN d2) = true) :
    check ⟨o, s, d0, d1, d2, ws⟩ = if (Tx.mk o s d0 d1 d2 ws).dep ≠ s - 1 then 11 else if 16 < ws.length ∨ ws.any longB = true then 4 else if ws.any badB = true then 3 else 0 := by
  unfold check; rw [if_neg (by simp only []; omega), if_neg (by simp only [h]; simp; omega)]

set_option maxHeartbeats 1000000 in
theorem check_any (t : Tx) (S : Nat → Prop) (v : Value) (w : World) (hw : Ws w S v t.ws) :
    Calls Try.prog 34 #[txVal t v] w fun e w' => e = .returned (.int .i64 (check t)) ∧ Below w.heap.size w w' := by
  obtain ⟨o, s, d0, d1, d2, ws⟩ := t
  have HW : ∀ W, Below w.heap.size w W → Ws W S v ws := fun W hb => hw.below hb
  have HW := hid HW
  obtain ⟨A, c, rfl, hc, hm, hr⟩ := hw
  clear hr
  by_cases ho : o < 0 ∨ 3 ≤ o
  · rw [check9 ho]
    go_enter Try.func34, Try.ntmps34
    rcases ho with ho | ho
    all_goals
      go_wp2
      go_returns
      exact ⟨rfl, by go_grown⟩
  obtain ⟨ho0, ho3⟩ : 0 ≤ o ∧ o < 3 := by omega
  clear ho
  by_cases hs : s < 1 ∨ 4611686018427387903 < s
  · rw [check1 ho0 ho3 hs]
    go_enter Try.func34, Try.ntmps34
    rcases hs with hs | hs
    all_goals
      go_wp2
      go_returns
      exact ⟨rfl, by go_grown⟩
  obtain ⟨hs0, hs3⟩ : 1 ≤ s ∧ s ≤ 4611686018427387903 := by omega
  clear hs
  cases hR : (okN d0 && okN d1 && okN d2)
  · rw [check1' ho0 ho3 hR]
    have HR := right_any d0 d1 d2
    rw [hR] at HR
    have HR := hid HR
    clear hR
    go_enter Try.func34, Try.ntmps34
    go_wp2_with (go_at_call 45; refine (HR.out _).mono ?_; rintro e w1 ⟨rfl, hb⟩)
    go_returns
    exact ⟨rfl, ((Below.refl _ _).alloc (Nat.le_refl _) _).next hb⟩
  · rw [check_of ho0 ho3 hs0 hs3 hR]
    have HR := right_any d0 d1 d2
    rw [hR] at HR
    have HR := hid HR
    clear hR
    have ho' : o = 0 ∨ o = 1 ∨ o = 2 := by omega
    obtain ⟨D, hD⟩ : ∃ D, D = (Tx.mk o s d0 d1 d2 ws).dep := ⟨_, rfl⟩
    rw [← hD]
    have HD := hid hD
    clear hD
    clear ho0 ho3
    by_cases hd : D = s - 1
    · rw [if_neg (by omega)]
      have HLe : 16 < ws.length ∨ ws.length ≤ 16 := by omega
      have HC := fun f p hf W hb => contains_any f p hf S _ ws W (HW.out W hb)
      have HC := hid HC
      clear HW
      rcases ho' with rfl | rfl | rfl
      all_goals
        have hD := HD.out
        rw [hd] at hD
        simp only [Tx.dep] at hD
        simp at hD
        subst hD
        clear HD hd
        rcases HLe with h16 | h16
        · rw [if_pos (Or.inl h16)]
          go_enter Try.func34, Try.ntmps34
          go_wp2_with (go_at_call 45; refine (HR.out _).mono ?_; rintro e w1 ⟨rfl, hb⟩; obtain ⟨hc1, hf1⟩ := bcell hb)
          have hb1 : Below w.heap.size w w1 := Below.next (by go_grown) hb
          go_quiet (fail)
          go_wp2
          go_returns
          exact ⟨rfl, hb1.drewN _⟩
        · cases hL : ws.any longB
          · cases hB : ws.any badB
            · rw [if_neg (by simp; omega), if_neg (by simp)]
              have H1 := fun W hb => HC.out 47 longB (Or.inl ⟨rfl, rfl⟩) W hb
              have H2 := fun W hb => HC.out 48 badB (Or.inr ⟨rfl, rfl⟩) W hb
              rw [hL] at H1
              rw [hB] at H2
              have H1 := hid H1
              have H2 := hid H2
              clear HC hL hB
              go_enter Try.func34, Try.ntmps34
              go_wp2_with (go_at_call 45; refine (HR.out _).mono ?_; rintro e w1 ⟨rfl, hb⟩; obtain ⟨hc1, hf1⟩ := bcell hb)
              have hb1 : Below w.heap.size w w1 := Below.next (by go_grown) hb
              have B1 : Blk w1 w.heap.size 34 [_, _, _, _, _, .slice A ws.length c] := (Blk.new w 34 [_, _, _, _, _, .slice A ws.length c]).below hb (by simp)
              go_quiet (fail)
              go_wp2_with fail
              refine (H1.out _ (hb1.drewN _)).mono ?_
              rintro e w2 ⟨rfl, hb2⟩
              have hb2' : Below w.heap.size w w2 := Below.next (hb1.drewN _) hb2
              have c2 : w2.cell? ⟨w.heap.size, 5, none⟩ = some (.slice A ws.length c) := ((B1.drewN _).next hb2).cell 5
              go_wp2_with fail
              refine (H2.out _ hb2').mono ?_
              rintro e w3 ⟨rfl, hb3⟩
              go_wp2
              go_returns
              exact ⟨rfl, hb2'.next hb3⟩
            · rw [if_neg (by simp; omega), if_pos (by simp)]
              have H1 := fun W hb => HC.out 47 longB (Or.inl ⟨rfl, rfl⟩) W hb
              have H2 := fun W hb => HC.out 48 badB (Or.inr ⟨rfl, rfl⟩) W hb
              rw [hL] at H1
              rw [hB] at H2
              have H1 := hid H1
              have H2 := hid H2
              clear HC hL hB
              go_enter Try.func34, Try.ntmps34
              go_wp2_with (go_at_call 45; refine (HR.out _).mono ?_; rintro e w1 ⟨rfl, hb⟩; obtain ⟨hc1, hf1⟩ := bcell hb)
              have hb1 : Below w.heap.size w w1 := Below.next (by go_grown) hb
              have B1 : Blk w1 w.heap.size 34 [_, _, _, _, _, .slice A ws.length c] := (Blk.new w 34 [_, _, _, _, _, .slice A ws.length c]).below hb (by simp)
              go_quiet (fail)
              go_wp2_with fail
              refine (H1.out _ (hb1.drewN _)).mono ?_
              rintro e w2 ⟨rfl, hb2⟩
              have hb2' : Below w.heap.size w w2 := Below.next (hb1.drewN _) hb2
              have c2 : w2.cell? ⟨w.heap.size, 5, none⟩ = some (.slice A ws.length c) := ((B1.drewN _).next hb2).cell 5
              go_wp2_with fail
              refine (H2.out _ hb2').mono ?_
              rintro e w3 ⟨rfl, hb3⟩
              go_wp2
              go_returns
              exact ⟨rfl, hb2'.next hb3⟩
          · rw [if_pos (by simp)]
            have H1 := fun W hb => HC.out 47 longB (Or.inl ⟨rfl, rfl⟩) W hb
            rw [hL] at H1
            have H1 := hid H1
            clear HC hL
            go_enter Try.func34, Try.ntmps34
            go_wp2_with (go_at_call 45; refine (HR.out _).mono ?_; rintro e w1 ⟨rfl, hb⟩; obtain ⟨hc1, hf1⟩ := bcell hb)
            have hb1 : Below w.heap.size w w1 := Below.next (by go_grown) hb
            have B1 : Blk w1 w.heap.size 34 [_, _, _, _, _, .slice A ws.length c] := (Blk.new w 34 [_, _, _, _, _, .slice A ws.length c]).below hb (by simp)
            go_quiet (fail)
            go_wp2_with fail
            refine (H1.out _ (hb1.drewN _)).mono ?_
            rintro e w2 ⟨rfl, hb2⟩
            have hb2' : Below w.heap.size w w2 := Below.next (hb1.drewN _) hb2
            go_wp2
            go_returns
            exact ⟨rfl, hb2'⟩
    · rw [if_pos hd]
      rcases ho' with rfl | rfl | rfl
      all_goals
        have hD := HD.out
        simp only [Tx.dep] at hD
        simp at hD
        subst hD
        clear HD
        go_enter Try.func34, Try.ntmps34
        go_wp2_with (go_at_call 45; refine (HR.out _).mono ?_; rintro e w1 ⟨rfl, hb⟩; obtain ⟨hc1, hf1⟩ := bcell hb)
        have hb1 : Below w.heap.size w w1 := Below.next (by go_grown) hb
        go_quiet (fail)
        go_wp2
        go_returns
        exact ⟨rfl, hb1.drewN _⟩
end Go.Proofs.Ytllkeifldfmbkaa
