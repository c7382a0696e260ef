/- Layer 12: Remove of container/heap, over the list's heap. -/
import Derived.Test.YtllkeifldfmbkaaDueG
namespace Go.Proofs.Ytllkeifldfmbkaa
open Go.RowKit

theorem foot_swap {av : Value} {hs : List Nd} {i n : Nat} : ∀ b, av.ownBlock = some b ∨ b ∈ (swapL hs i n).map (·.b) → av.ownBlock = some b ∨ b ∈ hs.map (·.b) := by
  rintro b (hb | hb)
  · exact .inl hb
  · exact .inr (((swapL_perm hs i n).map (·.b)).mem_iff.1 hb)

set_option maxRecDepth 100000 in
set_option maxHeartbeats 2000000 in
theorem hremove_any (lb : Nat) (c1 c2 c3 av : Value) (hs : List Nd) (n i : Nat) (x : Nd) (w : World) (h : LstM w lb c1 c2 c3 av hs) (hn : hs.length = n + 1) (hi : i < hs.length) (hx : (removeL hs i)[n]? = some x) (hl : n ≤ 10000) :
    Calls Try.prog 40 #[face lb, .int .i64 (i : Int)] w (HPopP w lb c1 c2 c3 av hs ((removeL hs i).take n) x) := by
  obtain ⟨A, c, rfl, l0⟩ := h.slice hn
  have hLn := hlen_any _ _ w h.heap
  rw [hn] at hLn
  have hm := fun k => meth_len k w lb l0
  replace hLn := hid hLn
  by_cases hni : n = i
  · subst hni
    have e : removeL hs n = hs := by unfold removeL; rw [hn, if_pos (by simp)]
    rw [e] at hx ⊢
    have hP := npop_of h hn hx (by omega)
    replace hP := hid hP
    have t1 : ((n : Int) != (n : Int)) = false := by simp
    clear h hx e
    unfold face at *
    go_enter Try.func40, Try.ntmps40
    go_wp2_with fail
    refine hLn.out.mono ?_
    rintro e _ ⟨rfl, rfl⟩
    go_wp2_with fail
    refine hP.out.mono ?_
    intro e w3 hp
    obtain ⟨rfl, av', q2, q3, q4, q5⟩ := id hp
    have hgo : HPopP w lb c1 c2 c3 (.slice A (n + 1) c) hs (hs.take n) x (.returned (.iface 99 (ptr x))) w3 := ⟨rfl, av', q2, q3.mono (fun b hb => .inl hb), q4, q5⟩
    replace hgo := hid hgo
    clear hp q2 q3 q4 q5
    go_wp2
    go_returns
    exact hgo.out
  · have hin : i < n := by omega
    have t1 : ((n : Int) != (i : Int)) = true := by rw [bne_iff_ne]; omega
    have hSw := hswap_any _ hs i n w h.heap (by omega) (by omega)
    have hms := fun k => meth_swap k w lb l0
    have hD : ∀ w1, HeapM w1 (.slice A (n + 1) c) (swapL hs i n) → Chg (fun b => (Value.slice A (n + 1) c).ownBlock = some b ∨ b ∈ hs.map (·.b)) w w1 →
        Calls Try.prog 54 #[face lb, .int .i64 (i : Int), .int .i64 (n : Int)] w1 (DownP w1 lb c1 c2 c3 (.slice A (n + 1) c) (swapL hs i n) i n) := fun w1 hH hc =>
      down_any lb c1 c2 c3 _ (swapL hs i n) i n w1 (h.keep hH hc) (by omega) (by rw [swapL_len]; omega) (by rw [swapL_len]; omega)
    have hlen2 : (downL (n + 1) (swapL hs i n) i n).1.length = n + 1 := by
      have := ((downL_perm n (n + 1) (swapL hs i n) i).trans (swapL_perm hs i n)).length_eq
      omega
    have hperm : (downL (n + 1) (swapL hs i n) i n).1.Perm hs := (downL_perm n (n + 1) (swapL hs i n) i).trans (swapL_perm hs i n)
    have hL0 := h.blk.lt
    have hnot := h.notin
    have hl1 : ∀ w1, Chg (fun b => (Value.slice A (n + 1) c).ownBlock = some b ∨ b ∈ hs.map (·.b)) w w1 → w1.cell? ⟨lb, 0, none⟩ = some (.slice A (n + 1) c) := fun w1 hc =>
      (h.blk.chg hc (fun e => by rcases e with e | e; exact hnot.1 e; exact hnot.2 e)).cell 0
    replace hSw := hid hSw
    replace hD := hid hD
    replace hl1 := hid hl1
    by_cases hmv : i < (downL (n + 1) (swapL hs i n) i n).2
    · have e : removeL hs i = (downL (n + 1) (swapL hs i n) i n).1 := by
        unfold removeL
        rw [hn, Nat.add_sub_cancel, if_neg (by omega)]
        simp only []
        rw [if_neg (by omega)]
      rw [e] at hx ⊢
      have hPp : ∀ w1 w2 e, DownP w1 lb c1 c2 c3 (.slice A (n + 1) c) (swapL hs i n) i n e w2 → Calls Try.prog 118 #[.pointer (some ⟨lb, 0, none⟩)] w2 (PopP w2 lb c1 c2 c3 (.slice A (n + 1) c) ((downL (n + 1) (swapL hs i n) i n).1.take n) x) := by
        rintro w1 w2 e ⟨_, q2, _⟩
        rw [swapL_len, hn] at q2
        exact npop_of q2 hlen2 hx (by omega)
      have hfin : ∀ w1 w2 e e2 w3, Chg (fun b => (Value.slice A (n + 1) c).ownBlock = some b ∨ b ∈ hs.map (·.b)) w w1 → DownP w1 lb c1 c2 c3 (.slice A (n + 1) c) (swapL hs i n) i n e w2 →
          PopP w2 lb c1 c2 c3 (.slice A (n + 1) c) ((downL (n + 1) (swapL hs i n) i n).1.take n) x e2 w3 → HPopP w lb c1 c2 c3 (.slice A (n + 1) c) hs ((downL (n + 1) (swapL hs i n) i n).1.take n) x e2 w3 := by
        rintro w1 w2 e e2 w3 k1 ⟨_, _, k2⟩ ⟨q1, av', q2, q3, q4, q5⟩
        exact ⟨q1, av', q2, ((k1.mono (fun b hb => .inr hb)).trans (k2.mono (fun b hb => .inr (foot_swap b hb)))).trans (q3.mono (fun b hb => .inl hb)), q4, q5⟩
      have hbo : ∀ w1 w2 e, DownP w1 lb c1 c2 c3 (.slice A (n + 1) c) (swapL hs i n) i n e w2 → e = .returned (.bool true) := by
        rintro w1 w2 e ⟨q1, _, _⟩
        rw [q1, swapL_len, hn, decide_eq_true hmv]
      replace hfin := hid hfin
      replace hPp := hid hPp
      replace hbo := hid hbo
      clear h hnot hx e hlen2 hperm hmv
      unfold face at *
      go_enter Try.func40, Try.ntmps40
      go_wp2_with fail
      refine hLn.out.mono ?_
      rintro e _ ⟨rfl, rfl⟩
      go_wp2_with fail
      refine hSw.out.mono ?_
      rintro e w1 ⟨rfl, hH1, hc1⟩
      have hD1 := hid (hD.out w1 hH1 hc1)
      have l1 := hl1.out w1 hc1
      replace hc1 := hid hc1
      clear hH1 hD hSw hl1
      go_wp2_with fail
      refine hD1.out.mono ?_
      intro e w2 hd
      obtain rfl := hbo.out _ _ _ hd
      have hP2 := hid (hPp.out _ _ _ hd)
      replace hd := hid hd
      clear hPp hD1
      go_wp2_with fail
      refine hP2.out.mono ?_
      intro e w3 hp
      obtain ⟨rfl, _⟩ := id hp
      have hgo := hid (hfin.out _ _ _ _ _ hc1.out hd.out hp)
      clear hp hfin
      go_wp2
      go_returns
      exact hgo.out
    · have e : removeL hs i = upL (n + 1) (downL (n + 1) (swapL hs i n) i n).1 i := by
        unfold removeL
        rw [hn, Nat.add_sub_cancel, if_neg (by omega)]
        simp only []
        rw [if_pos (by omega)]
      rw [e] at hx ⊢
      have hUp : ∀ w1 w2 e, DownP w1 lb c1 c2 c3 (.slice A (n + 1) c) (swapL hs i n) i n e w2 → w2.cell? ⟨lb, 0, none⟩ = some (.slice A (n + 1) c) ∧ Calls Try.prog 53 #[face lb, .int .i64 (i : Int)] w2 (UpP w2 lb c1 c2 c3 (.slice A (n + 1) c) (downL (n + 1) (swapL hs i n) i n).1 i) := by
        rintro w1 w2 e ⟨_, q2, _⟩
        rw [swapL_len, hn] at q2
        exact ⟨q2.blk.cell 0, up_any lb c1 c2 c3 _ _ i w2 q2 (by omega) (by omega)⟩
      have hPp : ∀ w2 w3 e, UpP w2 lb c1 c2 c3 (.slice A (n + 1) c) (downL (n + 1) (swapL hs i n) i n).1 i e w3 → Calls Try.prog 118 #[.pointer (some ⟨lb, 0, none⟩)] w3 (PopP w3 lb c1 c2 c3 (.slice A (n + 1) c) ((upL (n + 1) (downL (n + 1) (swapL hs i n) i n).1 i).take n) x) := by
        rintro w2 w3 e ⟨_, q2, _⟩
        rw [upL_fuel (i + 1) (n + 1) _ i (by omega) (by omega)] at q2
        refine npop_of q2 ?_ hx (by omega)
        have := (upL_perm (n + 1) (downL (n + 1) (swapL hs i n) i n).1 i).length_eq
        omega
      have hfin : ∀ w1 w2 w3 e e2 e3 w4, Chg (fun b => (Value.slice A (n + 1) c).ownBlock = some b ∨ b ∈ hs.map (·.b)) w w1 → DownP w1 lb c1 c2 c3 (.slice A (n + 1) c) (swapL hs i n) i n e w2 →
          UpP w2 lb c1 c2 c3 (.slice A (n + 1) c) (downL (n + 1) (swapL hs i n) i n).1 i e2 w3 →
          PopP w3 lb c1 c2 c3 (.slice A (n + 1) c) ((upL (n + 1) (downL (n + 1) (swapL hs i n) i n).1 i).take n) x e3 w4 → HPopP w lb c1 c2 c3 (.slice A (n + 1) c) hs ((upL (n + 1) (downL (n + 1) (swapL hs i n) i n).1 i).take n) x e3 w4 := by
        rintro w1 w2 w3 e e2 e3 w4 k1 ⟨_, _, k2⟩ ⟨_, _, k3⟩ ⟨q1, av', q2, q3, q4, q5⟩
        refine ⟨q1, av', q2, (((k1.mono (fun b hb => .inr hb)).trans (k2.mono (fun b hb => .inr (foot_swap b hb)))).trans (k3.mono ?_)).trans (q3.mono (fun b hb => .inl hb)), q4, q5⟩
        rintro b (hb | hb)
        · exact .inr (.inl hb)
        · exact .inr (.inr ((hperm.map (·.b)).mem_iff.1 hb))
      have hbo : ∀ w1 w2 e, DownP w1 lb c1 c2 c3 (.slice A (n + 1) c) (swapL hs i n) i n e w2 → e = .returned (.bool false) := by
        rintro w1 w2 e ⟨q1, _, _⟩
        rw [q1, swapL_len, hn, decide_eq_false hmv]
      replace hfin := hid hfin
      replace hPp := hid hPp
      replace hUp := hid hUp
      replace hbo := hid hbo
      clear h hnot hx e hlen2 hperm hmv
      unfold face at *
      go_enter Try.func40, Try.ntmps40
      go_wp2_with fail
      refine hLn.out.mono ?_
      rintro e _ ⟨rfl, rfl⟩
      go_wp2_with fail
      refine hSw.out.mono ?_
      rintro e w1 ⟨rfl, hH1, hc1⟩
      have hD1 := hid (hD.out w1 hH1 hc1)
      have l1 := hl1.out w1 hc1
      replace hc1 := hid hc1
      clear hH1 hD hSw hl1
      go_wp2_with fail
      refine hD1.out.mono ?_
      intro e w2 hd
      obtain rfl := hbo.out _ _ _ hd
      obtain ⟨l2, hU⟩ := hUp.out _ _ _ hd
      replace hU := hid hU
      replace hd := hid hd
      clear hUp hD1
      go_wp2_with fail
      refine hU.out.mono ?_
      intro e w3 hu
      obtain ⟨rfl, _⟩ := id hu
      have hP2 := hid (hPp.out _ _ _ hu)
      replace hu := hid hu
      clear hPp hU
      go_wp2_with fail
      refine hP2.out.mono ?_
      intro e w4 hp
      obtain ⟨rfl, _⟩ := id hp
      have hgo := hid (hfin.out _ _ _ _ _ _ _ hc1.out hd.out hu.out hp)
      clear hp hfin
      go_wp2
      go_returns
      exact hgo.out
end Go.Proofs.Ytllkeifldfmbkaa
