/- Layer 12: the law DueSteps, walked. -/
import Derived.Test.YtllkeifldfmbkaaDueSS
namespace Go.Proofs.Ytllkeifldfmbkaa
open Go.RowKit

theorem mem1 {α : Type} {a : α} {l : List α} : a ∈ a :: l := List.mem_cons_self
theorem mem2 {α : Type} {a b : α} {l : List α} : a ∈ b :: a :: l := List.mem_cons_of_mem _ mem1
theorem mem3 {α : Type} {a b c : α} {l : List α} : a ∈ c :: b :: a :: l := List.mem_cons_of_mem _ mem2
/-- Set, behind a new block. -/
theorem ss_set_at {w W : World} {lx ly : Nat} {nx ny : Int} {Tx Ty : List Tr} {rows : List RowT} (h : SS w W lx ly nx ny Tx Ty rows) (hl : Tx.length ≤ 5000) (h0 : 0 ≤ nx) (h1 : nx ≤ 1000000) (key at_ : Int) (o : Obj) :
    Calls Try.prog 19 #[.pointer (some ⟨lx, 0, none⟩), .int .i64 key, .int .i64 at_] (W.alloc o) fun e w' => e = .returned (.int .i64 (setT 1000 nx Tx key at_).1) ∧ SS w w' lx ly (setT 1000 nx Tx key at_).2.1 ny (setT 1000 nx Tx key at_).2.2 Ty rows ∧
      ∀ t cs, Blk (W.alloc o) W.heap.size t cs → Blk w' W.heap.size t cs := by
  have k := (Below.refl W.heap.size W).alloc (Nat.le_refl _) o
  obtain ⟨Fx, Fy, g1, g2, g3, g4, g5, g6, g7⟩ := h
  refine (tset_any Fx lx 1000 nx Tx key at_ (W.alloc o) (g1.next k) hl h0 h1).mono ?_
  rintro e w' ⟨F', rfl, q1, q2, q3⟩
  obtain ⟨r1, r2, r3, r4, r5⟩ := SS.op (g2.next k) g3 g4 (g6.next k) (fun p hp => ⟨own_chg (g7 p hp).1 (Chg.of_below (F := fun _ => False) k) (fun _ _ => id), (g7 p hp).2⟩) q1 q2 q3
  exact ⟨rfl, ⟨F', Fy, q1, r1, r2, r3, g5, r4, r5⟩, fun t cs hB => hB.chg q3 (fun hF => by have := g1.lt _ hF; omega)⟩

set_option maxRecDepth 100000 in
set_option maxHeartbeats 8000000 in
theorem steps12_any (S : Nat → Prop) (v : Value) (l : List Tr) (f s : Int) (w : World) (h : Acts12 w S v l) :
    Calls Try.prog 7 #[v, .int .i64 f, .int .i64 s] w fun e w' => e = .returned (.bool true) ∧ Below w.heap.size w w' := by
  obtain ⟨i0, hi0, hz0, hz1, hz2⟩ := info_parts info_due
  obtain ⟨A, c, rfl, hc, hm, hr⟩ := h
  have hm1 := hm; unfold maxLen at hm1
  replace hr := hid hr
  have hA := fun W => awake12_any W
  replace hA := hid hA
  go_enter Try.func7, Try.ntmps7
  go_wp2_with fail
  refine (hA.out _).mono ?_
  rintro e w1 ⟨rfl, hb1⟩
  replace hb1 := hid hb1
  clear hA
  by_cases hlen : 100 < l.length
  · go_wp2
    go_returns
    exact ⟨rfl, hb1.out⟩
  by_cases hfs : s < f
  · go_wp2
    go_returns
    exact ⟨rfl, hb1.out⟩
  have hN := fun W => tnew_ok 1000 W (by decide) (by decide)
  replace hN := hid hN
  go_wp2_with fail
  refine (hN.out _).mono ?_
  rintro e w2 ⟨lx, Fx, rfl, hDx, hFx, hb2⟩
  replace hDx := hid hDx
  replace hFx := hid hFx
  replace hb2 := hid hb2
  go_wp2_with fail
  refine (hN.out _).mono ?_
  rintro e w3 ⟨ly, Fy, rfl, hDy, hFy, hb3⟩
  have hS : Hid (SS w w3 lx ly 0 0 [] [] []) := hid ⟨Fx, Fy, hDx.out.next hb3, hDy, fun b hx hy => by have := hDx.out.lt b hx; have := hFy b hy; omega, fun b hb => Nat.le_trans hb1.out.size (hFx.out b hb), fun b hb => by have := hFy b hb; have := hb2.out.size; have := hb1.out.size; omega, (hb1.out.next hb2.out).next hb3, by simp⟩
  clear hN hDx hFx hb1 hb2 hb3 hDy hFy
  go_wp2_with fail
  go_loopg [40] l.length (fun n ix wr => ∃ (k : Nat) (now : Int) (T : List Tr), k ≤ l.length ∧ n = l.length - k ∧ ix = .int .i64 k ∧ T.length ≤ k ∧ 0 ≤ now ∧ now ≤ k ∧ SS w wr lx ly now now T T [])
  case atStart => exact ⟨0, 0, [], Nat.zero_le _, by omega, rfl, by simp, by omega, by omega, hS.out⟩
  case round =>
    clear hS
    obtain ⟨k, now, T, hk, rfl, rfl, hT, hn0, hn1, hss⟩ := hrel
    replace hss := hid hss
    by_cases hlt : k < l.length
    · obtain ⟨x, hx⟩ : ∃ x, l[k]? = some x := ⟨_, List.getElem?_eq_getElem hlt⟩
      obtain ⟨b, o, rfl, hbl, c0, c1, c2⟩ := (hr.out.below hss.out.below).act12 hx
      obtain ⟨d, key, at_⟩ := x
      simp only [] at c0 c1 c2
      clear hx
      by_cases h0 : d = 0
      · subst h0
        go_wp2_with fail
        refine (ss_set_at hss.out (by omega) hn0 (by omega) key at_ _).mono ?_
        rintro e w5 ⟨rfl, h5, hB⟩
        have hB5 := hB _ _ (Blk.new wr 55 [.int .i64 0, .int .i64 key, .int .i64 at_])
        have x1 : w5.cell? ⟨wr.heap.size, 1, none⟩ = some (.int .i64 key) := hB5.cell 1
        have x2 : w5.cell? ⟨wr.heap.size, 2, none⟩ = some (.int .i64 at_) := hB5.cell 2
        clear hB c0 c1 c2 hbl
        replace h5 := hid h5
        go_wp2_with fail
        refine (ss_set h5.out.swap (by omega) hn0 (by omega) key at_).mono ?_
        rintro e w6 ⟨rfl, h6⟩
        have h7 := setT_len 1000 now T key at_
        have h6' := hid h6.swap
        clear h6 h5 hss
        go_wp2_with fail
        go_roundg (l.length - (k + 1))
        case rel => exact ⟨k + 1, _, _, by omega, rfl, by go_num, by omega, by omega, by omega, h6'.out⟩
        case measure => omega
      · go_wp2_with fail
        go_roundg (l.length - (k + 1))
        case rel => exact ⟨k + 1, now, T, by omega, rfl, by go_num, by omega, by omega, by omega, hss.out.next ((Below.refl _ _).alloc (Nat.le_refl _) _)⟩
        case measure => omega
    · clear hr
      go_wp2_with fail
      refine (ss_take hss.out (by omega) f).mono ?_
      rintro e w5 ⟨A1, c1, rfl, h5, _⟩
      replace h5 := hid h5
      go_wp2_with fail
      have hl1 := restT_len T f
      refine (ss_take h5.out (by omega) s).mono ?_
      rintro e w6 ⟨A2, c2, rfl, h6, _⟩
      replace h6 := hid h6
      have hr2 : Rd w6 (fun _ => True) 2 A2 (kaT (takeT (restT T f) s)).length ((kaT (takeT (restT T f) s)).flatMap ka) := by
        obtain ⟨Fx, Fy, _, _, _, _, _, _, g7⟩ := h6.out
        exact Rd.of_own (g7 (.slice A2 (kaT (takeT (restT T f) s)).length c2, kaT (takeT (restT T f) s), 72) (by simp)).1 (fun _ _ _ => trivial)
      have ho1 : w6.ownsRow w.heap.size 72 2 (.slice A1 (kaT (takeT T f)).length c1) (kaT (takeT T f)).length ((kaT (takeT T f)).flatMap ka) := by
        obtain ⟨Fx, Fy, _, _, _, _, _, _, g7⟩ := h6.out
        exact (g7 (.slice A1 (kaT (takeT T f)).length c1, kaT (takeT T f), 72) (by simp)).1
      have hw6 : w.heap.size ≤ w6.heap.size := h6.out.below.size
      have hl2 := takeT_len T f
      have hl3 := takeT_len (restT T f) s
      have hl4 := restT_len (restT T f) s
      have hone := ka_one (kaT (takeT (restT T f) s))
      obtain ⟨l1, hl1e⟩ : ∃ l1, kaT (takeT T f) = l1 := ⟨_, rfl⟩
      obtain ⟨l2, hl2e⟩ : ∃ l2, kaT (takeT (restT T f) s) = l2 := ⟨_, rfl⟩
      rw [hl1e] at h6 ho1 hl2 ⊢
      rw [hl2e] at h6 hr2 hone hl3 ⊢
      replace hr2 := hid hr2
      replace ho1 := hid ho1
      replace hone := hid hone
      go_wp2_with (at_builtin; (refine wpList_append_rd2 _ rfl (.tmp 63) (.tmp 66) _ rfl w.heap.size 72 i0 _ 2 16 Try.underlying61 hi0 hz0 hz1 hz2 rfl (by omega) (.slice A1 l1.length c1) l1.length (l1.flatMap ka) rfl ho1.out (fun _ => True) A2 l2.length c2 (l2.flatMap ka) rfl hr2.out hone.out (by simp only [maxLen]; omega) (by omega) hw6 ?_); intro pv w7 O7 hg7 hloc7)
      have h8 := ss_append h6.out (v := .slice A1 l1.length c1) (l := l1) (l' := l2) (by simp) O7 hg7 hloc7
      have hst := take_steps (kaT T) f s (by omega)
      rw [← kaT_take, ← kaT_take, ← kaT_rest, ← kaT_take, ← kaT_rest, ← kaT_rest, hl1e, hl2e] at hst
      obtain ⟨hst1, hst2⟩ := hst
      have hlen8 : (l1 ++ l2).length ≤ 10000 := by rw [List.length_append]; omega
      obtain ⟨l3, hl3e⟩ : ∃ l3, l1 ++ l2 = l3 := ⟨_, rfl⟩
      rw [hl3e] at h8 hst1 hlen8
      replace h8 := hid h8
      replace hst1 := hid hst1
      replace hst2 := hid hst2
      clear h6 h5 hss hr2 ho1 hone O7 hg7 hloc7
      go_wp2_with fail
      refine (ss_own h8.out (v := pv) (l := l3) mem1 hlen8).mono ?_
      rintro e w8 ⟨A3, c3, rfl, h9⟩
      clear h8
      replace h9 := hid h9.swap
      go_wp2_with fail
      refine (ss_take h9.out (by omega) s).mono ?_
      rintro e w9 ⟨A4, c4, rfl, h10, _⟩
      clear h9
      replace h10 := hid h10
      have hl5 := takeT_len T s
      go_wp2_with fail
      refine (ss_own h10.out (v := .slice A4 (kaT (takeT T s)).length c4) (l := kaT (takeT T s)) mem1 (by omega)).mono ?_
      rintro e w10 ⟨A5, c5, rfl, h11⟩
      clear h10
      replace h11 := hid h11
      go_wp2_with fail
      refine (ss_same h11.out (u := .slice A3 l3.length c3) (v := .slice A5 (kaT (takeT T s)).length c5) (a := l3) (b := kaT (takeT T s)) mem3 mem1).mono ?_
      rintro e w11 ⟨rfl, h12⟩
      rw [show sameB l3 (kaT (takeT T s)) = true by rw [hst1.out]; exact sameB_self _]
      clear h11
      replace h12 := hid h12.swap
      go_wp2_with fail
      refine (ss_all h12.out (by omega)).mono ?_
      rintro e w12 ⟨A6, c6, rfl, h13⟩
      clear h12
      replace h13 := hid h13
      have hl6 : (kaT (restT (restT T f) s)).length ≤ (restT (restT T f) s).length := by unfold kaT; rw [List.length_map]; exact Nat.le_refl _
      have hl7 := restT_len T s
      go_wp2_with fail
      refine (ss_own h13.out (v := .slice A6 (kaT (restT (restT T f) s)).length c6) (l := kaT (restT (restT T f) s)) mem1 (by omega)).mono ?_
      rintro e w13 ⟨A7, c7, rfl, h14⟩
      clear h13
      replace h14 := hid h14.swap
      go_wp2_with fail
      refine (ss_all h14.out (by omega)).mono ?_
      rintro e w14 ⟨A8, c8, rfl, h15⟩
      clear h14
      replace h15 := hid h15
      have hl8 : (kaT (restT T s)).length ≤ (restT T s).length := by unfold kaT; rw [List.length_map]; exact Nat.le_refl _
      go_wp2_with fail
      refine (ss_own h15.out (v := .slice A8 (kaT (restT T s)).length c8) (l := kaT (restT T s)) mem1 (by omega)).mono ?_
      rintro e w15 ⟨A9, c9, rfl, h16⟩
      clear h15
      replace h16 := hid h16
      go_wp2_with fail
      refine (ss_same h16.out (u := .slice A7 (kaT (restT (restT T f) s)).length c7) (v := .slice A9 (kaT (restT T s)).length c9) (a := kaT (restT (restT T f) s)) (b := kaT (restT T s)) mem3 mem1).mono ?_
      rintro e w16 ⟨rfl, h17⟩
      rw [show sameB (kaT (restT (restT T f) s)) (kaT (restT T s)) = true by rw [hst2.out]; exact sameB_self _]
      go_wp2_with fail
      go_returns
      exact ⟨rfl, h17.below⟩
end Go.Proofs.Ytllkeifldfmbkaa
