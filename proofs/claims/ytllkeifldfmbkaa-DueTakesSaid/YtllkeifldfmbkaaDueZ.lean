/- Layer 12: All. -/
import Derived.Test.YtllkeifldfmbkaaDueY
namespace Go.Proofs.Ytllkeifldfmbkaa
open Go.RowKit Go.Shelf

theorem dv_collect (hs : List Nd) (g : Nat) (lb : Array Value) (eg : ∀ args w, (callFunc g args).run Try.prog w = .ok (.enter g args) w) (hl : hs.length ≤ 100000) (w : World) (hseq : SeqN Fence.wide 3 g lb hs w) :
    Calls Try.prog 55 #[.func (.func g) #[] lb] w fun e w' => ∃ v, e = .returned v ∧ w'.ownsRow w.heap.size 99 1 v hs.length (hs.map ptr) ∧ Below w.heap.size w w' :=
  (callsIn_wide (n := 5)).1 (dv_collect_in Fence.wide 5 trivial trivial rfl (by omega) g lb trivial eg hs hl w hseq)
set_option maxHeartbeats 400000 in
theorem values_any (A : Option Addr) (n c : Nat) (w : World) :
    Calls Try.prog 43 #[.slice A n c] w fun e w' => e = .returned (.func (.func 57) #[] #[.pointer (some ⟨w.heap.size, 0, none⟩)]) ∧ w' = w.alloc (.cells #[.slice A n c] 96) := by
  go_enter Try.func43, Try.ntmps43
  go_wp2
  go_returns
  exact ⟨rfl, rfl⟩
theorem dv_sort_nil (p : Option Addr) (cap : Nat) (fv : Value) (w : World) :
    Calls Try.prog 56 #[.slice p 0 cap, fv] w fun e w' => e = .returned (.tuple #[]) ∧ w' = w :=
  AnyF.slices_SortFunc_none (ρ := Try.sortN_ren) { Try.sortN with } p cap fv w
set_option maxRecDepth 100000 in
set_option maxHeartbeats 1000000 in
theorem dv_sorted (hs L : List Nd) (g : Nat) (lb : Array Value) (eg : ∀ args w, (callFunc g args).run Try.prog w = .ok (.enter g args) w) (hl : hs.length ≤ 100000) (w : World) (hseq : SeqN Fence.wide 3 g lb hs w) (hnode : ∀ x ∈ hs, ∃ p : Int, Blk w x.b 101 (ndCells x p))
    (hp : hs.Perm L) (hL : L.Pairwise Nd.lt) :
    Calls Try.prog 42 #[.func (.func g) #[] lb, .func (.func 44) #[] #[]] w fun e w' => ∃ v, e = .returned v ∧ w'.ownsRow w.heap.size 99 1 v L.length (L.map ptr) ∧ Below w.heap.size w w' := by
  have hC := dv_collect hs g lb eg hl w hseq
  have hS : ∀ w1 v, w1.ownsRow w.heap.size 99 1 v hs.length (hs.map ptr) → Below w.heap.size w w1 → Calls Try.prog 56 #[v, .func (.func 44) #[] #[]] w1 fun e w' => e = .returned (.tuple #[]) ∧ w'.ownsRow w.heap.size 99 1 v L.length (L.map ptr) ∧ Below w.heap.size w w' := by
    intro w1 v hO hb
    have hll := hp.length_eq
    by_cases hne : hs = []
    · subst hne
      have hLn : L = [] := hp.symm.eq_nil
      subst hLn
      obtain ⟨A, c, rfl⟩ := own_form hO
      refine (dv_sort_nil A c _ w1).mono ?_
      rintro e w' ⟨rfl, rfl⟩
      exact ⟨rfl, hO, hb⟩
    · rcases hO.2 with ⟨_, h0⟩ | ⟨blk, cap, cur, rfl, hbb, _⟩
      · exact absurd (List.eq_nil_of_length_eq_zero h0) hne
      · refine (dv_sort hs L blk cap w.heap.size w1 hO (fun x hx => by obtain ⟨p, hB⟩ := hnode x hx; exact ⟨p, hB.next hb⟩) hp hL hne hl).mono ?_
        rintro e w' ⟨rfl, h1, h2⟩
        exact ⟨rfl, by rw [← hll]; exact h1, Below.grown hb h2 hb.size (fun k hk => by injection hk with hk; omega)⟩
  replace hC := hid hC
  replace hS := hid hS
  clear hseq hnode hp hL eg
  go_enter Try.func42, Try.ntmps42
  go_wp2_with fail
  refine hC.out.mono ?_
  rintro e w1 ⟨v, rfl, hO, hb⟩
  have hS1 := hid (hS.out w1 v hO hb)
  clear hO hb hS
  go_wp2_with fail
  refine hS1.out.mono ?_
  rintro e w2 ⟨rfl, h1, h2⟩
  replace h1 := hid h1
  go_wp2
  go_returns
  exact ⟨_, rfl, h1.out, h2⟩

theorem ownsRow_base_le {w : World} {base base' : Nat} {e : TypeId} {size n : Nat} {v : Value} {xs : List Value} (h : w.ownsRow base e size v n xs) (hb : base' ≤ base) : w.ownsRow base' e size v n xs := by
  refine ⟨h.1, ?_⟩
  rcases h.2 with h1 | ⟨g, cap, cur, h1, h2, h3⟩
  · exact .inl h1
  · exact .inr ⟨g, cap, cur, h1, Nat.le_trans hb h2, h3⟩
def AllP (w : World) (L : List Nd) (e : Ending) (w' : World) : Prop := ∃ v, e = .returned v ∧ w'.ownsRow w.heap.size 72 2 v L.length (L.flatMap dueCells) ∧ Below w.heap.size w w'
set_option maxRecDepth 100000 in
set_option maxHeartbeats 2000000 in
theorem dall_any (F : Nat → Prop) (lb : Nat) (most now : Int) (L : List Nd) (w : World) (h : DueS w F lb most now L) (hl : L.length ≤ 5000) :
    Calls Try.prog 29 #[.pointer (some ⟨lb, 0, none⟩)] w (AllP w L) := by
  obtain ⟨i0, hi0, hz0, hz1, hz2⟩ := info_parts info_due
  obtain ⟨⟨av, mb, mp, hs, h1, hM, hh, hp, hk, hml, hF1⟩, hsrt, hkn, hok⟩ := h
  obtain ⟨A, c, rfl, l0⟩ := h1.slice rfl
  have hll := hp.length_eq
  have eg : ∀ args w, (callFunc 57 args).run Try.prog w = .ok (.enter 57 args) w := enters_of Try.func57 (by kernel_rfl) rfl
  have hb0 : Below w.heap.size w (w.alloc (.cells #[.slice A hs.length c] 96)) := (Below.refl _ w).alloc (Nat.le_refl _) _
  have hSq := values_seq Fence.wide 3 trivial rfl (by omega) w.heap.size (.slice A hs.length c) hs (w.alloc (.cells #[.slice A hs.length c] 96)) (by simp) (by simp) (h1.heap.next hb0)
  have hnode : ∀ x ∈ hs, ∃ p : Int, Blk w x.b 101 (ndCells x p) := fun x hx => by
    obtain ⟨i, hi⟩ := List.getElem?_of_mem hx
    exact ⟨_, h1.heap.node i x hi⟩
  have hSo := dv_sorted hs L _ _ eg (by omega) _ hSq (fun x hx => by obtain ⟨p, hB⟩ := hnode x hx; exact ⟨p, hB.next hb0⟩) hp hsrt
  have hnodeL : ∀ W, Below w.heap.size w W → ∀ (k : Nat) (x : Nd), L[k]? = some x → W.cell? ⟨x.b, 0, none⟩ = some (.int .i64 x.key) ∧ W.cell? ⟨x.b, 1, none⟩ = some (.int .i64 x.at_) := fun W hW k x hx => by
    obtain ⟨p, hB⟩ := hnode x (hp.mem_iff.2 (List.mem_of_getElem? hx))
    exact ⟨(hB.next hW).cell 0, (hB.next hW).cell 1⟩
  rw [World.size_alloc] at hSo
  replace hSo := hid hSo
  replace hnodeL := hid hnodeL
  have hVal := fun W => values_any A hs.length c W
  clear h1 hM hh hp hk hml hF1 hsrt hkn hok hSq hnode eg hll
  go_enter Try.func29, Try.ntmps29
  go_wp2_with fail
  refine (hVal _).mono ?_
  rintro e _ ⟨rfl, rfl⟩
  go_wp2_with fail
  refine hSo.out.mono ?_
  rintro e w1 ⟨v, rfl, hO, hb1⟩
  have hbw : Below w.heap.size w w1 := hb0.trans (hb1.mono (by omega))
  obtain ⟨A2, c2, rfl⟩ := own_form hO
  have hO2 := Rd.of_own (S := fun _ => True) hO (fun _ _ _ => trivial)
  replace hO2 := hid hO2
  replace hbw := hid hbw
  clear hO hb1 hSo hVal hb0
  go_wp2_with fail
  go_loopg [3, 13] L.length (fun n ov ix wr => ∃ k : Nat, k ≤ L.length ∧ n = L.length - k ∧ ix = .int .i64 k ∧ wr.ownsRow w1.heap.size 72 2 ov k ((L.take k).flatMap dueCells) ∧ Below w1.heap.size w1 wr)
  case atStart => exact ⟨0, Nat.zero_le _, by omega, rfl, World.ownsRow_nil _ _ _ _, Below.refl _ _⟩
  case round =>
    obtain ⟨k, hk, rfl, rfl, hO, hb⟩ := hrel
    by_cases hlt : k < L.length
    · obtain ⟨x, hx⟩ : ∃ x, L[k]? = some x := ⟨_, List.getElem?_eq_getElem hlt⟩
      obtain ⟨x0, x1⟩ := hnodeL.out wr (hbw.out.next hb) k x hx
      obtain ⟨b, o, rfl, hbl, _, hc⟩ := (hO2.out.below hb).at_ hlt
      have c0 : wr.cell? ⟨b, o + k, none⟩ = some (.pointer (some ⟨x.b, 0, none⟩)) := by
        have := hc 0 (by omega)
        rw [Nat.mul_one, Nat.add_zero, List.getElem?_map, hx] at this
        exact this
      have hst : (L.take (k + 1)).flatMap dueCells = (L.take k).flatMap dueCells ++ [Value.int .i64 x.key, Value.int .i64 x.at_] := by rw [List.take_add_one, hx]; simp [dueCells]
      have hsz := hb.size
      obtain ⟨xb, xk, xa, xs⟩ := x
      simp only [] at x0 x1 c0 hst
      replace hO := hid hO
      replace hb := hid hb
      replace hst := hid hst
      clear hx hc
      go_wp2_with (at_builtin; (refine wpList_append_rd2 _ rfl (.tmp 17) (.tmp 22) _ rfl w1.heap.size 72 i0 _ 2 16 Try.underlying61 hi0 hz0 hz1 hz2 rfl (by omega) u3 k ((L.take k).flatMap dueCells) rfl (hO.out.alloc _) (fun _ => True) (some ⟨wr.heap.size, 0, none⟩) 1 1 [.int .i64 xk, .int .i64 xa] rfl (Rd.new wr _ _ 1 2 rfl trivial) (by simp [Value.oneCell']) (by simp only [maxLen]; omega) (by omega) (by simp; omega) ?_); intro ov' w4 O4 hg4 _)
      have hb4 := hid (Below.grown (hb.out.alloc hb.out.size _) hg4 (by simp; omega) (fun r hr' => (hO.out.lt r hr').1))
      clear hg4
      go_roundg (L.length - (k + 1))
      case rel => exact ⟨k + 1, by omega, rfl, by go_num, by rw [hst.out]; exact O4, hb4.out⟩
      case measure => omega
    · obtain rfl : k = L.length := by omega
      rw [List.take_length] at hO
      have hfin : AllP w L (.returned u3) wr := ⟨u3, rfl, ownsRow_base_le hO hbw.out.size, hbw.out.next hb⟩
      replace hfin := hid hfin
      clear hO hb
      go_wp2
      go_returns
      exact hfin.out
end Go.Proofs.Ytllkeifldfmbkaa
