/- Layer 12: Push, Pop and Remove of container/heap, over the list's heap. -/
import Derived.Test.YtllkeifldfmbkaaDueF
namespace Go.Proofs.Ytllkeifldfmbkaa
open Go.RowKit

/-- The blocks of a list's heap. -/
def Foot (lb : Nat) (av : Value) (hs : List Nd) (b : Nat) : Prop := b = lb ∨ av.ownBlock = some b ∨ b ∈ hs.map (·.b)
def HPushP (w : World) (lb : Nat) (c1 c2 c3 av : Value) (hs : List Nd) (x : Nd) (e : Ending) (w' : World) : Prop :=
  e = .returned (.tuple #[]) ∧ ∃ av', LstM w' lb c1 c2 c3 av' (pushL hs x) ∧ Chg (fun b => Foot lb av hs b ∨ b = x.b) w w' ∧ (av'.ownBlock = av.ownBlock ∨ ∃ g, av'.ownBlock = some g ∧ w.heap.size ≤ g)

theorem LstM.slice {w : World} {lb : Nat} {c1 c2 c3 av : Value} {hs : List Nd} (h : LstM w lb c1 c2 c3 av hs) {n : Nat} (hn : hs.length = n) : ∃ A c, av = .slice A n c ∧ w.cell? ⟨lb, 0, none⟩ = some (.slice A n c) := by
  obtain ⟨A, c, e, _⟩ := h.heap.av_form
  subst hn
  exact ⟨A, c, e, by rw [← e]; exact h.blk.cell 0⟩

set_option maxRecDepth 100000 in
set_option maxHeartbeats 1000000 in
theorem hpush_any (lb : Nat) (c1 c2 c3 av : Value) (hs : List Nd) (x : Nd) (p : Int) (w : World) (h : LstM w lb c1 c2 c3 av hs) (hx : Blk w x.b 101 (ndCells x p)) (hn : x.b ∉ hs.map (·.b)) (hl : hs.length ≤ 10000) :
    Calls Try.prog 39 #[face lb, .iface 99 (ptr x)] w (HPushP w lb c1 c2 c3 av hs x) := by
  have hP := npush_any lb c1 c2 c3 av hs x p w h hx hn (by omega)
  replace hP := hid hP
  have hlen := fun k W => fun A n c => meth_len k W lb (A := A) (n := n) (c := c)
  unfold face
  clear h hx hn
  go_enter Try.func39, Try.ntmps39
  go_wp2_with fail
  refine hP.out.mono ?_
  rintro e w1 ⟨rfl, av1, hL1, hc1, hav1⟩
  obtain ⟨A, c, rfl, l1⟩ := hL1.slice (n := hs.length + 1) (by simp)
  have hLn := hlen_any _ _ w1 hL1.heap
  rw [show (hs ++ [x]).length = hs.length + 1 by simp] at hLn
  have hU := up_any lb c1 c2 c3 _ (hs ++ [x]) hs.length w1 hL1 (by simp) (by simp; omega)
  unfold face at hU
  have hfin : ∀ e w', UpP w1 lb c1 c2 c3 (.slice A (hs.length + 1) c) (hs ++ [x]) hs.length e w' → HPushP w lb c1 c2 c3 av hs x e w' := by
    rintro e w' ⟨he, h2, h3⟩
    refine ⟨he, _, h2, (hc1.mono ?_).trans' h3 ?_, hav1⟩
    · rintro b (hb | hb | hb)
      · exact .inl (.inl hb)
      · exact .inr hb
      · exact .inl (.inr (.inl hb))
    · intro b hb hb2
      rcases hb2 with hb2 | hb2
      · rcases hav1 with e1 | ⟨g, e1, e2⟩
        · rw [e1] at hb2; exact .inl (.inr (.inl hb2))
        · rw [e1] at hb2; injection hb2 with hb2; omega
      · rw [List.map_append] at hb2
        rcases List.mem_append.1 hb2 with hb2 | hb2
        · exact .inl (.inr (.inr hb2))
        · simp at hb2; exact .inr hb2
  replace hLn := hid hLn
  replace hU := hid hU
  replace hfin := hid hfin
  clear hL1 hc1 hav1 hP
  have hm := fun k => hlen k w1 _ _ _ l1
  clear hlen
  go_wp2_with fail
  refine hLn.out.mono ?_
  rintro e _ ⟨rfl, rfl⟩
  go_wp2_with fail
  refine hU.out.mono ?_
  intro e w2 hu
  obtain ⟨rfl, _⟩ := id hu
  replace hfin := hid (hfin.out _ _ hu)
  clear hu
  go_wp2
  go_returns
  exact hfin.out

def HPopP (w : World) (lb : Nat) (c1 c2 c3 av : Value) (hs r : List Nd) (x : Nd) (e : Ending) (w' : World) : Prop :=
  e = .returned (.iface 99 (ptr x)) ∧ ∃ av', LstM w' lb c1 c2 c3 av' r ∧ Chg (Foot lb av hs) w w' ∧ av'.ownBlock = av.ownBlock ∧ ∃ p : Int, Blk w' x.b 101 (ndCells x p)
theorem npop_of {lb : Nat} {c1 c2 c3 av : Value} {ks : List Nd} {n : Nat} {x : Nd} {w : World} (h : LstM w lb c1 c2 c3 av ks) (hn : ks.length = n + 1) (hx : ks[n]? = some x) (hl : n ≤ 100000) :
    Calls Try.prog 118 #[.pointer (some ⟨lb, 0, none⟩)] w (PopP w lb c1 c2 c3 av (ks.take n) x) := by
  have e : ks = ks.take n ++ [x] := by
    have := List.take_append_drop n ks
    have h2 : ks.drop n = [x] := by
      rw [List.drop_eq_getElem_cons (by omega), List.drop_eq_nil_of_le (by omega)]
      rw [List.getElem?_eq_getElem (by omega)] at hx
      injection hx with hx
      rw [hx]
    rw [h2] at this
    exact this.symm
  refine npop_any lb c1 c2 c3 av (ks.take n) x w ?_ (by rw [List.length_take]; omega)
  rw [← e]; exact h

set_option maxRecDepth 100000 in
set_option maxHeartbeats 1000000 in
theorem hpop_any (lb : Nat) (c1 c2 c3 av : Value) (hs : List Nd) (n : Nat) (x : Nd) (w : World) (h : LstM w lb c1 c2 c3 av hs) (hn : hs.length = n + 1) (hx : (popL hs)[n]? = some x) (hl : n ≤ 10000) :
    Calls Try.prog 41 #[face lb] w (HPopP w lb c1 c2 c3 av hs ((popL hs).take n) x) := by
  obtain ⟨A, c, rfl, l0⟩ := h.slice hn
  have hLn := hlen_any _ _ w h.heap
  have hSw := hswap_any _ hs 0 n w h.heap (by omega) (by omega)
  rw [hn] at hLn
  have hm := fun k => meth_len k w lb l0
  have hms := fun k => meth_swap k w lb l0
  have hD : ∀ w1, HeapM w1 (.slice A (n + 1) c) (swapL hs 0 n) → Chg (fun b => (Value.slice A (n + 1) c).ownBlock = some b ∨ b ∈ hs.map (·.b)) w w1 →
      Calls Try.prog 54 #[face lb, .int .i64 ((0 : Nat) : Int), .int .i64 (n : Int)] w1 (DownP w1 lb c1 c2 c3 (.slice A (n + 1) c) (swapL hs 0 n) 0 n) := fun w1 hH hc =>
    down_any lb c1 c2 c3 _ (swapL hs 0 n) 0 n w1 (h.keep hH hc) (by omega) (by rw [swapL_len]; omega) (by rw [swapL_len]; omega)
  have hfin : ∀ w1 w2 e e2 w3, Chg (fun b => (Value.slice A (n + 1) c).ownBlock = some b ∨ b ∈ hs.map (·.b)) w w1 → DownP w1 lb c1 c2 c3 (.slice A (n + 1) c) (swapL hs 0 n) 0 n e w2 →
      PopP w2 lb c1 c2 c3 (.slice A (n + 1) c) ((popL hs).take n) x e2 w3 → HPopP w lb c1 c2 c3 (.slice A (n + 1) c) hs ((popL hs).take n) x e2 w3 := by
    rintro w1 w2 e e2 w3 k1 ⟨_, _, k2⟩ ⟨q1, av', q2, q3, q4, q5⟩
    have hmem : ∀ b, b ∈ (swapL hs 0 n).map (·.b) ↔ b ∈ hs.map (·.b) := fun b => ((swapL_perm hs 0 n).map (·.b)).mem_iff
    refine ⟨q1, av', q2, ((k1.mono (fun b hb => .inr hb)).trans (k2.mono ?_)).trans (q3.mono (fun b hb => .inl hb)), q4, q5⟩
    rintro b (hb | hb)
    · exact .inr (.inl hb)
    · exact .inr (.inr ((hmem b).1 hb))
  have hPp : ∀ w1 w2 e, DownP w1 lb c1 c2 c3 (.slice A (n + 1) c) (swapL hs 0 n) 0 n e w2 → Calls Try.prog 118 #[.pointer (some ⟨lb, 0, none⟩)] w2 (PopP w2 lb c1 c2 c3 (.slice A (n + 1) c) ((popL hs).take n) x) := by
    rintro w1 w2 e ⟨_, q2, _⟩
    have e1 : (downL (swapL hs 0 n).length (swapL hs 0 n) 0 n).1 = popL hs := by unfold popL; rw [swapL_len, hn]; rfl
    rw [e1] at q2
    refine npop_of q2 ?_ hx (by omega)
    have := ((downL_perm n (swapL hs 0 n).length (swapL hs 0 n) 0).trans (swapL_perm hs 0 n)).length_eq
    rw [e1] at this
    omega
  have hL0 := h.blk.lt
  have hnot := h.notin
  have hl1 : ∀ w1, Chg (fun b => (Value.slice A (n + 1) c).ownBlock = some b ∨ b ∈ hs.map (·.b)) w w1 → w1.cell? ⟨lb, 0, none⟩ = some (.slice A (n + 1) c) := fun w1 hc =>
    (h.blk.chg hc (fun e => by rcases e with e | e; exact hnot.1 e; exact hnot.2 e)).cell 0
  replace hLn := hid hLn
  replace hSw := hid hSw
  replace hD := hid hD
  replace hfin := hid hfin
  replace hPp := hid hPp
  replace hl1 := hid hl1
  replace hx := hid hx
  replace hn := hid hn
  clear h hnot
  unfold face at *
  go_enter Try.func41, Try.ntmps41
  go_wp2_with fail
  refine hLn.out.mono ?_
  rintro e _ ⟨rfl, rfl⟩
  go_wp2_with fail
  refine hSw.out.mono ?_
  rintro e w1 ⟨rfl, hH1, hc1⟩
  have hD1 := hid (hD.out w1 hH1 hc1)
  have l1 := hl1.out w1 hc1
  replace hc1 := hid hc1
  clear hH1 hD hSw hl1
  go_wp2_with fail
  refine hD1.out.mono ?_
  intro e w2 hd
  obtain ⟨rfl, _⟩ := id hd
  have hP2 := hid (hPp.out _ _ _ hd)
  replace hd := hid hd
  clear hPp hD1
  go_wp2_with fail
  refine hP2.out.mono ?_
  intro e w3 hp
  obtain ⟨rfl, _⟩ := id hp
  have hgo := hid (hfin.out _ _ _ _ _ hc1.out hd.out hp)
  clear hp hfin
  go_wp2
  go_returns
  exact hgo.out
end Go.Proofs.Ytllkeifldfmbkaa
