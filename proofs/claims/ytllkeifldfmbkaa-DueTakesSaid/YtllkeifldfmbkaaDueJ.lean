/- Layer 12: Stop. -/
import Derived.Test.YtllkeifldfmbkaaDueI
namespace Go.Proofs.Ytllkeifldfmbkaa
open Go.RowKit

theorem take_last {l : List Nd} {n : Nat} {x : Nd} (hl : l.length = n + 1) (hx : l[n]? = some x) : l = l.take n ++ [x] := by
  have := List.take_append_drop n l
  have h2 : l.drop n = [x] := by
    rw [List.drop_eq_getElem_cons (by omega), List.drop_eq_nil_of_le (by omega)]
    rw [List.getElem?_eq_getElem (by omega)] at hx
    injection hx with hx
    rw [hx]
  rw [h2] at this
  exact this.symm
theorem remove_rel {hs L : List Nd} {i n : Nat} {x : Nd} (hh : Heap hs hs.length) (hp : hs.Perm (x :: L)) (hn : hs.length = n + 1) (hi : hs[i]? = some x) :
    (removeL hs i)[n]? = some x ∧ Heap ((removeL hs i).take n) ((removeL hs i).take n).length ∧ ((removeL hs i).take n).Perm L := by
  obtain ⟨h1, h2, h3⟩ := removeL_heap hh (List.getElem?_eq_some_iff.1 hi).1 hi
  rw [hn, Nat.add_sub_cancel] at h1 h3
  have hl : (removeL hs i).length = n + 1 := by rw [h2.length_eq, hn]
  refine ⟨h3, ?_, ?_⟩
  · rw [List.length_take, show min n (removeL hs i).length = n by omega]
    exact heap_take h1
  · have e := take_last hl h3
    have h4 := h2.trans hp
    rw [e] at h4
    have h5 : (x :: (removeL hs i).take n).Perm (x :: L) := (List.perm_append_singleton x _).symm.trans h4
    exact h5.cons_inv
theorem pop_rel {hs L : List Nd} {n : Nat} {x : Nd} (hh : Heap hs hs.length) (hp : hs.Perm (x :: L)) (hn : hs.length = n + 1) (hi : hs[0]? = some x) :
    (popL hs)[n]? = some x ∧ Heap ((popL hs).take n) ((popL hs).take n).length ∧ ((popL hs).take n).Perm L := by
  obtain ⟨h1, h2, h3⟩ := popL_heap hh hi
  rw [hn, Nat.add_sub_cancel] at h1 h3
  have hl : (popL hs).length = n + 1 := by rw [h2.length_eq, hn]
  refine ⟨h3, ?_, ?_⟩
  · rw [List.length_take, show min n (popL hs).length = n by omega]
    exact heap_take h1
  · have e := take_last hl h3
    have h4 := h2.trans hp
    rw [e] at h4
    have h5 : (x :: (popL hs).take n).Perm (x :: L) := (List.perm_append_singleton x _).symm.trans h4
    exact h5.cons_inv

/-- A map's block is none of the list's. -/
theorem mb_far {w : World} {lb mb : Nat} {c1 c2 c3 av : Value} {hs : List Nd} {mp : List (Int × Value)} (h : LstM w lb c1 c2 c3 av hs) (hm : GMap intKey w mb mp) : ¬ Foot lb av hs mb := by
  rintro (rfl | hb | hb)
  · exact hm.ne_blk h.blk rfl
  · exact hm.own_ne h.heap.arr hb
  · obtain ⟨x, hx, e⟩ := List.mem_map.1 hb
    obtain ⟨i, hi⟩ := List.getElem?_of_mem hx
    exact hm.ne_blk (h.heap.node i x hi) e

def StopP (w : World) (F : Nat → Prop) (lb : Nat) (most now : Int) (L : List Nd) (key : Int) (e : Ending) (w' : World) : Prop :=
  e = .returned (.bool (keyL L key).isSome) ∧ ∃ F', DueS w' F' lb most now (dropL L key) ∧ (∀ b, F' b → F b ∨ w.heap.size ≤ b) ∧ Chg F w w'

/-- One is taken out of the heap, and out of the map. -/
theorem take_out {w w1 w2 : World} {F : Nat → Prop} {lb mb n : Nat} {most now : Int} {L r : List Nd} {av av' : Value} {hs : List Nd} {mp : List (Int × Value)} {x : Nd} (hL1 : LstM w lb (.map (some mb)) (.int .i64 most) (.int .i64 now) av hs)
    (hM : GMap intKey w mb mp) (hk : ∀ k, mget mp k = (keyL L k).map ptr) (hml : mp.length = L.length) (hF : ∀ b, F b ↔ Foot lb av hs b ∨ b = mb) (hsrt : L.Pairwise Nd.lt) (hkn : (L.map (·.key)).Nodup) (hok : ∀ x ∈ L, x.set ≤ now ∧ 0 ≤ x.key ∧ 0 ≤ x.at_)
    (hx : keyL L x.key = some x) (hn : L.length = n + 1) (hh : Heap r r.length) (hr : r.Perm (dropL L x.key)) (hL2 : LstM w1 lb (.map (some mb)) (.int .i64 most) (.int .i64 now) av' r) (k1 : Chg (Foot lb av hs) w w1) (hav : av'.ownBlock = av.ownBlock) (hsub : ∀ y ∈ r, y ∈ hs)
    (hM2 : GMap intKey w2 mb (mdel mp x.key)) (k2 : Chg (fun b => b = mb) w1 w2) : ∃ F', DueS w2 F' lb most now (dropL L x.key) ∧ (∀ b, F' b → F b ∨ w.heap.size ≤ b) ∧ Chg F w w2 := by
  have hM1 : GMap intKey w1 mb mp := hM.chg k1 (mb_far hL1 hM)
  have hfar := mb_far hL2 hM1
  have hlen : (dropL L x.key).length = n := by
    have := (dropL_perm hkn hx).length_eq
    simp at this; omega
  refine ⟨fun b => Foot lb av' r b ∨ b = mb, ⟨⟨av', mb, mdel mp x.key, r, hL2.chg k2 (fun b hb e => hfar (e ▸ hb)), hM2, hh, hr, fun k => ?_, ?_, fun b => Iff.rfl⟩, dropL_sorted hsrt _, ?_, fun y hy => hok y (dropL_mem hy).1⟩, fun b hb => .inl ((hF b).2 ?_), ?_⟩
  · rw [mget_mdel, keyL_drop, hk]
    split <;> rfl
  · have := mdel_len hM.nodup (k := x.key) (by rw [hk, hx]; rfl)
    omega
  · exact hkn.sublist ((List.filter_sublist).map _)
  · rcases hb with (hb | hb | hb) | hb
    · exact .inl (.inl hb)
    · rw [hav] at hb; exact .inl (.inr (.inl hb))
    · obtain ⟨y, hy, rfl⟩ := List.mem_map.1 hb
      exact .inl (.inr (.inr (List.mem_map.2 ⟨y, hsub y hy, rfl⟩)))
    · exact .inr hb
  · exact (k1.mono (fun b hb => (hF b).2 (.inl hb))).trans (k2.mono (fun b hb => (hF b).2 (.inr hb)))

set_option maxRecDepth 100000 in
set_option maxHeartbeats 1000000 in
theorem dstop_any (F : Nat → Prop) (lb : Nat) (most now : Int) (L : List Nd) (key : Int) (w : World) (h : DueS w F lb most now L) (hl : L.length ≤ 10000) :
    Calls Try.prog 21 #[.pointer (some ⟨lb, 0, none⟩), .int .i64 key] w (StopP w F lb most now L key) := by
  obtain ⟨⟨av, mb, mp, hs, h1, h2, h3, h4, h5, h6, h7⟩, hsrt, hkn, hok⟩ := id h
  have l1 : w.cell? ⟨lb, 1, none⟩ = some (.map (some mb)) := h1.blk.cell 1
  have hlk := due_look h2 h5 key
  cases hk : keyL L key with
  | none =>
    have hfin : StopP w F lb most now L key (.returned (.bool false)) w := ⟨by rw [hk]; rfl, F, by rw [dropL_none hk]; exact h, fun b hb => .inl hb, Chg.refl _ _⟩
    rw [hk] at hlk
    unfold ptrO at hlk
    simp only [] at hlk
    replace hfin := hid hfin
    clear h h1 h2 h3 h4 h5 h6 h7 hk hsrt hkn hok
    go_enter Try.func21, Try.ntmps21
    go_wp2
    go_returns
    exact hfin.out
  | some x =>
    obtain ⟨hxL, hxk⟩ := keyL_mem hk
    have hk' : keyL L x.key = some x := by rw [hxk]; exact hk
    obtain ⟨i, hi⟩ := List.getElem?_of_mem (h4.mem_iff.2 hxL)
    have hil := (List.getElem?_eq_some_iff.1 hi).1
    have x3 : w.cell? ⟨x.b, 3, none⟩ = some (.int .i64 (i : Int)) := (h1.heap.node i x hi).cell 3
    obtain ⟨n, hn⟩ : ∃ n, hs.length = n + 1 := ⟨hs.length - 1, by omega⟩
    obtain ⟨q1, q2, q3⟩ := remove_rel (L := dropL L x.key) h3 (h4.trans (dropL_perm hkn hk')) hn hi
    have hR := fun W (hW : Below w.heap.size w W) => hremove_any lb _ _ _ av hs n i x W (h1.next hW) hn hil q1 (by have := h4.length_eq; omega)
    have hsub : ∀ y ∈ (removeL hs i).take n, y ∈ hs := fun y hy => (removeL_heap h3 hil hi).2.1.mem_iff.1 (List.mem_of_mem_take hy)
    have hfin : ∀ W w1 w2 e, Below w.heap.size w W → HPopP W lb (.map (some mb)) (.int .i64 most) (.int .i64 now) av hs ((removeL hs i).take n) x e w1 → GMap intKey w2 mb (mdel mp key) → Chg (fun b => b = mb) w1 w2 → StopP w F lb most now L key (.returned (.bool true)) w2 := by
      rintro W w1 w2 e hW ⟨_, av', r1, r2, r3, _⟩ hM2 k2
      rw [← hxk] at hM2
      obtain ⟨F', g1, g2, g3⟩ := take_out (n := n) (h1.next hW) (h2.next hW) h5 h6 h7 hsrt hkn hok hk' (by rw [← h4.length_eq, hn]) q2 q3 r1 r2 r3 hsub hM2 k2
      refine ⟨by rw [hk]; rfl, F', by rw [← hxk]; exact g1, fun b hb => ?_, (Chg.of_below hW).trans g3⟩
      rcases g2 b hb with g | g
      · exact .inl g
      · exact .inr (Nat.le_trans hW.size g)
    have hl1 : ∀ W w1 e, Below w.heap.size w W → HPopP W lb (.map (some mb)) (.int .i64 most) (.int .i64 now) av hs ((removeL hs i).take n) x e w1 → e = .returned (.iface 99 (ptr x)) ∧ w1.cell? ⟨lb, 1, none⟩ = some (.map (some mb)) ∧ GMap intKey w1 mb mp := by
      rintro W w1 e hW ⟨r0, av', r1, r2, r3, _⟩
      exact ⟨r0, r1.blk.cell 1, (h2.next hW).chg r2 (mb_far (h1.next hW) (h2.next hW))⟩
    rw [hk] at hlk
    unfold ptrO at hlk
    simp only [] at hlk
    obtain ⟨xb, xk, xa, xs⟩ := x
    simp only [] at *
    replace hfin := hid hfin
    replace hl1 := hid hl1
    replace hR := hid hR
    unfold face at hR
    clear h h1 h2 h3 h4 h5 h6 h7 hk hsrt hkn hok hxL hxk hk' hi hil q1 q2 q3 hsub hn
    go_enter Try.func21, Try.ntmps21
    go_wp2_with fail
    go_region_with (go_at_call 40; refine (hR.out _ (by go_grown)).mono ?_; intro e w1 hp; obtain ⟨rfl, m1, hM1⟩ := hl1.out _ _ _ (by go_grown) hp; replace hp := hid hp; replace hM1 := hid hM1)
    go_wp2_with (at_delete; (refine wpList_delete_g rfl _ _ rfl dueKeys Try.underlying94 rfl hM1.out key rfl ?_); intro w2 hM2 k2; have hgo := hid (hfin.out w.drew w1 w2 _ (by go_grown) hp.out hM2 k2); clear hM2 k2)
    go_returns
    exact hgo.out
end Go.Proofs.Ytllkeifldfmbkaa
