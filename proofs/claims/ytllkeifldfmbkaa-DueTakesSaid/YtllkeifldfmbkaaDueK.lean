/- Layer 12: Set. -/
import Derived.Test.YtllkeifldfmbkaaDueJ
namespace Go.Proofs.Ytllkeifldfmbkaa
open Go.RowKit

set_option maxHeartbeats 400000 in
theorem dset_arg (F : Nat → Prop) (lb : Nat) (most now : Int) (L : List Nd) (key at_ : Int) (w : World) (h : DueS w F lb most now L) (hb : key < 0 ∨ at_ < 0) :
    Calls Try.prog 19 #[.pointer (some ⟨lb, 0, none⟩), .int .i64 key, .int .i64 at_] w fun e w' => e = .returned (.int .i64 1) ∧ w = w' := by
  obtain ⟨⟨av, mb, mp, hs, h1, h2, h3, h4, h5, h6, h7⟩, hsrt, hkn, hok⟩ := h
  have l1 : w.cell? ⟨lb, 1, none⟩ = some (.map (some mb)) := h1.blk.cell 1
  have hlk := due_look h2 h5 key
  clear h1 h2 h3 h4 h5 h6 h7 hsrt hkn hok
  obtain ⟨o, ho⟩ : ∃ o, o = ptrO (keyL L key) := ⟨_, rfl⟩
  rw [← ho] at hlk
  clear ho
  by_cases hk : key < 0
  · go_enter Try.func19, Try.ntmps19
    go_wp2
    go_returns
    exact ⟨rfl, rfl⟩
  · have ha : at_ < 0 := by omega
    clear hb
    go_enter Try.func19, Try.ntmps19
    go_wp2
    go_returns
    exact ⟨rfl, rfl⟩
set_option maxRecDepth 100000 in
set_option maxHeartbeats 400000 in
theorem dset_full (F : Nat → Prop) (lb : Nat) (most now : Int) (L : List Nd) (key at_ : Int) (w : World) (h : DueS w F lb most now L) (hk : 0 ≤ key) (ha : 0 ≤ at_) (hn : keyL L key = none) (hl : (L.length : Int) = most) :
    Calls Try.prog 19 #[.pointer (some ⟨lb, 0, none⟩), .int .i64 key, .int .i64 at_] w fun e w' => e = .returned (.int .i64 7) ∧ Below w.heap.size w w' := by
  obtain ⟨⟨av, mb, mp, hs, h1, h2, h3, h4, h5, h6, h7⟩, hsrt, hkn, hok⟩ := h
  have l1 : w.cell? ⟨lb, 1, none⟩ = some (.map (some mb)) := h1.blk.cell 1
  have l2 : w.cell? ⟨lb, 2, none⟩ = some (.int .i64 most) := h1.blk.cell 2
  have hlk := due_look h2 h5 key
  rw [hn] at hlk
  unfold ptrO at hlk
  simp only [] at hlk
  have hlen : ∀ n, (Builtin.len_ #[94] 3 #[.map (some mb)]).run Try.prog (w.drewN n) = .ok (.int .i64 most) (w.drewN n) := by
    intro n
    have := GMap.len (P := Try.prog) (h2.drewN n) Try.underlying94 3
    rw [h6, hl] at this
    exact this
  clear h1 h2 h3 h4 h5 h6 h7 hsrt hkn hok hn hl
  go_enter Try.func19, Try.ntmps19
  go_wp2_with fail
  go_quiet (fail)
  go_wp2
  go_returns
  exact ⟨rfl, (Below.refl _ _).drewN _⟩

/-- The node's block, the map's entry, the heap's place are all laid. -/
theorem set_rel {w1 w2 w3 w4 w5 : World} {F : Nat → Prop} {lb mb : Nat} {most now key at_ : Int} {L : List Nd} {av : Value} {hs : List Nd} {mp : List (Int × Value)} {e : Ending} (h1 : LstM w1 lb (.map (some mb)) (.int .i64 most) (.int .i64 now) av hs)
    (hM : GMap intKey w1 mb mp) (hh : Heap hs hs.length) (hp : hs.Perm L) (hk : ∀ k, mget mp k = (keyL L k).map ptr) (hml : mp.length = L.length) (hF : ∀ b, F b ↔ Foot lb av hs b ∨ b = mb) (hsrt : L.Pairwise Nd.lt) (hkn : (L.map (·.key)).Nodup) (hok : ∀ x ∈ L, x.set ≤ now ∧ 0 ≤ x.key ∧ 0 ≤ x.at_)
    (hno : keyL L key = none) (hk0 : 0 ≤ key) (ha0 : 0 ≤ at_)
    (e2 : w2 = w1.setCell ⟨lb, 3, none⟩ (.int .i64 (now + 1))) (e3 : w3 = w2.alloc (.cells (ndCells ⟨w1.heap.size, key, at_, now + 1⟩ 0).toArray 101)) (hM4 : GMap intKey w4 mb (mput mp key (.pointer (some ⟨w1.heap.size, 0, none⟩)))) (k4 : Chg (fun b => b = mb) w3 w4) :
    (LstM w4 lb (.map (some mb)) (.int .i64 most) (.int .i64 (now + 1)) av hs ∧ Blk w4 w1.heap.size 101 (ndCells ⟨w1.heap.size, key, at_, now + 1⟩ 0) ∧ w1.heap.size ∉ hs.map (·.b)) ∧
    (HPushP w4 lb (.map (some mb)) (.int .i64 most) (.int .i64 (now + 1)) av hs ⟨w1.heap.size, key, at_, now + 1⟩ e w5 → ∃ F', DueS w5 F' lb most (now + 1) (insL ⟨w1.heap.size, key, at_, now + 1⟩ L) ∧ (∀ b, F' b → F b ∨ w1.heap.size ≤ b) ∧ Chg F w1 w5) := by
  have hmf := mb_far h1 hM
  have hml2 := hM.lt
  have hnew : w1.heap.size ∉ hs.map (·.b) := fun hm => by
    obtain ⟨x, hx, e⟩ := List.mem_map.1 hm
    obtain ⟨i, hi⟩ := List.getElem?_of_mem hx
    have := (h1.heap.node i x hi).lt
    omega
  have k2 : Chg (fun b => b = lb) w1 w2 := by rw [e2]; exact Chg.setCell (F := fun b => b = lb) w1 (p := ⟨lb, 3, none⟩) rfl _
  have L2 : LstM w2 lb (.map (some mb)) (.int .i64 most) (.int .i64 (now + 1)) av hs := by
    obtain ⟨n1, n2⟩ := h1.notin
    exact ⟨by rw [e2]; exact h1.blk.set 3 _, h1.heap.chg k2 (fun b hb e => by subst e; rcases hb with hb | hb; exact n1 hb; exact n2 hb)⟩
  have hs2 : w2.heap.size = w1.heap.size := by rw [e2]; simp
  have L3 : LstM w3 lb (.map (some mb)) (.int .i64 most) (.int .i64 (now + 1)) av hs := by rw [e3]; exact L2.next ((Below.refl _ _).alloc (Nat.le_refl _) _)
  have B3 : Blk w3 w1.heap.size 101 (ndCells ⟨w1.heap.size, key, at_, now + 1⟩ 0) := by rw [e3, ← hs2]; exact Blk.new w2 _ _
  have L4 : LstM w4 lb (.map (some mb)) (.int .i64 most) (.int .i64 (now + 1)) av hs := L3.chg k4 (fun b hb e => hmf (e ▸ hb))
  have B4 : Blk w4 w1.heap.size 101 (ndCells ⟨w1.heap.size, key, at_, now + 1⟩ 0) := B3.chg k4 (fun e => by omega)
  have k3 : Chg (fun b => b = lb) w1 w3 := by rw [e3]; exact k2.new _
  have k14 : Chg F w1 w4 := (k3.mono (fun b hb => (hF b).2 (.inl (.inl hb)))).trans (k4.mono (fun b hb => (hF b).2 (.inr hb)))
  refine ⟨⟨L4, B4, hnew⟩, ?_⟩
  rintro ⟨_, av', L5, k5, hav⟩
  obtain ⟨p1, p2⟩ := pushL_heap hh ⟨w1.heap.size, key, at_, now + 1⟩
  have hlen : (pushL hs ⟨w1.heap.size, key, at_, now + 1⟩).length = hs.length + 1 := by rw [p2.length_eq]; simp
  have hperm : (pushL hs ⟨w1.heap.size, key, at_, now + 1⟩).Perm (insL ⟨w1.heap.size, key, at_, now + 1⟩ L) :=
    (p2.trans (List.perm_append_singleton _ _)).trans ((hp.cons _).trans (insL_perm _ L).symm)
  have hM5 : GMap intKey w5 mb (mput mp key (.pointer (some ⟨w1.heap.size, 0, none⟩))) := hM4.chg k5 (fun e => by rcases e with e | e; exact mb_far L4 hM4 e; exact absurd e (by show mb ≠ w1.heap.size; omega))
  have hkn' : ((insL ⟨w1.heap.size, key, at_, now + 1⟩ L).map (·.key)).Nodup := by
    have := ((insL_perm ⟨w1.heap.size, key, at_, now + 1⟩ L).map (·.key)).nodup_iff.2
    refine this ?_
    rw [List.map_cons, List.nodup_cons]
    refine ⟨fun hm => ?_, hkn⟩
    obtain ⟨y, hy, e⟩ := List.mem_map.1 hm
    exact keyL_none hno y hy e
  have hsz : w1.heap.size ≤ w4.heap.size := k14.size
  refine ⟨fun b => Foot lb av' (pushL hs ⟨w1.heap.size, key, at_, now + 1⟩) b ∨ b = mb, ⟨⟨av', mb, _, _, L5, hM5, by rw [hlen]; exact p1, hperm, fun k => ?_, ?_, fun b => Iff.rfl⟩, insL_sorted _ L hsrt (fun y hy => by have := (hok y hy).1; show y.set < now + 1; omega), hkn', fun y hy => ?_⟩, fun b hb => ?_, ?_⟩
  · rw [mget_mput, hk, keyL_perm (insL_perm _ L) hkn']
    by_cases e : k = key
    · subst e; simp [keyL, ptr]
    · rw [if_neg e]; simp [keyL, e]
  · rw [mput_len _ (by rw [hk, hno]; rfl), (insL_perm _ L).length_eq, hml]; rfl
  · rcases List.mem_cons.1 ((insL_perm _ L).mem_iff.1 hy) with rfl | hy
    · exact ⟨Int.le_refl _, hk0, ha0⟩
    · have := hok y hy; exact ⟨by omega, this.2⟩
  · rcases hb with (hb | hb | hb) | hb
    · exact .inl ((hF b).2 (.inl (.inl hb)))
    · rcases hav with e1 | ⟨g, e1, e2'⟩
      · rw [e1] at hb; exact .inl ((hF b).2 (.inl (.inr (.inl hb))))
      · rw [e1] at hb; injection hb with hb; exact .inr (by omega)
    · obtain ⟨y, hy, rfl⟩ := List.mem_map.1 hb
      rcases List.mem_append.1 (p2.mem_iff.1 hy) with hy | hy
      · exact .inl ((hF _).2 (.inl (.inr (.inr (List.mem_map.2 ⟨y, hy, rfl⟩)))))
      · simp at hy; subst hy; exact .inr (Nat.le_refl _)
    · exact .inl ((hF b).2 (.inr hb))
  · refine k14.trans' k5 ?_
    rintro i hi (hb | hb)
    · exact (hF i).2 (.inl hb)
    · simp at hb; omega

def SetP (w : World) (F : Nat → Prop) (lb : Nat) (most now : Int) (L : List Nd) (key at_ : Int) (e : Ending) (w' : World) : Prop :=
  e = .returned (.int .i64 0) ∧ ∃ nb F', DueS w' F' lb most (now + 1) (insL ⟨nb, key, at_, now + 1⟩ (dropL L key)) ∧ (∀ b, F' b → F b ∨ w.heap.size ≤ b) ∧ Chg F w w'
set_option maxRecDepth 100000 in
set_option maxHeartbeats 2000000 in
theorem dset_ok (F : Nat → Prop) (lb : Nat) (most now : Int) (L : List Nd) (key at_ : Int) (w : World) (h : DueS w F lb most now L) (hl : L.length ≤ 5000) (hk : 0 ≤ key) (ha : 0 ≤ at_) (hn : ¬ (keyL L key = none ∧ (L.length : Int) = most)) (hw0 : 0 ≤ now) (hw1 : now ≤ 1000000) :
    Calls Try.prog 19 #[.pointer (some ⟨lb, 0, none⟩), .int .i64 key, .int .i64 at_] w (SetP w F lb most now L key at_) := by
  obtain ⟨⟨av, mb, mp, hs, h1, h2, h3, h4, h5, h6, h7⟩, hsrt, hkn, hok⟩ := id h
  have l1 : w.cell? ⟨lb, 1, none⟩ = some (.map (some mb)) := h1.blk.cell 1
  have l2 : w.cell? ⟨lb, 2, none⟩ = some (.int .i64 most) := h1.blk.cell 2
  have hlk := due_look h2 h5 key
  have hlen : ∀ n, (Builtin.len_ #[94] 3 #[.map (some mb)]).run Try.prog (w.drewN n) = .ok (.int .i64 (L.length : Int)) (w.drewN n) := by
    intro n
    have := GMap.len (P := Try.prog) (h2.drewN n) Try.underlying94 3
    rw [h6] at this
    exact this
  have hS := fun W (hW : Below w.heap.size w W) => dstop_any F lb most now L key W (h.next hW) (by omega)
  replace hS := hid hS
  clear h1 h2 h3 h4 h5 h6 h7 hsrt hkn hok h
  have hcase : keyL L key = none ∧ ((L.length : Int) == most) = false ∨ ∃ x, keyL L key = some x := by
    cases hkk : keyL L key with
    | none => exact .inl ⟨rfl, by rw [beq_eq_false_iff_ne]; exact fun e => hn ⟨hkk, e⟩⟩
    | some x => exact .inr ⟨x, rfl⟩
  clear hn
  rcases hcase with ⟨hn, ht⟩ | ⟨x, hx⟩
  · rw [hn] at hlk
    unfold ptrO at hlk
    simp only [] at hlk
    clear hn
    go_enter Try.func19, Try.ntmps19
    go_wp2_with fail
    go_quiet (fail)
    go_wp2_with fail
    refine (hS.out _ ((Below.refl _ _).drewN _)).mono ?_
    rintro e w1 ⟨rfl, F1, hD1, hF1, hc1⟩
    obtain ⟨⟨av, mb, mp, hs, h1, h2, h3, h4, h5, h6, h7⟩, hsrt, hkn, hok⟩ := id hD1
    have hno : keyL (dropL L key) key = none := by rw [keyL_drop, if_pos rfl]
    have hdl : (dropL L key).length ≤ 5000 := Nat.le_trans (List.length_filter_le _ _) hl
    have hhl := h4.length_eq
    have hR := fun w4 w5 e hM4 k4 => set_rel (w4 := w4) (w5 := w5) (e := e) h1 h2 h3 h4 h5 h6 h7 hsrt hkn hok hno hk ha rfl rfl hM4 k4
    have hM3 : GMap intKey ((w1.setCell ⟨lb, 3, none⟩ (.int .i64 (now + 1))).alloc (.cells (ndCells ⟨w1.heap.size, key, at_, now + 1⟩ 0).toArray 101)) mb mp := (h2.setCell (p := ⟨lb, 3, none⟩) (fun e => mb_far h1 h2 (.inl e.symm)) _).alloc _
    have m1 : w1.cell? ⟨lb, 1, none⟩ = some (.map (some mb)) := h1.blk.cell 1
    have m3 : w1.cell? ⟨lb, 3, none⟩ = some (.int .i64 now) := h1.blk.cell 3
    have f3 : w1.frozen? ⟨lb, 3, none⟩ = false := h1.blk.free 3
    have hlbl := h1.blk.lt
    replace hc1 := hid hc1
    replace hF1 := hid hF1
    replace hR := hid hR
    replace hM3 := hid hM3
    clear hD1 h1 h2 h3 h4 h5 h6 h7 hsrt hkn hok hno hS
    unfold ndCells at hM3 hR
    simp only [] at hM3 hR
    go_wp2_with (at_mapUpdate; (refine wpList_update_g rfl _ _ _ rfl dueKeys Try.underlying94 rfl hM3.out key (.pointer (some ⟨w1.heap.size, 0, none⟩)) rfl rfl ?_); intro w4 hM4 k4; obtain ⟨⟨hL4, hB4, hn4⟩, _⟩ := hR.out w4 w4 (.returned undef) hM4 k4; have hP := hpush_any lb _ _ _ _ hs ⟨w1.heap.size, key, at_, now + 1⟩ 0 w4 hL4 hB4 hn4 (by omega); have hfin := fun w5 e => (hR.out w4 w5 e hM4 k4).2; have l40 := hL4.blk.cell 0; unfold face ptr at hP; replace hP := hid hP; replace hfin := hid hfin; clear hM4 k4 hL4 hB4 hn4)
    refine hP.out.mono ?_
    intro e w5 hp
    obtain ⟨rfl, _⟩ := id hp
    obtain ⟨F', g1, g2, g3⟩ := hfin.out _ _ hp
    have hgo : SetP w F lb most now L key at_ (.returned (.int .i64 0)) w5 := by
      refine ⟨rfl, w1.heap.size, F', g1, fun b hb => ?_, ((Chg.refl F w).drewN nq).trans (hc1.out.trans' g3 (fun i hi hb => ?_))⟩
      · have hsz : w.heap.size ≤ w1.heap.size := hc1.out.size
        rcases g2 b hb with hb | hb
        · exact hF1.out b hb
        · exact .inr (by omega)
      · rcases hF1.out i hb with hb | hb
        · exact hb
        · exact absurd hi (by omega)
    replace hgo := hid hgo
    clear hp g1 g2 g3 hfin
    go_wp2
    go_returns
    exact hgo.out
  · rw [hx] at hlk
    unfold ptrO at hlk
    simp only [] at hlk
    clear hx
    obtain ⟨xb, xk, xa, xs⟩ := x
    simp only [] at hlk
    go_enter Try.func19, Try.ntmps19
    go_wp2_with fail
    go_quiet (fail)
    go_wp2_with fail
    refine (hS.out _ ((Below.refl _ _).drewN _)).mono ?_
    rintro e w1 ⟨rfl, F1, hD1, hF1, hc1⟩
    obtain ⟨⟨av, mb, mp, hs, h1, h2, h3, h4, h5, h6, h7⟩, hsrt, hkn, hok⟩ := id hD1
    have hno : keyL (dropL L key) key = none := by rw [keyL_drop, if_pos rfl]
    have hdl : (dropL L key).length ≤ 5000 := Nat.le_trans (List.length_filter_le _ _) hl
    have hhl := h4.length_eq
    have hR := fun w4 w5 e hM4 k4 => set_rel (w4 := w4) (w5 := w5) (e := e) h1 h2 h3 h4 h5 h6 h7 hsrt hkn hok hno hk ha rfl rfl hM4 k4
    have hM3 : GMap intKey ((w1.setCell ⟨lb, 3, none⟩ (.int .i64 (now + 1))).alloc (.cells (ndCells ⟨w1.heap.size, key, at_, now + 1⟩ 0).toArray 101)) mb mp := (h2.setCell (p := ⟨lb, 3, none⟩) (fun e => mb_far h1 h2 (.inl e.symm)) _).alloc _
    have m1 : w1.cell? ⟨lb, 1, none⟩ = some (.map (some mb)) := h1.blk.cell 1
    have m3 : w1.cell? ⟨lb, 3, none⟩ = some (.int .i64 now) := h1.blk.cell 3
    have f3 : w1.frozen? ⟨lb, 3, none⟩ = false := h1.blk.free 3
    have hlbl := h1.blk.lt
    replace hc1 := hid hc1
    replace hF1 := hid hF1
    replace hR := hid hR
    replace hM3 := hid hM3
    clear hD1 h1 h2 h3 h4 h5 h6 h7 hsrt hkn hok hno hS
    unfold ndCells at hM3 hR
    simp only [] at hM3 hR
    go_wp2_with (at_mapUpdate; (refine wpList_update_g rfl _ _ _ rfl dueKeys Try.underlying94 rfl hM3.out key (.pointer (some ⟨w1.heap.size, 0, none⟩)) rfl rfl ?_); intro w4 hM4 k4; obtain ⟨⟨hL4, hB4, hn4⟩, _⟩ := hR.out w4 w4 (.returned undef) hM4 k4; have hP := hpush_any lb _ _ _ _ hs ⟨w1.heap.size, key, at_, now + 1⟩ 0 w4 hL4 hB4 hn4 (by omega); have hfin := fun w5 e => (hR.out w4 w5 e hM4 k4).2; have l40 := hL4.blk.cell 0; unfold face ptr at hP; replace hP := hid hP; replace hfin := hid hfin; clear hM4 k4 hL4 hB4 hn4)
    refine hP.out.mono ?_
    intro e w5 hp
    obtain ⟨rfl, _⟩ := id hp
    obtain ⟨F', g1, g2, g3⟩ := hfin.out _ _ hp
    have hgo : SetP w F lb most now L key at_ (.returned (.int .i64 0)) w5 := by
      refine ⟨rfl, w1.heap.size, F', g1, fun b hb => ?_, ((Chg.refl F w).drewN nq).trans (hc1.out.trans' g3 (fun i hi hb => ?_))⟩
      · have hsz : w.heap.size ≤ w1.heap.size := hc1.out.size
        rcases g2 b hb with hb | hb
        · exact hF1.out b hb
        · exact .inr (by omega)
      · rcases hF1.out i hb with hb | hb
        · exact hb
        · exact absurd hi (by omega)
    replace hgo := hid hgo
    clear hp g1 g2 g3 hfin
    go_wp2
    go_returns
    exact hgo.out
end Go.Proofs.Ytllkeifldfmbkaa
