/- Layer 14: Put. -/
import Derived.Test.YtllkeifldfmbkaaOrdD
namespace Go.Proofs.Ytllkeifldfmbkaa
open Go.RowKit Go.Maps Go.Sort Go.Shelf
variable {X : Nat → Prop}

/-- What becomes of one that comes. -/
def putM (o hv : Int) (m : Held) (t : Tx) : Int :=
  if check t ≠ 0 ∨ t.o ≠ o then 0 else if t.s ≤ hv ∨ (hget m t.s).isSome = true then 1 else if t.s ≠ hv + 1 ∧ m.length = 8 then 4 else if t.s ≠ hv + 1 then 3 else 2

def PutPost (X : Nat → Prop) (w : World) (g mb : Nat) (o hv : Int) (m : Held) (t : Tx) (e : Ending) (w' : World) : Prop :=
  (putM o hv m t = 0 ∨ putM o hv m t = 1 ∨ putM o hv m t = 4 → e = .returned (.tuple #[.int .i64 (putM o hv m t), .slice none 0 0]) ∧ Below w.heap.size w w') ∧
  (putM o hv m t = 3 → ∃ v', e = .returned (.tuple #[.int .i64 3, .slice none 0 0]) ∧ Bufr X w' g mb o hv (m ++ [(t.s, t, v')]) ∧ Chg (fun b => b = g ∨ b = mb) w w') ∧
  (putM o hv m t = 2 → ∃ v' v, e = .returned (.tuple #[.int .i64 2, v]) ∧ Bufr X w' g mb o (rowM (m.length + 1) hv (m ++ [(t.s, t, v')])).2.1 (rowM (m.length + 1) hv (m ++ [(t.s, t, v')])).2.2 ∧
    w'.ownsRow w.heap.size 34 6 v (rowM (m.length + 1) hv (m ++ [(t.s, t, v')])).1.length ((rowM (m.length + 1) hv (m ++ [(t.s, t, v')])).1.flatMap (fun x => txCells x.1 x.2)) ∧
    (∀ x ∈ (rowM (m.length + 1) hv (m ++ [(t.s, t, v')])).1, Ws w' (fun b => b ≠ g ∧ b ≠ mb ∧ ¬ X b) x.2 x.1.ws) ∧ Chg (fun b => b = g ∨ b = mb) w w')

theorem row_mem : ∀ (n : Nat) (hv : Int) (m : Held) (x : Tx × Value), x ∈ (rowM n hv m).1 → ∃ p ∈ m, p.2 = x
  | 0, _, _, _, h => by simp [rowM] at h
  | n + 1, hv, m, x, h => by
    simp only [rowM] at h
    cases hg : hget m (hv + 1) with
    | none => rw [hg] at h; simp at h
    | some tv =>
      rw [hg] at h
      simp only [List.mem_cons] at h
      rcases h with rfl | h
      · exact ⟨_, hget_mem hg, rfl⟩
      · obtain ⟨p, hp, e⟩ := row_mem n (hv + 1) _ x h
        exact ⟨p, hdel_sub p hp, e⟩

/-- What holds all along Put till the store. -/
structure PutI (X : Nat → Prop) (w : World) (g mb : Nat) (o hv : Int) (m : Held) (t : Tx) (S : Nat → Prop) (v : Value) (wc : World) : Prop where
  buf : Bufr X wc g mb o hv m
  blk : Blk wc w.heap.size 34 (txCells t v)
  ws : Ws wc S v t.ws
  bel : Below w.heap.size w wc

theorem PutI.next {w : World} {g mb : Nat} {o hv : Int} {m : Held} {t : Tx} {S : Nat → Prop} {v : Value} {a b : World} (h : PutI X w g mb o hv m t S v a) (k : Below a.heap.size a b) : PutI X w g mb o hv m t S v b :=
  ⟨h.buf.next k, h.blk.next k, h.ws.below k, h.bel.next k⟩
theorem PutI.drew {w : World} {g mb : Nat} {o hv : Int} {m : Held} {t : Tx} {S : Nat → Prop} {v : Value} {a : World} (h : PutI X w g mb o hv m t S v a) : PutI X w g mb o hv m t S v a.drew :=
  h.next ((Below.refl _ _).drew)
theorem PutI.drewN {w : World} {g mb : Nat} {o hv : Int} {m : Held} {t : Tx} {S : Nat → Prop} {v : Value} {a : World} (h : PutI X w g mb o hv m t S v a) (n : Nat) : PutI X w g mb o hv m t S v (a.drewN n) :=
  h.next ((Below.refl _ _).drewN n)
theorem PutI.alloc {w : World} {g mb : Nat} {o hv : Int} {m : Held} {t : Tx} {S : Nat → Prop} {v : Value} {a : World} (h : PutI X w g mb o hv m t S v a) (ob : Obj) : PutI X w g mb o hv m t S v (a.alloc ob) :=
  h.next ((Below.refl _ _).alloc (Nat.le_refl _) ob)

theorem putPost_no {w w' : World} {g mb : Nat} {o hv : Int} {m : Held} {t : Tx} {k : Int} (hk : putM o hv m t = 0 ∨ putM o hv m t = 1 ∨ putM o hv m t = 4) (e : putM o hv m t = k) (hb : Below w.heap.size w w') :
    PutPost X w g mb o hv m t (.returned (.tuple #[.int .i64 k, .slice none 0 0])) w' := by
  refine ⟨fun _ => ⟨by rw [e], hb⟩, fun h => ?_, fun h => ?_⟩
  · rcases hk with h' | h' | h' <;> rw [h'] at h <;> cases h
  · rcases hk with h' | h' | h' <;> rw [h'] at h <;> cases h
theorem putPost_held {w w' : World} {g mb : Nat} {o hv : Int} {m : Held} {t : Tx} {v' : Value} (hk : putM o hv m t = 3) (hB : Bufr X w' g mb o hv (m ++ [(t.s, t, v')])) (hK : Chg (fun b => b = g ∨ b = mb) w w') :
    PutPost X w g mb o hv m t (.returned (.tuple #[.int .i64 3, .slice none 0 0])) w' := by
  refine ⟨fun h => ?_, fun _ => ⟨v', rfl, hB, hK⟩, fun h => ?_⟩
  · rcases h with h | h | h <;> rw [hk] at h <;> cases h
  · rw [hk] at h; cases h
theorem putPost_next {w w' : World} {g mb : Nat} {o hv : Int} {m : Held} {t : Tx} {v' v : Value} (hk : putM o hv m t = 2)
    (hB : Bufr X w' g mb o (rowM (m.length + 1) hv (m ++ [(t.s, t, v')])).2.1 (rowM (m.length + 1) hv (m ++ [(t.s, t, v')])).2.2)
    (hO : w'.ownsRow w.heap.size 34 6 v (rowM (m.length + 1) hv (m ++ [(t.s, t, v')])).1.length ((rowM (m.length + 1) hv (m ++ [(t.s, t, v')])).1.flatMap (fun x => txCells x.1 x.2)))
    (hW : ∀ x ∈ (rowM (m.length + 1) hv (m ++ [(t.s, t, v')])).1, Ws w' (fun b => b ≠ g ∧ b ≠ mb ∧ ¬ X b) x.2 x.1.ws)
    (hK : Chg (fun b => b = g ∨ b = mb) w w') : PutPost X w g mb o hv m t (.returned (.tuple #[.int .i64 2, v])) w' := by
  refine ⟨fun h => ?_, fun h => ?_, fun _ => ⟨v', v, rfl, hB, hO, hW, hK⟩⟩
  · rcases h with h | h | h <;> rw [hk] at h <;> cases h
  · rw [hk] at h; cases h
theorem check_ok {t : Tx} (h : check t = 0) : 0 ≤ t.o ∧ t.o < 3 ∧ 1 ≤ t.s ∧ t.s ≤ 4611686018427387903 ∧ t.dep = t.s - 1 ∧ t.ws.length ≤ 16 := by
  unfold check at h
  by_cases h1 : t.o < 0 ∨ 3 ≤ t.o
  · rw [if_pos h1] at h; cases h
  rw [if_neg h1] at h
  by_cases h2 : t.s < 1 ∨ 4611686018427387903 < t.s ∨ (okN t.d0 && okN t.d1 && okN t.d2) = false
  · rw [if_pos h2] at h; cases h
  rw [if_neg h2] at h
  by_cases h3 : t.dep ≠ t.s - 1
  · rw [if_pos h3] at h; cases h
  rw [if_neg h3] at h
  by_cases h4 : 16 < t.ws.length ∨ t.ws.any longB = true
  · rw [if_pos h4] at h; cases h
  exact ⟨by omega, by omega, by omega, by omega, by omega, by omega⟩
theorem bufr_put {w2 w3 : World} {g mb : Nat} {o hv : Int} {m : Held} {t : Tx} {v : Value} {k : Int} (h : Bufr X w2 g mb o hv m) (hs : (hget m k).isSome = false) (M3 : GMap intKey w3 mb (mput (heldV m) k (txVal t v)))
    (K : Chg (fun i => i = mb) w2 w3) (hv' : Ws w2 (fun b => b ≠ g ∧ b ≠ mb ∧ ¬ X b) v t.ws) : Bufr X w3 g mb o hv (m ++ [(k, t, v)]) := by
  have e : mput (heldV m) k (txVal t v) = heldV (m ++ [(k, t, v)]) := by
    unfold mput
    rw [heldV_get]
    have : ((hget m k).map (fun x => txVal x.1 x.2)).isSome = false := by rw [Option.isSome_map]; exact hs
    rw [this]
    simp [heldV]
  rw [e] at M3
  refine ⟨h.blk.chg K h.ne, M3, fun p hp => ?_⟩
  rcases List.mem_append.1 hp with hp | hp
  · exact (h.ws p hp).chg K (fun b hb => hb.2.1)
  · simp only [List.mem_singleton] at hp
    subst hp
    exact hv'.chg K (fun b hb => hb.2.1)
theorem check_vals (t : Tx) (h : ¬ check t = 0) : check t = 9 ∨ check t = 1 ∨ check t = 11 ∨ check t = 4 ∨ check t = 3 := by
  unfold check at h ⊢
  by_cases h1 : t.o < 0 ∨ 3 ≤ t.o
  · rw [if_pos h1]; simp
  rw [if_neg h1] at h ⊢
  by_cases h2 : t.s < 1 ∨ 4611686018427387903 < t.s ∨ (okN t.d0 && okN t.d1 && okN t.d2) = false
  · rw [if_pos h2]; simp
  rw [if_neg h2] at h ⊢
  by_cases h3 : t.dep ≠ t.s - 1
  · rw [if_pos h3]; simp
  rw [if_neg h3] at h ⊢
  by_cases h4 : 16 < t.ws.length ∨ t.ws.any longB = true
  · rw [if_pos h4]; simp
  rw [if_neg h4] at h ⊢
  by_cases h5 : t.ws.any badB = true
  · rw [if_pos h5]; simp
  · rw [if_neg h5] at h; exact absurd rfl h

set_option maxRecDepth 100000 in
set_option maxHeartbeats 8000000 in
theorem put_any (g mb : Nat) (o hv : Int) (m : Held) (t : Tx) (S : Nat → Prop) (v : Value) (w : World) (h : Bufr X w g mb o hv m) (hw : Ws w S v t.ws) (h0 : 0 ≤ hv) (h1 : hv ≤ 4611686018427387903) (hl : m.length ≤ 8) (hX : ∀ b, X b → b < w.heap.size) :
    Calls Try.prog 11 #[.pointer (some ⟨g, 0, none⟩), txVal t v] w (PutPost X w g mb o hv m t) := by
  obtain ⟨A, c, rfl, _⟩ := id hw
  have hP0 : PutI X w g mb o hv m t S (.slice A t.ws.length c) (w.alloc (.cells (txCells t (.slice A t.ws.length c)).toArray 34)) :=
    ⟨h.chg (Chg.alloc (fun _ => False) w _) (fun _ => id), Blk.new w _ _, hw.alloc _, (Below.refl _ _).alloc (Nat.le_refl _) _⟩
  have lf := lookV_form (w := w) h.ws t.s
  obtain ⟨lb, la, lb1, lc, ld, le, lA, ln, lcc, hlf⟩ := lf
  have HLk : ∀ W, PutI X w g mb o hv m t S (.slice A t.ws.length c) W → Looks mb t.s (.tuple #[.agg #[.int .i64 la, .int .i64 lb1, .int .i64 lc, .int .i64 ld, .int .i64 le, .slice lA ln lcc], .bool lb]) W := fun W hW => by rw [← hlf]; exact looks_of hW.buf.map _
  have hlb : lb = (hget m t.s).isSome := by
    unfold lookV at hlf
    cases hh : hget m t.s with
    | none => rw [hh] at hlf; simp at hlf; rw [hlf.2]; rfl
    | some x => rw [hh] at hlf; simp at hlf; rw [hlf.2]; rfl
  subst hlb
  replace HLk := hid HLk
  replace hP0 := hid hP0
  clear hlf hw h
  replace h1 := hid h1
  replace hl := hid hl
  replace hX := hid hX
  go_enter Try.func11, Try.ntmps11
  go_wp2_with fail
  go_cut [6, 7] (fun t6 th wc => th = .bool (hget m t.s).isSome ∧ PutI X w g mb o hv m t S (.slice A t.ws.length c) wc)
  case first =>
    go_region_held3 (fun w' => w'.cell? ⟨w.heap.size, 1, none⟩ = some (.int .i64 t.s) ∧ w'.cell? ⟨g, 2, none⟩ = some (.map (some mb)) ∧ (Instr.lookup 80 (.map (some mb)) (.int .i64 t.s) true).run Try.prog w' = .ok (.tuple #[.agg #[.int .i64 la, .int .i64 lb1, .int .i64 lc, .int .i64 ld, .int .i64 le, .slice lA ln lcc], .bool (hget m t.s).isSome]) w')
      (first
        | exact ⟨hP0.out.drew.blk.cell 1, hP0.out.drew.buf.blk.cell 2, HLk.out _ hP0.out.drew⟩
        | exact ⟨(hP0.out.drew.alloc _).blk.cell 1, (hP0.out.drew.alloc _).buf.blk.cell 2, HLk.out _ (hP0.out.drew.alloc _)⟩)
      (fail)
    all_goals
      go_wp2_with fail
      go_meet
      first | exact ⟨rfl, (hP0.out.alloc _).drew⟩ | exact ⟨rfl, hP0.out.drew.alloc _⟩
  case rest =>
    obtain ⟨rfl, hP1⟩ := hcut
    clear hP0 HLk
    have HC : ∀ W, PutI X w g mb o hv m t S (.slice A t.ws.length c) W → Calls Try.prog 34 #[txVal t (.slice A t.ws.length c)] W fun e w' => e = .returned (.int .i64 (check t)) ∧ Below W.heap.size W w' := fun W hW => check_any t S _ W hW.ws
    replace hP1 := hid hP1
    go_wp2_with fail
    obtain ⟨B1, hB1⟩ : ∃ B1 : Bool, B1 = decide (check t ≠ 0 ∨ t.o ≠ o) := ⟨_, rfl⟩
    replace hB1 := hid hB1
    go_cut [18] (fun s wd => s = .bool B1 ∧ PutI X w g mb o hv m t S (.slice A t.ws.length c) wd)
    case first =>
      by_cases hc : check t = 0
      · have e1 : B1 = (t.o != o) := by rw [hB1.out, Bool.eq_iff_iff]; simp [hc]
        rw [hc] at HC
        replace HC := hid HC
        replace e1 := hid e1
        clear hc
        go_region_held3 (fun w' => w'.cell? ⟨w.heap.size, 0, none⟩ = some (.int .i64 t.o) ∧ w'.cell? ⟨w.heap.size, 1, none⟩ = some (.int .i64 t.s) ∧ w'.cell? ⟨w.heap.size, 2, none⟩ = some (.int .i64 t.d0) ∧ w'.cell? ⟨w.heap.size, 3, none⟩ = some (.int .i64 t.d1) ∧ w'.cell? ⟨w.heap.size, 4, none⟩ = some (.int .i64 t.d2) ∧ w'.cell? ⟨w.heap.size, 5, none⟩ = some (.slice A t.ws.length c) ∧ w'.cell? ⟨g, 0, none⟩ = some (.int .i64 o))
          (first
            | exact ⟨hP1.out.drew.blk.cell 0, hP1.out.drew.blk.cell 1, hP1.out.drew.blk.cell 2, hP1.out.drew.blk.cell 3, hP1.out.drew.blk.cell 4, hP1.out.drew.blk.cell 5, hP1.out.drew.buf.blk.cell 0⟩
            | exact ⟨(hP1.out.drew.next hb2).blk.cell 0, (hP1.out.drew.next hb2).blk.cell 1, (hP1.out.drew.next hb2).blk.cell 2, (hP1.out.drew.next hb2).blk.cell 3, (hP1.out.drew.next hb2).blk.cell 4, (hP1.out.drew.next hb2).blk.cell 5, (hP1.out.drew.next hb2).buf.blk.cell 0⟩)
          (first | (go_at_call 34; refine (HC.out _ hP1.out.drew).mono ?_; rintro e w2 ⟨rfl, hb2⟩))
        all_goals
          go_wp2_with fail
          go_meet
          exact ⟨by rw [e1.out], hP1.out.drew.next hb2⟩
      · have e1 : B1 = true := by rw [hB1.out]; simp [hc]
        replace e1 := hid e1
        rcases check_vals t hc with hc2 | hc2 | hc2 | hc2 | hc2
        all_goals
          rw [hc2] at HC
          replace HC := hid HC
          clear hc hc2
          refine wp_region_noPanic ?_
          refine wp_region_held_drew (S := fun w' => w'.cell? ⟨w.heap.size, 0, none⟩ = some (.int .i64 t.o) ∧ w'.cell? ⟨w.heap.size, 1, none⟩ = some (.int .i64 t.s) ∧ w'.cell? ⟨w.heap.size, 2, none⟩ = some (.int .i64 t.d0) ∧ w'.cell? ⟨w.heap.size, 3, none⟩ = some (.int .i64 t.d1) ∧ w'.cell? ⟨w.heap.size, 4, none⟩ = some (.int .i64 t.d2) ∧ w'.cell? ⟨w.heap.size, 5, none⟩ = some (.slice A t.ws.length c)) (by kernel_rfl) ⟨hP1.out.blk.cell 0, hP1.out.blk.cell 1, hP1.out.blk.cell 2, hP1.out.blk.cell 3, hP1.out.blk.cell 4, hP1.out.blk.cell 5⟩ (fun hHeld => ?_)
          refine wpAnyH_take (i := 0) (v := ?_) rfl (by kernel_rfl) (by kernel_rfl) (by kernel_rfl) (fun _ _ _ h => h) (Or.inl ⟨by kernel_rfl, ?_⟩) hHeld ?_
          rotate_left
          · intro w9 hS9; (try dsimp only at hS9); go_simp; (try with_reducible rfl)
          (try simp only [List.getElem_toArray, List.getElem_cons_zero, Act.put, List.setIfInBounds_toArray, List.set_cons_zero, List.set_cons_succ])
          refine wpAnyH_ready (rs := [1]) (by kernel_rfl) (by simp) ?_
          refine AllReadyH.cons (o := _) rfl (fun K hK => ?_) AllReadyH.nil
          go_simp
          refine (HC.out _ hP1.out.drew).mono ?_
          rintro e w2 ⟨rfl, hb2⟩
          refine hK.out _ _ ?_ (fun hHeld => ?_)
          · exact ⟨(hP1.out.drew.next hb2).blk.cell 0, (hP1.out.drew.next hb2).blk.cell 1, (hP1.out.drew.next hb2).blk.cell 2, (hP1.out.drew.next hb2).blk.cell 3, (hP1.out.drew.next hb2).blk.cell 4, (hP1.out.drew.next hb2).blk.cell 5⟩
          clear hK K
          (try simp only [List.getElem_toArray, List.getElem_cons_succ, List.getElem_cons_zero, Act.put, List.setIfInBounds_toArray, List.set_cons_zero, List.set_cons_succ])
          refine wpAnyH_take (i := 2) (v := ?_) rfl (by kernel_rfl) (by kernel_rfl) (by kernel_rfl) (fun _ _ _ h => h) (Or.inl ⟨by kernel_rfl, ?_⟩) hHeld ?_
          rotate_left
          · intro w9 hS9; (try dsimp only at hS9); go_simp; (try with_reducible rfl)
          (try simp only [List.getElem_toArray, List.getElem_cons_succ, List.getElem_cons_zero, Act.put, List.setIfInBounds_toArray, List.set_cons_zero, List.set_cons_succ])
          refine wpAnyH_take (i := 3) (v := ?_) rfl (by kernel_rfl) (by kernel_rfl) (by kernel_rfl) (fun _ _ _ h => h) (Or.inl ⟨by kernel_rfl, ?_⟩) hHeld ?_
          rotate_left
          · intro w9 hS9; (try dsimp only at hS9); go_simp; (try with_reducible rfl)
          (try simp only [List.getElem_toArray, List.getElem_cons_succ, List.getElem_cons_zero, Act.put, List.setIfInBounds_toArray, List.set_cons_zero, List.set_cons_succ])
          refine wpAnyH_take (i := 4) (v := undef) rfl (by kernel_rfl) (by kernel_rfl) (by kernel_rfl) (fun _ _ _ h => h) (Or.inr ⟨by kernel_rfl, rfl⟩) hHeld ?_
          (try simp only [List.getElem_toArray, List.getElem_cons_succ, List.getElem_cons_zero, Act.put, List.setIfInBounds_toArray, List.set_cons_zero, List.set_cons_succ])
          refine wpAnyH_take (i := 5) (v := undef) rfl (by kernel_rfl) (by kernel_rfl) (by kernel_rfl) (fun _ _ _ h => h) (Or.inr ⟨by kernel_rfl, rfl⟩) hHeld ?_
          (try simp only [List.getElem_toArray, List.getElem_cons_succ, List.getElem_cons_zero, Act.put, List.setIfInBounds_toArray, List.set_cons_zero, List.set_cons_succ])
          refine wpAnyH_take (i := 6) (v := undef) rfl (by kernel_rfl) (by kernel_rfl) (by kernel_rfl) (fun _ _ _ h => h) (Or.inr ⟨by kernel_rfl, rfl⟩) hHeld ?_
          (try simp only [List.getElem_toArray, List.getElem_cons_succ, List.getElem_cons_zero, Act.put, List.setIfInBounds_toArray, List.set_cons_zero, List.set_cons_succ])
          refine wpAnyH_take (i := 7) (v := undef) rfl (by kernel_rfl) (by kernel_rfl) (by kernel_rfl) (fun _ _ _ h => h) (Or.inr ⟨by kernel_rfl, rfl⟩) hHeld ?_
          (try simp only [List.getElem_toArray, List.getElem_cons_succ, List.getElem_cons_zero, Act.put, List.setIfInBounds_toArray, List.set_cons_zero, List.set_cons_succ])
          refine wpAnyH_take (i := 8) (v := undef) rfl (by kernel_rfl) (by kernel_rfl) (by kernel_rfl) (fun _ _ _ h => h) (Or.inr ⟨by kernel_rfl, rfl⟩) hHeld ?_
          (try simp only [List.getElem_toArray, List.getElem_cons_succ, List.getElem_cons_zero, Act.put, List.setIfInBounds_toArray, List.set_cons_zero, List.set_cons_succ])
          refine wpAnyH_take (i := 9) (v := undef) rfl (by kernel_rfl) (by kernel_rfl) (by kernel_rfl) (fun _ _ _ h => h) (Or.inr ⟨by kernel_rfl, rfl⟩) hHeld ?_
          (try simp only [List.getElem_toArray, List.getElem_cons_succ, List.getElem_cons_zero, Act.put, List.setIfInBounds_toArray, List.set_cons_zero, List.set_cons_succ])
          refine wpAnyH_take (i := 10) (v := undef) rfl (by kernel_rfl) (by kernel_rfl) (by kernel_rfl) (fun _ _ _ h => h) (Or.inr ⟨by kernel_rfl, rfl⟩) hHeld ?_
          (try simp only [List.getElem_toArray, List.getElem_cons_succ, List.getElem_cons_zero, Act.put, List.setIfInBounds_toArray, List.set_cons_zero, List.set_cons_succ])
          refine wpAnyH_take (i := 11) (v := ?_) rfl (by kernel_rfl) (by kernel_rfl) (by kernel_rfl) (fun _ _ _ h => h) (Or.inl ⟨by kernel_rfl, ?_⟩) hHeld ?_
          rotate_left
          · intro w9 hS9; (try dsimp only at hS9); go_simp; (try with_reducible rfl)
          (try simp only [List.getElem_toArray, List.getElem_cons_succ, List.getElem_cons_zero, Act.put, List.setIfInBounds_toArray, List.set_cons_zero, List.set_cons_succ])
          refine wpAnyH_take (i := 12) (v := ?_) rfl (by kernel_rfl) (by kernel_rfl) (by kernel_rfl) (fun _ _ _ h => h) (Or.inl ⟨by kernel_rfl, ?_⟩) hHeld ?_
          rotate_left
          · intro w9 hS9; (try dsimp only at hS9); go_simp; (try with_reducible rfl)
          (try simp only [List.getElem_toArray, List.getElem_cons_succ, List.getElem_cons_zero, Act.put, List.setIfInBounds_toArray, List.set_cons_zero, List.set_cons_succ])
          refine wpAnyH_done (by kernel_rfl) ?_ _
          refine NoPanic.normal ?_
          all_goals
            go_wp2_with fail
            go_meet
            exact ⟨by rw [e1.out], hP1.out.drew.next hb2⟩
    case rest =>
      clear HC hP1
      obtain ⟨rfl, hP2⟩ := hcut
      replace hP2 := hid hP2
      by_cases hodd : check t ≠ 0 ∨ t.o ≠ o
      · have hk : putM o hv m t = 0 := by unfold putM; rw [if_pos hodd]
        have hd : B1 = true := by rw [hB1.out]; simpa using hodd
        subst hd
        clear hodd hB1
        replace hk := hid hk
        go_wp2
        go_returns
        exact putPost_no (.inl hk.out) hk.out hP2.out.bel
      · have hd : B1 = false := by rw [hB1.out]; simpa using hodd
        subst hd
        clear hB1
        replace hodd := hid hodd
        have d1 : wc.cell? ⟨w.heap.size, 1, none⟩ = some (.int .i64 t.s) := hP2.out.blk.cell 1
        have d2 : wc.cell? ⟨g, 1, none⟩ = some (.int .i64 hv) := hP2.out.buf.blk.cell 1
        have d3 : wc.cell? ⟨g, 2, none⟩ = some (.map (some mb)) := hP2.out.buf.blk.cell 2
        have hlen : ∀ n, (Builtin.len_ #[80] 3 #[.map (some mb)]).run Try.prog (wc.drewN n) = .ok (.int .i64 m.length) (wc.drewN n) := by
          intro n
          have := GMap.len (P := Try.prog) (hP2.out.drewN n).buf.map Try.underlying80 3
          simpa [heldV] using this
        have hw1 : IntKind.i64.wrap (hv + 1) = hv + 1 := IntWalk.i64_in _ (by have := h1.out; omega)
        by_cases hle : t.s ≤ hv
        · have hk : putM o hv m t = 1 := by unfold putM; rw [if_neg hodd.out, if_pos (.inl hle)]
          replace hk := hid hk
          go_wp2_with fail
          go_quiet (fail)
          go_wp2
          go_returns
          exact putPost_no (.inr (.inl hk.out)) hk.out (hP2.out.bel.drewN _)
        have hle1 : decide (t.s ≤ hv) = false := by simpa using hle
        cases hs : (hget m t.s).isSome with
        | true =>
          have hk : putM o hv m t = 1 := by unfold putM; rw [if_neg hodd.out, if_pos (.inr hs)]
          replace hk := hid hk
          clear hle
          replace hs := hid hs
          go_wp2_with fail
          go_quiet (fail)
          go_wp2
          go_returns
          exact putPost_no (.inr (.inl hk.out)) hk.out (hP2.out.bel.drewN _)
        | false =>
          replace hs := hid hs
          replace hle := hid hle
          go_wp2_with fail
          go_quiet (fail)
          replace hP2 := hid (hP2.out.drewN nq)
          obtain ⟨wq, hwq⟩ : ∃ wq, wq = wc.drewN nq := ⟨_, rfl⟩
          have hlq := hlen nq
          rw [← hwq] at hlq hP2 ⊢
          clear hwq d1 d2 d3 hlen hle1
          have d1 : wq.cell? ⟨w.heap.size, 1, none⟩ = some (.int .i64 t.s) := hP2.out.blk.cell 1
          have d2 : wq.cell? ⟨g, 1, none⟩ = some (.int .i64 hv) := hP2.out.buf.blk.cell 1
          have d3 : wq.cell? ⟨g, 2, none⟩ = some (.map (some mb)) := hP2.out.buf.blk.cell 2
          have hlen2 : ∀ n, (Builtin.len_ #[80] 3 #[.map (some mb)]).run Try.prog (wq.drewN n) = .ok (.int .i64 m.length) (wq.drewN n) := by
            intro n
            have := GMap.len (P := Try.prog) (hP2.out.drewN n).buf.map Try.underlying80 3
            simpa [heldV] using this
          clear hlq
          by_cases hn : t.s = hv + 1
          · have hn1 : (t.s != hv + 1) = false := by simp [hn]
            have hk : putM o hv m t = 2 := by
              unfold putM; rw [if_neg hodd.out, if_neg (by rw [hs.out]; simp [hle.out]), if_neg (by simp [hn]), if_neg (by simp [hn])]
            replace hk := hid hk
            replace hn := hid hn
            go_wp2_with fail
            go_quiet (fail)
            replace hP2 := hid (hP2.out.drewN nq)
            obtain ⟨wp, hwp⟩ : ∃ wp, wp = wq.drewN nq := ⟨_, rfl⟩
            rw [← hwp] at hP2 ⊢
            clear hwp d1 d2 d3 hlen2
            have hc0 : check t = 0 := Classical.byContradiction (fun e => hodd.out (.inl e))
            have HO : ∀ W, PutI X w g mb o hv m t S (.slice A t.ws.length c) W → Calls Try.prog 35 #[txVal t (.slice A t.ws.length c)] W fun e w' => ∃ v', e = .returned (txVal t v') ∧ Ws w' (fun b => W.heap.size ≤ b) v' t.ws ∧ Below W.heap.size W w' := fun W hW => own_any t S _ W hW.ws (by have := (check_ok hc0).2.2.2.2.2; omega)
            replace HO := hid HO
            replace hc0 := hid hc0
            go_wp2_with fail
            refine wp_region_noPanic ?_
            refine wp_region_held_drew (S := fun w' => w'.cell? ⟨w.heap.size, 0, none⟩ = some (.int .i64 t.o) ∧ w'.cell? ⟨w.heap.size, 1, none⟩ = some (.int .i64 t.s) ∧ w'.cell? ⟨w.heap.size, 2, none⟩ = some (.int .i64 t.d0) ∧ w'.cell? ⟨w.heap.size, 3, none⟩ = some (.int .i64 t.d1) ∧ w'.cell? ⟨w.heap.size, 4, none⟩ = some (.int .i64 t.d2) ∧ w'.cell? ⟨w.heap.size, 5, none⟩ = some (.slice A t.ws.length c) ∧ w'.cell? ⟨g, 2, none⟩ = some (.map (some mb))) (by kernel_rfl) ⟨hP2.out.blk.cell 0, hP2.out.blk.cell 1, hP2.out.blk.cell 2, hP2.out.blk.cell 3, hP2.out.blk.cell 4, hP2.out.blk.cell 5, hP2.out.buf.blk.cell 2⟩ (fun hHeld => ?_)
            refine wpAnyH_take (i := 0) (v := ?_) rfl (by kernel_rfl) (by kernel_rfl) (by kernel_rfl) (fun _ _ _ h => h) (Or.inl ⟨by kernel_rfl, ?_⟩) hHeld ?_
            rotate_left
            · intro w9 hS9; (try dsimp only at hS9); go_simp; (try with_reducible rfl)
            (try simp only [List.getElem_toArray, List.getElem_cons_zero, Act.put, List.setIfInBounds_toArray, List.set_cons_zero, List.set_cons_succ])
            refine wpAnyH_take (i := 1) (v := ?_) rfl (by kernel_rfl) (by kernel_rfl) (by kernel_rfl) (fun _ _ _ h => h) (Or.inl ⟨by kernel_rfl, ?_⟩) hHeld ?_
            rotate_left
            · intro w9 hS9; (try dsimp only at hS9); go_simp; (try with_reducible rfl)
            (try simp only [List.getElem_toArray, List.getElem_cons_succ, List.getElem_cons_zero, Act.put, List.setIfInBounds_toArray, List.set_cons_zero, List.set_cons_succ])
            refine wpAnyH_take (i := 2) (v := ?_) rfl (by kernel_rfl) (by kernel_rfl) (by kernel_rfl) (fun _ _ _ h => h) (Or.inl ⟨by kernel_rfl, ?_⟩) hHeld ?_
            rotate_left
            · intro w9 hS9; (try dsimp only at hS9); go_simp; (try with_reducible rfl)
            (try simp only [List.getElem_toArray, List.getElem_cons_succ, List.getElem_cons_zero, Act.put, List.setIfInBounds_toArray, List.set_cons_zero, List.set_cons_succ])
            refine wpAnyH_take (i := 3) (v := ?_) rfl (by kernel_rfl) (by kernel_rfl) (by kernel_rfl) (fun _ _ _ h => h) (Or.inl ⟨by kernel_rfl, ?_⟩) hHeld ?_
            rotate_left
            · intro w9 hS9; (try dsimp only at hS9); go_simp; (try with_reducible rfl)
            (try simp only [List.getElem_toArray, List.getElem_cons_succ, List.getElem_cons_zero, Act.put, List.setIfInBounds_toArray, List.set_cons_zero, List.set_cons_succ])
            refine wpAnyH_take (i := 4) (v := ?_) rfl (by kernel_rfl) (by kernel_rfl) (by kernel_rfl) (fun _ _ _ h => h) (Or.inl ⟨by kernel_rfl, ?_⟩) hHeld ?_
            rotate_left
            · intro w9 hS9; (try dsimp only at hS9); go_simp; (try with_reducible rfl)
            (try simp only [List.getElem_toArray, List.getElem_cons_succ, List.getElem_cons_zero, Act.put, List.setIfInBounds_toArray, List.set_cons_zero, List.set_cons_succ])
            refine wpAnyH_take (i := 5) (v := ?_) rfl (by kernel_rfl) (by kernel_rfl) (by kernel_rfl) (fun _ _ _ h => h) (Or.inl ⟨by kernel_rfl, ?_⟩) hHeld ?_
            rotate_left
            · intro w9 hS9; (try dsimp only at hS9); go_simp; (try with_reducible rfl)
            (try simp only [List.getElem_toArray, List.getElem_cons_succ, List.getElem_cons_zero, Act.put, List.setIfInBounds_toArray, List.set_cons_zero, List.set_cons_succ])
            refine wpAnyH_take (i := 6) (v := ?_) rfl (by kernel_rfl) (by kernel_rfl) (by kernel_rfl) (fun _ _ _ h => h) (Or.inl ⟨by kernel_rfl, ?_⟩) hHeld ?_
            rotate_left
            · intro w9 hS9; (try dsimp only at hS9); go_simp; (try with_reducible rfl)
            (try simp only [List.getElem_toArray, List.getElem_cons_succ, List.getElem_cons_zero, Act.put, List.setIfInBounds_toArray, List.set_cons_zero, List.set_cons_succ])
            refine wpAnyH_ready (rs := [7]) (by kernel_rfl) (by simp) ?_
            refine AllReadyH.cons (o := _) rfl (fun K hK => ?_) AllReadyH.nil
            go_simp
            refine (HO.out _ hP2.out.drew).mono ?_
            rintro e w2 ⟨v', rfl, hv', hb2⟩
            have hP3 := hP2.out.drew.next hb2
            refine hK.out _ _ ?_ (fun hHeld => ?_)
            · exact ⟨hP3.blk.cell 0, hP3.blk.cell 1, hP3.blk.cell 2, hP3.blk.cell 3, hP3.blk.cell 4, hP3.blk.cell 5, hP3.buf.blk.cell 2⟩
            clear hK K
            (try simp only [List.getElem_toArray, List.getElem_cons_succ, List.getElem_cons_zero, Act.put, List.setIfInBounds_toArray, List.set_cons_zero, List.set_cons_succ])
            replace hP3 := hid hP3
            have hwm : w.heap.size ≠ mb := hP3.out.buf.map.ne_blk hP3.out.blk
            refine wpAnyH_ready (rs := [8]) (by kernel_rfl) (by simp) ?_
            refine AllReadyH.cons (o := _) rfl (fun K hK => ?_) AllReadyH.nil
            refine step_update_g (by rfl) _ _ _ (by rfl) txKeys Try.underlying80 (by rfl) hP3.out.buf.map t.s (txVal t v') (by rfl) (by rfl) ?_
            intro w3 M3 K3
            have T3 := hP3.out.blk.chg K3 hwm
            have B3 := bufr_put hP3.out.buf hs.out M3 K3 (hv'.more (fun b _ hb => ⟨fun e => by have := hP2.out.buf.blk.lt; simp at hb; omega, fun e => by have := hP2.out.buf.map.lt; simp at hb; omega, fun hx => by have h1 := hX.out b hx; have h2 := hP2.out.blk.lt; simp at hb; omega⟩))
            have KK : Chg (fun b => b = g ∨ b = mb) w w3 := (Chg.of_below hP3.out.bel).trans (K3.mono (fun i h => .inr h))
            refine hK.out _ _ ?_ (fun hHeld => ?_)
            · exact ⟨T3.cell 0, T3.cell 1, T3.cell 2, T3.cell 3, T3.cell 4, T3.cell 5, B3.blk.cell 2⟩
            clear hK K
            (try simp only [List.getElem_toArray, List.getElem_cons_succ, List.getElem_cons_zero, Act.put])
            refine wpAnyH_done (by kernel_rfl) ?_ _
            refine NoPanic.normal ?_
            have d1 : w3.cell? ⟨w.heap.size, 1, none⟩ = some (.int .i64 t.s) := T3.cell 1
            have d2 : w3.cell? ⟨g, 1, none⟩ = some (.int .i64 hv) := B3.blk.cell 1
            replace B3 := hid B3
            replace KK := hid KK
            clear T3 M3 K3 hP3 hv' hb2 HO hHeld
            go_wp2_with fail
            go_quiet (fail)
            have hR := row_any g mb o hv (m ++ [(t.s, t, v')]) (w3.drewN nq) (B3.out.chg ((Chg.refl (fun _ => False) w3).drewN nq) (fun _ => id)) h0 (by have := h1.out; have := hl.out; simp; omega) (by have := hl.out; simp; omega)
            have hll : (m ++ [(t.s, t, v')]).length = m.length + 1 := by simp
            rw [hll] at hR
            replace hR := hid hR
            clear hll
            go_wp2_with fail
            refine hR.out.mono ?_
            rintro e w4 ⟨v4, rfl, hB4, hO4, hK4⟩
            have hfin := putPost_next hk.out hB4 (ownsRow_base_a hO4 (base' := w.heap.size) (KK.out.drewN nq).size) (fun x hx => by
              obtain ⟨p, hp, rfl⟩ := row_mem _ _ _ _ hx
              exact ((B3.out.ws p hp).chg ((Chg.refl (fun _ => False) w3).drewN nq) (fun _ _ => id)).chg hK4 (fun b hb hF => by rcases hF with hF | hF; exact hb.1 hF; exact hb.2.1 hF)) ((KK.out.drewN nq).trans hK4)
            replace hfin := hid hfin
            clear hB4 hO4 hK4
            go_wp2
            go_returns
            exact hfin.out
          · have hn1 : (t.s != hv + 1) = true := by simp [hn]
            by_cases h8 : m.length = 8
            · have hk : putM o hv m t = 4 := by
                unfold putM; rw [if_neg hodd.out, if_neg (by rw [hs.out]; simp [hle.out]), if_pos ⟨hn, h8⟩]
              replace hk := hid hk
              replace hn := hid hn
              have h81 : ((m.length : Int) == 8) = true := by simp; omega
              replace h8 := hid h8
              go_wp2_with fail
              go_quiet (fail)
              go_wp2
              go_returns
              exact putPost_no (.inr (.inr hk.out)) hk.out (hP2.out.bel.drewN _)
            · have hk : putM o hv m t = 3 := by
                unfold putM; rw [if_neg hodd.out, if_neg (by rw [hs.out]; simp [hle.out]), if_neg (fun h => h8 h.2), if_pos hn]
              replace hk := hid hk
              replace hn := hid hn
              have h81 : ((m.length : Int) == 8) = false := by simp; omega
              replace h8 := hid h8
              go_wp2_with fail
              go_quiet (fail)
              replace hP2 := hid (hP2.out.drewN nq)
              obtain ⟨wp, hwp⟩ : ∃ wp, wp = wq.drewN nq := ⟨_, rfl⟩
              rw [← hwp] at hP2 ⊢
              clear hwp d1 d2 d3 hlen2
              have hc0 : check t = 0 := Classical.byContradiction (fun e => hodd.out (.inl e))
              have HO : ∀ W, PutI X w g mb o hv m t S (.slice A t.ws.length c) W → Calls Try.prog 35 #[txVal t (.slice A t.ws.length c)] W fun e w' => ∃ v', e = .returned (txVal t v') ∧ Ws w' (fun b => W.heap.size ≤ b) v' t.ws ∧ Below W.heap.size W w' := fun W hW => own_any t S _ W hW.ws (by have := (check_ok hc0).2.2.2.2.2; omega)
              replace HO := hid HO
              replace hc0 := hid hc0
              go_wp2_with fail
              refine wp_region_noPanic ?_
              refine wp_region_held_drew (S := fun w' => w'.cell? ⟨w.heap.size, 0, none⟩ = some (.int .i64 t.o) ∧ w'.cell? ⟨w.heap.size, 1, none⟩ = some (.int .i64 t.s) ∧ w'.cell? ⟨w.heap.size, 2, none⟩ = some (.int .i64 t.d0) ∧ w'.cell? ⟨w.heap.size, 3, none⟩ = some (.int .i64 t.d1) ∧ w'.cell? ⟨w.heap.size, 4, none⟩ = some (.int .i64 t.d2) ∧ w'.cell? ⟨w.heap.size, 5, none⟩ = some (.slice A t.ws.length c) ∧ w'.cell? ⟨g, 2, none⟩ = some (.map (some mb))) (by kernel_rfl) ⟨hP2.out.blk.cell 0, hP2.out.blk.cell 1, hP2.out.blk.cell 2, hP2.out.blk.cell 3, hP2.out.blk.cell 4, hP2.out.blk.cell 5, hP2.out.buf.blk.cell 2⟩ (fun hHeld => ?_)
              refine wpAnyH_take (i := 0) (v := ?_) rfl (by kernel_rfl) (by kernel_rfl) (by kernel_rfl) (fun _ _ _ h => h) (Or.inl ⟨by kernel_rfl, ?_⟩) hHeld ?_
              rotate_left
              · intro w9 hS9; (try dsimp only at hS9); go_simp; (try with_reducible rfl)
              (try simp only [List.getElem_toArray, List.getElem_cons_zero, Act.put, List.setIfInBounds_toArray, List.set_cons_zero, List.set_cons_succ])
              refine wpAnyH_take (i := 1) (v := ?_) rfl (by kernel_rfl) (by kernel_rfl) (by kernel_rfl) (fun _ _ _ h => h) (Or.inl ⟨by kernel_rfl, ?_⟩) hHeld ?_
              rotate_left
              · intro w9 hS9; (try dsimp only at hS9); go_simp; (try with_reducible rfl)
              (try simp only [List.getElem_toArray, List.getElem_cons_succ, List.getElem_cons_zero, Act.put, List.setIfInBounds_toArray, List.set_cons_zero, List.set_cons_succ])
              refine wpAnyH_take (i := 2) (v := ?_) rfl (by kernel_rfl) (by kernel_rfl) (by kernel_rfl) (fun _ _ _ h => h) (Or.inl ⟨by kernel_rfl, ?_⟩) hHeld ?_
              rotate_left
              · intro w9 hS9; (try dsimp only at hS9); go_simp; (try with_reducible rfl)
              (try simp only [List.getElem_toArray, List.getElem_cons_succ, List.getElem_cons_zero, Act.put, List.setIfInBounds_toArray, List.set_cons_zero, List.set_cons_succ])
              refine wpAnyH_take (i := 3) (v := ?_) rfl (by kernel_rfl) (by kernel_rfl) (by kernel_rfl) (fun _ _ _ h => h) (Or.inl ⟨by kernel_rfl, ?_⟩) hHeld ?_
              rotate_left
              · intro w9 hS9; (try dsimp only at hS9); go_simp; (try with_reducible rfl)
              (try simp only [List.getElem_toArray, List.getElem_cons_succ, List.getElem_cons_zero, Act.put, List.setIfInBounds_toArray, List.set_cons_zero, List.set_cons_succ])
              refine wpAnyH_take (i := 4) (v := ?_) rfl (by kernel_rfl) (by kernel_rfl) (by kernel_rfl) (fun _ _ _ h => h) (Or.inl ⟨by kernel_rfl, ?_⟩) hHeld ?_
              rotate_left
              · intro w9 hS9; (try dsimp only at hS9); go_simp; (try with_reducible rfl)
              (try simp only [List.getElem_toArray, List.getElem_cons_succ, List.getElem_cons_zero, Act.put, List.setIfInBounds_toArray, List.set_cons_zero, List.set_cons_succ])
              refine wpAnyH_take (i := 5) (v := ?_) rfl (by kernel_rfl) (by kernel_rfl) (by kernel_rfl) (fun _ _ _ h => h) (Or.inl ⟨by kernel_rfl, ?_⟩) hHeld ?_
              rotate_left
              · intro w9 hS9; (try dsimp only at hS9); go_simp; (try with_reducible rfl)
              (try simp only [List.getElem_toArray, List.getElem_cons_succ, List.getElem_cons_zero, Act.put, List.setIfInBounds_toArray, List.set_cons_zero, List.set_cons_succ])
              refine wpAnyH_take (i := 6) (v := ?_) rfl (by kernel_rfl) (by kernel_rfl) (by kernel_rfl) (fun _ _ _ h => h) (Or.inl ⟨by kernel_rfl, ?_⟩) hHeld ?_
              rotate_left
              · intro w9 hS9; (try dsimp only at hS9); go_simp; (try with_reducible rfl)
              (try simp only [List.getElem_toArray, List.getElem_cons_succ, List.getElem_cons_zero, Act.put, List.setIfInBounds_toArray, List.set_cons_zero, List.set_cons_succ])
              refine wpAnyH_ready (rs := [7]) (by kernel_rfl) (by simp) ?_
              refine AllReadyH.cons (o := _) rfl (fun K hK => ?_) AllReadyH.nil
              go_simp
              refine (HO.out _ hP2.out.drew).mono ?_
              rintro e w2 ⟨v', rfl, hv', hb2⟩
              have hP3 := hP2.out.drew.next hb2
              refine hK.out _ _ ?_ (fun hHeld => ?_)
              · exact ⟨hP3.blk.cell 0, hP3.blk.cell 1, hP3.blk.cell 2, hP3.blk.cell 3, hP3.blk.cell 4, hP3.blk.cell 5, hP3.buf.blk.cell 2⟩
              clear hK K
              (try simp only [List.getElem_toArray, List.getElem_cons_succ, List.getElem_cons_zero, Act.put, List.setIfInBounds_toArray, List.set_cons_zero, List.set_cons_succ])
              replace hP3 := hid hP3
              have hwm : w.heap.size ≠ mb := hP3.out.buf.map.ne_blk hP3.out.blk
              refine wpAnyH_ready (rs := [8]) (by kernel_rfl) (by simp) ?_
              refine AllReadyH.cons (o := _) rfl (fun K hK => ?_) AllReadyH.nil
              refine step_update_g (by rfl) _ _ _ (by rfl) txKeys Try.underlying80 (by rfl) hP3.out.buf.map t.s (txVal t v') (by rfl) (by rfl) ?_
              intro w3 M3 K3
              have T3 := hP3.out.blk.chg K3 hwm
              have B3 := bufr_put hP3.out.buf hs.out M3 K3 (hv'.more (fun b _ hb => ⟨fun e => by have := hP2.out.buf.blk.lt; simp at hb; omega, fun e => by have := hP2.out.buf.map.lt; simp at hb; omega, fun hx => by have h1 := hX.out b hx; have h2 := hP2.out.blk.lt; simp at hb; omega⟩))
              have KK : Chg (fun b => b = g ∨ b = mb) w w3 := (Chg.of_below hP3.out.bel).trans (K3.mono (fun i h => .inr h))
              refine hK.out _ _ ?_ (fun hHeld => ?_)
              · exact ⟨T3.cell 0, T3.cell 1, T3.cell 2, T3.cell 3, T3.cell 4, T3.cell 5, B3.blk.cell 2⟩
              clear hK K
              (try simp only [List.getElem_toArray, List.getElem_cons_succ, List.getElem_cons_zero, Act.put])
              refine wpAnyH_done (by kernel_rfl) ?_ _
              refine NoPanic.normal ?_
              have d1 : w3.cell? ⟨w.heap.size, 1, none⟩ = some (.int .i64 t.s) := T3.cell 1
              have d2 : w3.cell? ⟨g, 1, none⟩ = some (.int .i64 hv) := B3.blk.cell 1
              replace B3 := hid B3
              replace KK := hid KK
              clear T3 M3 K3 hP3 hv' hb2 HO hHeld
              go_wp2_with fail
              go_quiet (fail)
              go_wp2
              go_returns
              exact putPost_held hk.out (B3.out.chg ((Chg.refl (fun _ => False) w3).drewN nq) (fun _ => id)) (KK.out.drewN nq)
end Go.Proofs.Ytllkeifldfmbkaa
