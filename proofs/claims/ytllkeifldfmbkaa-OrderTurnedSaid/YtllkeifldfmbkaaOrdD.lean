/- Layer 14: row. -/
import Derived.Test.YtllkeifldfmbkaaOrdC
namespace Go.Proofs.Ytllkeifldfmbkaa
open Go.RowKit Go.Maps Go.Sort Go.Shelf
variable {X : Nat → Prop}

/-- The lookup of k in block mb runs so. -/
def Looks (mb : Nat) (k : Int) (v : Value) (W : World) : Prop := (Instr.lookup 80 (.map (some mb)) (.int .i64 k) true).run Try.prog W = .ok v W
def lookV (m : Held) (k : Int) : Value := match hget m k with
      | some x => .tuple #[txVal x.1 x.2, .bool true]
      | none => .tuple #[.agg #[.int .i64 0, .int .i64 0, .int .i64 0, .int .i64 0, .int .i64 0, .slice none 0 0], .bool false]
theorem looks_of {w : World} {mb : Nat} {m : Held} (h : GMap intKey w mb (heldV m)) (k : Int) : Looks mb k (lookV m k) w := by
  unfold Looks lookV
  have h1 := h.lookup (P := Try.prog) txKeys Try.underlying80 (zero34 w) k true
  rw [heldV_get] at h1
  cases hg : hget m k with
  | none => rw [hg] at h1; exact h1
  | some x => rw [hg] at h1; exact h1

theorem lookV_form {w : World} {S : Nat → Prop} {m : Held} (h : ∀ p ∈ m, Ws w S p.2.2 p.2.1.ws) (k : Int) :
    ∃ bb a b c d e fA fn fc, lookV m k = .tuple #[.agg #[.int .i64 a, .int .i64 b, .int .i64 c, .int .i64 d, .int .i64 e, .slice fA fn fc], .bool bb] := by
  unfold lookV hget hgetL
  cases hf : m.find? (fun p => decide (k = p.1)) with
  | none => exact ⟨_, _, _, _, _, _, _, _, _, rfl⟩
  | some p =>
    obtain ⟨A, c, e, _⟩ := h p (List.mem_of_find?_eq_some hf)
    simp only [Option.map_some, txVal, e]
    exact ⟨_, _, _, _, _, _, _, _, _, rfl⟩
theorem hget_mem {m : Held} {k : Int} {x : Tx × Value} (h : hget m k = some x) : (k, x) ∈ m := by
  unfold hget hgetL at h
  obtain ⟨p, hp, rfl⟩ := Option.map_eq_some_iff.1 h
  have h1 := List.find?_some hp
  simp only [decide_eq_true_eq] at h1
  have h2 := List.mem_of_find?_eq_some hp
  rw [h1]; exact h2
theorem hdel_sub {m : Held} {k : Int} : ∀ p ∈ hdel m k, p ∈ m := fun _ hp => (List.mem_filter.1 hp).1
theorem hdel_len {m : Held} {k : Int} {x : Tx × Value} (h : hget m k = some x) : (hdel m k).length + 1 ≤ m.length := by
  have h1 := hget_mem h
  unfold hdel
  have h2 : ((m.filter (fun p => !decide (k = p.1))).length) < m.length := by
    rw [List.length_filter_lt_length_iff_exists]
    exact ⟨_, h1, by simp⟩
  omega
theorem txCells_one {t : Tx} {A : Option Addr} {n c : Nat} : ∀ u ∈ txCells t (.slice A n c), u.oneCell' = true := by
  intro u hu
  simp only [txCells, List.mem_cons, List.not_mem_nil, or_false] at hu
  rcases hu with rfl | rfl | rfl | rfl | rfl | rfl <;> rfl
/-- What the loop of row keeps. -/
def RowI (w : World) (g mb : Nat) (o hv : Int) (m : Held) (k : Nat) (out tp is : Value) (wr : World) : Prop :=
  ∃ (hk : Int) (mk : Held) (xs : List (Tx × Value)) (tb : Nat) (c0 c1 c2 c3 c4 c5 : Value),
    tp = .pointer (some ⟨tb, 0, none⟩) ∧ is = .bool (hget mk (hk + 1)).isSome ∧
    rowM m.length hv m = (xs ++ (rowM k hk mk).1, (rowM k hk mk).2) ∧ mk.length ≤ k ∧ xs.length + mk.length ≤ m.length ∧ 0 ≤ hk ∧ hk + mk.length ≤ 4611686018427387999 ∧ Blk wr g 82 [.int .i64 o, .int .i64 hk, .map (some mb)] ∧ GMap intKey wr mb (heldV mk) ∧ (∀ p ∈ mk, p ∈ m) ∧
    wr.ownsRow w.heap.size 34 6 out xs.length (xs.flatMap (fun x => txCells x.1 x.2)) ∧ Blk wr tb 34 [c0, c1, c2, c3, c4, c5] ∧ w.heap.size ≤ tb ∧ out.ownBlock ≠ some tb ∧
    (∀ x, hget mk (hk + 1) = some x → [c0, c1, c2, c3, c4, c5] = txCells x.1 x.2) ∧ Chg (fun b => b = g ∨ b = mb) w wr

theorem rowI_start {w : World} {g mb : Nat} {o hv : Int} {m : Held} (h : Bufr X w g mb o hv m) (h0 : 0 ≤ hv) (h1 : hv + m.length ≤ 4611686018427387999) {bb : Bool} {a b c d e f : Value}
    (hl : Value.tuple #[.agg #[a, b, c, d, e, f], .bool bb] = lookV m (hv + 1)) :
    RowI w g mb o hv m m.length (.slice none 0 0) (.pointer (some ⟨w.heap.size, 0, none⟩)) (.bool bb) (w.alloc (.cells #[a, b, c, d, e, f] 34)).drew := by
  have hg : hget m (hv + 1) = none ∧ bb = false ∨ ∃ x, hget m (hv + 1) = some x ∧ bb = true ∧ [a, b, c, d, e, f] = txCells x.1 x.2 := by
    unfold lookV at hl
    cases hh : hget m (hv + 1) with
    | none => rw [hh] at hl; simp at hl; exact .inl ⟨rfl, hl.2⟩
    | some x => rw [hh] at hl; simp [txVal] at hl; exact .inr ⟨x, rfl, hl.2, by simp [txCells, hl.1]⟩
  refine ⟨hv, m, [], w.heap.size, a, b, c, d, e, f, rfl, ?_, by simp, Nat.le_refl _, by simp, h0, h1, (h.blk.alloc _).drew, (h.map.alloc _).drew, fun _ hp => hp, World.ownsRow_nil _ _ _ _, Blk.new w _ _, Nat.le_refl _, by simp [Value.ownBlock], ?_, (Chg.refl _ w).new _ |>.draw⟩
  · rcases hg with ⟨hg, rfl⟩ | ⟨x, hg, rfl, _⟩ <;> rw [hg] <;> rfl
  · intro x hx
    rcases hg with ⟨hg, _⟩ | ⟨y, hg, _, he⟩
    · rw [hg] at hx; cases hx
    · rw [hg] at hx; injection hx with hx; subst hx; exact he

theorem rowI_next {w w3 : World} {g mb : Nat} {o hv : Int} {m mk : Held} {hk : Int} {xs : List (Tx × Value)} {k : Nat} {t : Tx} {v out : Value}
    (hrow : rowM m.length hv m = (xs ++ (rowM k hk mk).1, (rowM k hk mk).2)) (hlen : mk.length ≤ k) (hlen2 : xs.length + mk.length ≤ m.length) (hg : hget mk (hk + 1) = some (t, v)) (hk0 : 0 ≤ hk)
    (hk1 : hk + mk.length ≤ 4611686018427387999) (B3 : Blk w3 g 82 [.int .i64 o, .int .i64 (hk + 1), .map (some mb)]) (M3 : GMap intKey w3 mb (heldV (hdel mk (hk + 1)))) (hsub : ∀ p ∈ mk, p ∈ m)
    (O3 : w3.ownsRow w.heap.size 34 6 out (xs.length + 1) (xs.flatMap (fun x => txCells x.1 x.2) ++ txCells t v)) (hno : out.ownBlock ≠ some w3.heap.size) (KK : Chg (fun b => b = g ∨ b = mb) w w3)
    {bb : Bool} {a b c d e f : Value} (hl : lookV (hdel mk (hk + 1)) (hk + 1 + 1) = Value.tuple #[.agg #[a, b, c, d, e, f], .bool bb]) :
    RowI w g mb o hv m (k - 1) out (.pointer (some ⟨w3.heap.size, 0, none⟩)) (.bool bb) (w3.alloc (.cells #[a, b, c, d, e, f] 34)).drew := by
  have hd := hdel_len hg
  obtain ⟨k, rfl⟩ : ∃ j, k = j + 1 := ⟨k - 1, by omega⟩
  have hr : rowM (k + 1) hk mk = ((t, v) :: (rowM k (hk + 1) (hdel mk (hk + 1))).1, (rowM k (hk + 1) (hdel mk (hk + 1))).2) := by
    simp only [rowM, hg]
  rw [hr] at hrow
  have hgg : hget (hdel mk (hk + 1)) (hk + 1 + 1) = none ∧ bb = false ∨ ∃ x, hget (hdel mk (hk + 1)) (hk + 1 + 1) = some x ∧ bb = true ∧ [a, b, c, d, e, f] = txCells x.1 x.2 := by
    unfold lookV at hl
    cases hh : hget (hdel mk (hk + 1)) (hk + 1 + 1) with
    | none => rw [hh] at hl; simp at hl; exact .inl ⟨rfl, hl.2⟩
    | some x => rw [hh] at hl; simp [txVal] at hl; exact .inr ⟨x, rfl, hl.2, by simp [txCells, hl.1]⟩
  refine ⟨hk + 1, hdel mk (hk + 1), xs ++ [(t, v)], w3.heap.size, a, b, c, d, e, f, rfl, ?_, by simpa using hrow, by simp; omega, by simp; omega, by omega, by omega, (B3.alloc _).drew, (M3.alloc _).drew, fun p hp => hsub p (hdel_sub p hp), ?_, Blk.new w3 _ _, KK.size, hno, ?_, (KK.new _).draw⟩
  · rcases hgg with ⟨hg, rfl⟩ | ⟨x, hg, rfl, _⟩ <;> rw [hg] <;> rfl
  · have h1 : (w3.alloc (.cells #[a, b, c, d, e, f] 34)).drew.ownsRow w.heap.size 34 6 out (xs.length + 1) (xs.flatMap (fun x => txCells x.1 x.2) ++ txCells t v) := (O3.alloc (.cells #[a, b, c, d, e, f] 34))
    simpa [List.flatMap_append] using h1
  · intro x hx
    rcases hgg with ⟨hg, _⟩ | ⟨y, hg, _, he⟩
    · rw [hg] at hx; cases hx
    · rw [hg] at hx; injection hx with hx; subst hx; exact he

theorem rowI_end {w wr : World} {g mb : Nat} {o hv : Int} {m mk : Held} {hk : Int} {xs : List (Tx × Value)} {k : Nat} {out : Value} (h : Bufr X w g mb o hv m)
    (hrow : rowM m.length hv m = (xs ++ (rowM k hk mk).1, (rowM k hk mk).2)) (hg : hget mk (hk + 1) = none)
    (B3 : Blk wr g 82 [.int .i64 o, .int .i64 hk, .map (some mb)]) (M3 : GMap intKey wr mb (heldV mk)) (hsub : ∀ p ∈ mk, p ∈ m)
    (O3 : wr.ownsRow w.heap.size 34 6 out xs.length (xs.flatMap (fun x => txCells x.1 x.2))) (KK : Chg (fun b => b = g ∨ b = mb) w wr) :
    ∃ v, Ending.returned out = Ending.returned v ∧ Bufr X wr g mb o (rowM m.length hv m).2.1 (rowM m.length hv m).2.2 ∧
      wr.ownsRow w.heap.size 34 6 v (rowM m.length hv m).1.length ((rowM m.length hv m).1.flatMap (fun x => txCells x.1 x.2)) ∧ Chg (fun b => b = g ∨ b = mb) w wr := by
  have hr : rowM k hk mk = ([], hk, mk) := by
    cases k with
    | zero => rfl
    | succ k => simp only [rowM, hg]
  rw [hr, List.append_nil] at hrow
  rw [hrow]
  exact ⟨out, rfl, ⟨B3, M3, fun p hp => (h.ws p (hsub p hp)).chg KK (fun b hb hF => by rcases hF with hF | hF; exact hb.1 hF; exact hb.2.1 hF)⟩, O3, KK⟩

set_option maxRecDepth 100000 in
set_option maxHeartbeats 1000000 in
theorem row_any (g mb : Nat) (o hv : Int) (m : Held) (w : World) (h : Bufr X w g mb o hv m) (h0 : 0 ≤ hv) (h1 : hv + m.length ≤ 4611686018427387999) (hl : m.length ≤ 1000) :
    Calls Try.prog 36 #[.pointer (some ⟨g, 0, none⟩)] w fun e w' => ∃ v, e = .returned v ∧ Bufr X w' g mb o (rowM m.length hv m).2.1 (rowM m.length hv m).2.2 ∧
      w'.ownsRow w.heap.size 34 6 v (rowM m.length hv m).1.length ((rowM m.length hv m).1.flatMap (fun x => txCells x.1 x.2)) ∧ Chg (fun b => b = g ∨ b = mb) w w' := by
  obtain ⟨i0, hi0, hz0, hz1, hz2'⟩ := info_parts info34
  have c1 : w.cell? ⟨g, 1, none⟩ = some (.int .i64 hv) := h.blk.cell 1
  have c2 : w.cell? ⟨g, 2, none⟩ = some (.map (some mb)) := h.blk.cell 2
  have HB := hid h
  have hlt : g < w.heap.size := h.blk.lt
  have hw1 : IntKind.i64.wrap (hv + 1) = hv + 1 := IntWalk.i64_in _ (by omega)
  have HL0 : ∀ W, GMap intKey W mb (heldV m) → Looks mb (hv + 1) (lookV m (hv + 1)) W := fun W hW => looks_of hW _
  replace HL0 := hid HL0
  have HM := hid h.map
  have HW := hid h.ws
  clear h
  obtain ⟨lv, hlv⟩ : ∃ lv, lv = lookV m (hv + 1) := ⟨_, rfl⟩
  have hvv := lookV_form (HW.out) (hv + 1)
  rw [← hlv] at hvv
  rw [← hlv] at HL0
  have HLV := hid hlv
  clear hlv
  obtain ⟨bb, a, b, c, d, e, fA, fn, fc, rfl⟩ := hvv
  have HL : (Instr.lookup 80 (.map (some mb)) (.int .i64 (hv + 1)) true).run Try.prog w = .ok (.tuple #[.agg #[.int .i64 a, .int .i64 b, .int .i64 c, .int .i64 d, .int .i64 e, .slice fA fn fc], .bool bb]) w := HL0.out w HM.out
  have H1 := hid h1
  have H2 := hid hl
  clear h1 hl
  go_enter Try.func36, Try.ntmps36
  go_wp2_with fail
  go_cut [4, 5] (fun tp is wc => RowI w g mb o hv m m.length (.slice none 0 0) tp is wc)
  case first =>
    go_region_held3 (fun w' => w'.cell? ⟨g, 1, none⟩ = some (.int .i64 hv) ∧ w'.cell? ⟨g, 2, none⟩ = some (.map (some mb)) ∧ (Instr.lookup 80 (.map (some mb)) (.int .i64 (hv + 1)) true).run Try.prog w' = .ok (.tuple #[.agg #[.int .i64 a, .int .i64 b, .int .i64 c, .int .i64 d, .int .i64 e, .slice fA fn fc], .bool bb]) w')
      (first
        | (go_split_ands
           refine ⟨by go_keep, by go_keep, ?_⟩
           first | assumption | exact HL0.out _ HM.out.drew | exact HL0.out _ (HM.out.drew.alloc _)))
      (fail)
    all_goals
      go_wp2_with fail
      go_meet
      exact rowI_start HB.out h0 H1.out HLV.out
  case rest =>
    clear HL HLV HL0 HM HW H1 hw1 hlt c1 c2 h0
    go_wp2_with fail
    go_loopg [3, 4, 5] m.length (fun k out tp is wr => RowI w g mb o hv m k out tp is wr)
    case atStart => exact hcut
    case round =>
      clear hcut
      obtain ⟨hk, mk, xs, tb, c0, c1, c2, c3, c4, c5, rfl, rfl, hrow, hlen, hlen2, hk0, hk1, HBk, HMk, hsub, hown, hblk, htb, hne, hcs, hchg⟩ := hrel
      cases hg : hget mk (hk + 1) with
      | none =>
        have hend := rowI_end HB.out hrow hg HBk HMk hsub hown hchg
        replace hend := hid hend
        clear hrow hg HBk HMk hsub hown hchg hcs hk0 hk1 hlen hlen2
        go_wp2
        go_returns
        exact hend.out
      | some x =>
        obtain ⟨t, v⟩ := x
        obtain ⟨sA, sc, hvs, _⟩ := HB.out.ws _ (hsub _ (hget_mem hg))
        simp only [] at hvs
        subst hvs
        have hcs' := hcs _ hg
        simp only [txCells, List.cons.injEq, and_true] at hcs'
        obtain ⟨rfl, rfl, rfl, rfl, rfl, rfl⟩ := hcs'
        clear hcs
        have d1 : wr.cell? ⟨g, 1, none⟩ = some (.int .i64 hk) := HBk.cell 1
        have d2 : wr.cell? ⟨g, 2, none⟩ = some (.map (some mb)) := HBk.cell 2
        have f1 : wr.frozen? ⟨g, 1, none⟩ = false := HBk.free 1
        have hw1 : IntKind.i64.wrap (hk + 1) = hk + 1 := IntWalk.i64_in _ (by omega)
        replace HBk := hid HBk
        replace HMk := hid HMk
        replace hsub := hid hsub
        replace hchg := hid hchg
        replace hrow := hid hrow
        replace hown := hid hown
        replace hblk := hid hblk
        replace hk1 := hid hk1
        replace hg := hid hg
        have hgm : g ≠ mb := HMk.out.ne_blk HBk.out
        have B1 : Blk (wr.setCell ⟨g, 1, none⟩ (.int .i64 (hk + 1))) g 82 [.int .i64 o, .int .i64 (hk + 1), .map (some mb)] := HBk.out.set 1 _
        have M1 : GMap intKey (wr.setCell ⟨g, 1, none⟩ (.int .i64 (hk + 1))) mb (heldV mk) := HMk.out.setCell (p := ⟨g, 1, none⟩) hgm _
        replace B1 := hid B1
        replace M1 := hid M1
        go_wp2_with fail
        go_region_held3 (fun w' => w'.cell? ⟨g, 1, none⟩ = some (.int .i64 (hk + 1)) ∧ w'.cell? ⟨g, 2, none⟩ = some (.map (some mb)))
          (first
            | exact ⟨B1.out.drew.cell 1, B1.out.drew.cell 2⟩
            | exact ⟨(Blk.chg B1.out.drew k2 hgm).cell 1, (Blk.chg B1.out.drew k2 hgm).cell 2⟩)
          ((refine step_delete_g (by rfl) _ _ (by rfl) txKeys Try.underlying80 (by rfl) M1.out.drew (hk + 1) (by rfl) ?_; intro w2 M2 k2))
        have htg : tb ≠ g := hblk.out.ne HBk.out (by decide)
        have htm : tb ≠ mb := HMk.out.ne_blk hblk.out
        have hog : u3.ownBlock ≠ some g := own_blk_ne hown.out HBk.out (by decide)
        have hom : u3.ownBlock ≠ some mb := HMk.out.own_ne hown.out
        have B2 : Blk w2 g 82 [.int .i64 o, .int .i64 (hk + 1), .map (some mb)] := Blk.chg B1.out.drew k2 hgm
        have T2 : Blk w2 tb 34 [.int .i64 t.o, .int .i64 t.s, .int .i64 t.d0, .int .i64 t.d1, .int .i64 t.d2, .slice sA t.ws.length sc] := Blk.chg ((hblk.out.far (p := ⟨g, 1, none⟩) htg _).drew) k2 htm
        have O2 : w2.ownsRow w.heap.size 34 6 u3 xs.length (xs.flatMap (fun x => txCells x.1 x.2)) :=
          own_chg (own_chg hown.out ((Chg.refl (fun i => i = g) wr).set (p := ⟨g, 1, none⟩) rfl (.int .i64 (hk + 1)) |>.draw) (fun i hi e => hog (by rw [hi, e]))) k2 (fun i hi e => hom (by rw [hi, e]))
        have hz2 : w.heap.size ≤ w2.heap.size := by have h1 := T2.lt; omega
        have ct := T2.cell
        have ft := T2.free
        replace B2 := hid B2
        replace T2 := hid T2
        replace O2 := hid O2
        have hlen3 : xs.length + 1 ≤ 1000 := by have := hdel_len hg.out; have := H2.out; omega
        replace hlen3 := hid hlen3
        go_upto_region 8 with (at_builtin; (refine wpList_append_rd _ rfl (.tmp 48) (.tmp 50) _ rfl w.heap.size 34 i0 _ 6 64 Try.underlying29 hi0 hz0 hz1 hz2' rfl (by omega) u3 xs.length (xs.flatMap (fun x => txCells x.1 x.2)) rfl ((O2.out).alloc _) (fun _ => True) (some ⟨w2.heap.size, 0, none⟩) 1 1 (txCells t _) rfl (Rd.new w2 _ _ 1 6 rfl trivial) txCells_one (by have := hlen3.out; simp only [maxLen]; omega) (by have := hlen3.out; omega) (by simp; omega) ?_); intro u3' w3 O3 hg3)
        have K3 : Chg (fun i => some i = u3.ownBlock) w2 w3 := (Chg.alloc _ w2 _).trans (Chg.grown hg3 (fun k hk => hk.symm))
        have B3 : Blk w3 g 82 [.int .i64 o, .int .i64 (hk + 1), .map (some mb)] := B2.out.chg K3 (fun e => hog e.symm)
        have M3 : GMap intKey w3 mb (heldV (hdel mk (hk + 1))) := by
          rw [← heldV_del]; exact GMap.chg M2 K3 (fun e => hom e.symm)
        have T3 : Blk w3 tb 34 [.int .i64 t.o, .int .i64 t.s, .int .i64 t.d0, .int .i64 t.d1, .int .i64 t.d2, .slice sA t.ws.length sc] := T2.out.chg K3 (fun e => hne e.symm)
        have hno : u3'.ownBlock ≠ some w3.heap.size := fun e => by have := O3.lt _ e; omega
        have KK : Chg (fun b => b = g ∨ b = mb) w w3 :=
          (hchg.out.trans (((Chg.refl (fun i => i = g ∨ i = mb) wr).set (p := ⟨g, 1, none⟩) (.inl rfl) (.int .i64 (hk + 1)) |>.draw).trans (k2.mono (fun i h => .inr h)))).trans' K3
            (fun i hi e => absurd (hown.out.lt i e.symm).1 (by omega))
        have lf := lookV_form (w := w) (S := fun b => b ≠ g ∧ b ≠ mb ∧ ¬ X b) (m := hdel mk (hk + 1)) (fun p hp => HB.out.ws p (hsub.out p (hdel_sub p hp))) (hk + 1 + 1)
        obtain ⟨lb, la, lb1, lc, ld, le, lA, ln, lcc, hlf⟩ := lf
        have HLk : ∀ W, GMap intKey W mb (heldV (hdel mk (hk + 1))) → Looks mb (hk + 1 + 1) (.tuple #[.agg #[.int .i64 la, .int .i64 lb1, .int .i64 lc, .int .i64 ld, .int .i64 le, .slice lA ln lcc], .bool lb]) W := fun W hW => by rw [← hlf]; exact looks_of hW _
        have hw2 : IntKind.i64.wrap (hk + 1 + 1) = hk + 1 + 1 := IntWalk.i64_in _ (by have := hk1.out; omega)
        replace HLk := hid HLk
        replace hlf := hid hlf
        replace B3 := hid B3
        replace M3 := hid M3
        replace O3 := hid O3
        replace KK := hid KK
        have ct3 := T3.cell
        clear hg3 K3 ct ft k2 M2
        go_wp2_with fail
        go_region_held3 (fun w' => w'.cell? ⟨g, 1, none⟩ = some (.int .i64 (hk + 1)) ∧ w'.cell? ⟨g, 2, none⟩ = some (.map (some mb)) ∧ (Instr.lookup 80 (.map (some mb)) (.int .i64 (hk + 1 + 1)) true).run Try.prog w' = .ok (.tuple #[.agg #[.int .i64 la, .int .i64 lb1, .int .i64 lc, .int .i64 ld, .int .i64 le, .slice lA ln lcc], .bool lb]) w')
          (exact ⟨(B3.out.alloc _).drew.cell 1, (B3.out.alloc _).drew.cell 2, HLk.out _ (M3.out.alloc _).drew⟩)
          (fail)
        all_goals
          go_wp2_with fail
          go_roundg (gk - 1)
          case rel => exact rowI_next hrow.out hlen hlen2 hg.out hk0 hk1.out B3.out M3.out hsub.out O3.out hno KK.out hlf.out
          case measure => have h1 := hdel_len hg.out; omega
end Go.Proofs.Ytllkeifldfmbkaa
