/- Layer 14: the law OrderTurned, walked, given what its fixed run returns. -/
import Derived.Test.YtllkeifldfmbkaaTurnB
namespace Go.Proofs.Ytllkeifldfmbkaa
open Go.RowKit

theorem info_tx : (Try.prog.info? 34).map (·.size) = some 6 := by kernel_rfl
/-- A row of bytes. -/
def Bys (w : World) (S : Nat → Prop) (v : Value) (xs : List Int) : Prop :=
  ∃ A c, v = .slice A xs.length c ∧ xs.length ≤ c ∧ c ≤ maxLen ∧ Rd w S 1 A xs.length (xs.map (Value.int .u8)) ∧ ∀ x ∈ xs, 0 ≤ x ∧ x ≤ 255
theorem Rd.byte {w : World} {S : Nat → Prop} {A : Option Addr} {xs : List Int} (h : Rd w S 1 A xs.length (xs.map (Value.int .u8))) {k : Nat} {n : Int} (hk : xs[k]? = some n) : ∃ b o, A = some ⟨b, o, none⟩ ∧ b < w.heap.size ∧ w.cell? ⟨b, o + k, none⟩ = some (.int .u8 n) := by
  have hlt : k < xs.length := (List.getElem?_eq_some_iff.1 hk).1
  obtain ⟨b, o, e, hb, _, hc⟩ := h.2 (by omega)
  exact ⟨b, o, e, hb, hc k _ (by rw [List.getElem?_map, hk]; rfl)⟩

/-- Element c of a row of six cells each is cs. -/
def CellsAt (w : World) (g c : Nat) (cs : List Value) : Prop := ∀ i u, i < 6 → cs[i]? = some u → w.cell? ⟨g, c * 6 + i, none⟩ = some u
theorem CellsAt.put {w : World} {g c : Nat} {cs : List Value} (h : CellsAt w g c cs) (a k : Nat) (v : Value) (hk : k < 6) (hv : cs[k]? = some v) : CellsAt (w.setCell ⟨g, a * 6 + k, none⟩ v) g c cs := by
  intro i u hi hu
  by_cases e : a * 6 + k = c * 6 + i
  · have : k = i := by omega
    subst this
    rw [hv] at hu
    injection hu with hu
    rw [e, ← hu]
    exact World.cell?_setCell_same _ _ _ (h k v hk hv)
  · rw [World.cell?_setCell_other _ _ _ _ (by simp only [ne_eq, Addr.mk.injEq, true_and, and_true]; exact e)]
    exact h i u hi hu

theorem swap_rel {w3 W : World} {lg lc k B1 a c : Nat} {rv : Value} {ps : List Nat} {ja jc : Nat} (hl : W.ownsRow w3.heap.size 34 6 (.slice (some ⟨lg, 0, none⟩) k lc) k (rowC ps)) (hrow : W.ownsRow B1 34 6 rv k (rowC (List.range k))) (hB : lg < B1) (hlg : w3.heap.size ≤ lg)
    (hbel : Below w3.heap.size w3 W) (hps : ps.Perm (List.range k)) (hja : ps[a]? = some ja) (hjc : ps[c]? = some jc) :
    ((ps.set a jc).set c ja).Perm (List.range k) ∧ ((W.setCells lg (a * 6) (txCells (U (11 + (jc : Int))) (.slice none 0 0))).setCells lg (c * 6) (txCells (U (11 + (ja : Int))) (.slice none 0 0))).drew.ownsRow w3.heap.size 34 6 (.slice (some ⟨lg, 0, none⟩) k lc) k (rowC ((ps.set a jc).set c ja)) ∧
            ((W.setCells lg (a * 6) (txCells (U (11 + (jc : Int))) (.slice none 0 0))).setCells lg (c * 6) (txCells (U (11 + (ja : Int))) (.slice none 0 0))).drew.ownsRow B1 34 6 rv k (rowC (List.range k)) ∧ Below w3.heap.size w3 ((W.setCells lg (a * 6) (txCells (U (11 + (jc : Int))) (.slice none 0 0))).setCells lg (c * 6) (txCells (U (11 + (ja : Int))) (.slice none 0 0))).drew := by
  have ha := (List.getElem?_eq_some_iff.1 hja).1
  have hc := (List.getElem?_eq_some_iff.1 hjc).1
  have e1 := rowC_set (ps := ps) (k := a) ha jc
  have e2 := rowC_set (ps := ps.set a jc) (k := c) (by simpa using hc) ja
  obtain ⟨o1, n1⟩ := own_setL (txCells (U (11 + (jc : Int))) (.slice none 0 0)) (a * 6) hl
  rw [e1] at o1
  obtain ⟨o2, n2⟩ := own_setL (txCells (U (11 + (ja : Int))) (.slice none 0 0)) (c * 6) o1
  rw [e2] at o2
  have hne : ∀ h, rv.ownBlock = some h → ¬ h = lg := fun h hh e => by have := (hrow.lt h hh).1; omega
  have r1 := own_chg hrow (Chg.grown (F := fun h => h = lg) n1 (fun h hh => by injection hh with hh; exact hh.symm)) hne
  have r2 := own_chg r1 (Chg.grown (F := fun h => h = lg) n2 (fun h hh => by injection hh with hh; exact hh.symm)) hne
  have t1 := Below.grown hbel n1 hbel.size (fun h hh => by injection hh with hh; omega)
  have t2 := Below.grown t1 n2 t1.size (fun h hh => by injection hh with hh; omega)
  exact ⟨(swap_perm ps hja hjc).trans hps, own_chg o2 (Chg.drew (fun _ => False) _) (fun _ _ => id), own_chg r2 (Chg.drew (fun _ => False) _) (fun _ _ => id), t2.drew⟩

def ov_ne (v : Value) (b : Nat) : Prop := v.ownBlock = some b → False
/-- What the loop of the Puts keeps. -/
def OutI (W2 : World) (g mb : Nat) (ps : List Nat) (M n : Nat) (ov ix : Value) (wr : World) : Prop :=
  ∃ (t : Nat) (m : Held) (outs : List (Tx × Value)), t ≤ M ∧ n = M - t ∧ ix = .int .i64 t ∧ wr.ownsRow W2.heap.size 34 6 ov outs.length (outs.flatMap (fun x => txCells x.1 x.2)) ∧ (∀ (i : Nat) x, outs[i]? = some x → x.1 = U (11 + (i : Int))) ∧
    (∀ x ∈ outs, Ws wr (fun _ => True) x.2 x.1.ws) ∧ Bufr (fun _ => False) wr g mb 2 (10 + (outs.length : Int)) m ∧ TurnM ps t outs.length m ∧ Chg (fun b => b = g ∨ b = mb) W2 wr
theorem U_of_get {outs : List (Tx × Value)} {f : Nat → Int} (h : ∀ (i : Nat) x, outs[i]? = some x → x.1 = U (f i)) : ∀ x ∈ outs, x.1.ws = [] := by
  intro x hx
  obtain ⟨i, hi⟩ := List.getElem?_of_mem hx
  rw [h i x hi]; rfl
theorem txs_one {w : World} {S : Nat → Prop} {v : Value} {l : List (Tx × Value)} (h : Txs w S v l) : ∀ u ∈ l.flatMap (fun x => txCells x.1 x.2), u.oneCell' = true := by
  obtain ⟨_, _, _, _, _, _, hw⟩ := h
  intro u hu
  obtain ⟨x, hx, hu⟩ := List.mem_flatMap.1 hu
  obtain ⟨A, c, e, _⟩ := hw x hx
  rw [e] at hu
  exact txCells_one u hu
theorem out_step {W2 wr w6 w7 : World} {g mb : Nat} {ps : List Nat} {M t : Nat} {ov ov' : Value} {m' : Held} {outs out : List (Tx × Value)} {o : Obj} {A : Option Addr} {c : Nat} (ht : t < M)
    (hown : wr.ownsRow W2.heap.size 34 6 ov outs.length (outs.flatMap (fun x => txCells x.1 x.2))) (hout : ∀ (i : Nat) x, outs[i]? = some x → x.1 = U (11 + (i : Int))) (hws : ∀ x ∈ outs, Ws wr (fun _ => True) x.2 x.1.ws)
    (hch : Chg (fun b => b = g ∨ b = mb) W2 wr) (hB6 : Bufr (fun _ => False) w6 g mb 2 (10 + ((outs.length + out.length : Nat) : Int)) m') (I6 : TurnM ps (t + 1) (outs.length + out.length) m')
    (ho6 : ∀ (i : Nat) x, out[i]? = some x → x.1 = U (11 + ((outs.length + i : Nat) : Int))) (hT6 : Txs w6 (fun _ => True) (.slice A out.length c) out) (K6 : Chg (fun b => b = g ∨ b = mb) (wr.alloc o) w6)
    (O6 : w6.ownsRow W2.heap.size 34 6 ov outs.length (outs.flatMap (fun x => txCells x.1 x.2)))
    (O7 : w7.ownsRow W2.heap.size 34 6 ov' (outs.length + out.length) (outs.flatMap (fun x => txCells x.1 x.2) ++ out.flatMap (fun x => txCells x.1 x.2))) (hg7 : w6.grownBy w7 ov.ownBlock) :
    OutI W2 g mb ps M (M - (t + 1)) ov' (.int .i64 ((t + 1 : Nat) : Int)) w7 := by
  have K7 : Chg (fun i => some i = ov.ownBlock) w6 w7 := Chg.grown hg7 (fun k hk => hk.symm)
  obtain ⟨_, _, _, _, _, _, hwo⟩ := hT6
  refine ⟨t + 1, m', outs ++ out, by omega, rfl, rfl, ?_, fun i x hx => ?_, fun x hx => ?_, ?_, by rw [List.length_append]; exact I6, ?_⟩
  · rw [List.length_append, List.flatMap_append]; exact O7
  · by_cases hi : i < outs.length
    · rw [List.getElem?_append_left hi] at hx; exact hout i x hx
    · rw [List.getElem?_append_right (by omega)] at hx
      have := ho6 _ x hx
      rwa [show outs.length + (i - outs.length) = i by omega] at this
  · rcases List.mem_append.1 hx with hx | hx
    · exact ws_nil_any (hws x hx) (U_of_get hout x hx)
    · exact ws_nil_any (hwo x hx) (U_of_get (f := fun i => 11 + ((outs.length + i : Nat) : Int)) ho6 x hx)
  · rw [List.length_append]
    exact bufr_far hB6 K7 (fun e => own_blk_ne O6 hB6.blk (by decide) e.symm) (fun e => hB6.map.own_ne O6 e.symm) I6.nil
  · exact ((hch.new o).trans K6).trans' K7 (fun i hi e => by have := (hown.lt i e.symm).1; omega)

set_option maxRecDepth 100000 in
set_option maxHeartbeats 8000000 in
theorem turned_any (HA : ∀ w, Calls Try.prog 8 #[] w fun e w' => e = .returned (.bool true) ∧ Below w.heap.size w w') (a : Int) (S : Nat → Prop) (v : Value) (xs : List Int) (w : World) (ha0 : 0 ≤ a) (ha1 : a ≤ 255) (h : Bys w S v xs) :
    Calls Try.prog 4 #[.int .u8 a, v] w fun e w' => e = .returned (.bool true) ∧ Below w.heap.size w w' := by
  obtain ⟨i0, hi0, hz0, hz1, hz2⟩ := info_parts info34
  obtain ⟨A, c, rfl, hc, hm, hr, hx⟩ := h
  have hm1 := hm; unfold maxLen at hm1
  replace HA := hid HA
  replace hr := hid hr
  replace hx := hid hx
  go_enter Try.func4, Try.ntmps4
  go_wp2_with fail
  refine (HA.out _).mono ?_
  rintro e w1 ⟨rfl, hb1⟩
  replace hb1 := hid hb1
  by_cases hlo : a < 1
  · go_wp2
    go_returns
    exact ⟨rfl, hb1.out⟩
  by_cases hhi : 8 < a
  · go_wp2
    go_returns
    exact ⟨rfl, hb1.out⟩
  by_cases hlen : 100 < xs.length
  · go_wp2
    go_returns
    exact ⟨rfl, hb1.out⟩
  obtain ⟨M, rfl⟩ : ∃ M : Nat, a = (M : Int) := ⟨a.toNat, by omega⟩
  have hM1 : 1 ≤ M := by omega
  have hM8 : M ≤ 8 := by omega
  have hlen' : xs.length ≤ 100 := by omega
  clear hlo hhi hlen ha0 ha1
  have hN := fun W => new_ok (X := fun _ => False) 2 10 W (by decide) (by decide) (by decide) (by decide)
  replace hN := hid hN
  go_wp2_with fail
  refine (hN.out _).mono ?_
  rintro e w3 ⟨rfl, hB3, hb3⟩
  have hbw3 : Below w.heap.size w w3 := hb1.out.next hb3
  obtain ⟨g, hgg⟩ : ∃ g, g = w1.heap.size + 1 := ⟨_, rfl⟩
  obtain ⟨mb, hmb⟩ : ∃ mb, mb = w1.heap.size := ⟨_, rfl⟩
  have hgb : w.heap.size ≤ g := by have := hb1.out.size; omega
  have hmbb : w.heap.size ≤ mb := by have := hb1.out.size; omega
  rw [← hgg, ← hmb] at hB3
  rw [← hgg]
  have hg3 : g < w3.heap.size := hB3.blk.lt
  have hm3 : mb < w3.heap.size := hB3.map.lt
  clear hgg hmb hb1 hN hb3
  replace hB3 := hid hB3
  replace hbw3 := hid hbw3
  go_wp2_with fail
  go_loopg [7, 40] M (fun n lv ix wr => ∃ k : Nat, k ≤ M ∧ n = M - k ∧ ix = .int .i64 k ∧ wr.ownsRow w3.heap.size 34 6 lv k (rowC (List.range k)) ∧ Below w3.heap.size w3 wr)
  case atStart => exact ⟨0, Nat.zero_le _, by omega, rfl, World.ownsRow_made w3 #[] 0 (Nat.le_refl _) (by simp) (by simp), (Below.refl _ _).alloc (Nat.le_refl _) _⟩
  case round =>
    obtain ⟨k, hk, rfl, rfl, hown, hbel⟩ := hrel
    replace hown := hid hown
    replace hbel := hid hbel
    by_cases hlt : k < M
    · have hnew : ∀ j u, [Value.int IntKind.i64 2, Value.int IntKind.i64 (11 + (k : Int)), Value.int IntKind.i64 0, Value.int IntKind.i64 0, Value.int IntKind.i64 (10 + (k : Int)), Value.slice none 0 0][j]? = some u → (wr.alloc (.cells #[Value.int IntKind.i64 2, Value.int IntKind.i64 (11 + (k : Int)), Value.int IntKind.i64 0, Value.int IntKind.i64 0, Value.int IntKind.i64 (10 + (k : Int)), Value.slice none 0 0] 34)).cell? ((⟨wr.heap.size, 0, none⟩ : Addr).add j) = some u := new_cells wr 34 _
      have hone : ∀ u ∈ [Value.int IntKind.i64 2, Value.int IntKind.i64 (11 + (k : Int)), Value.int IntKind.i64 0, Value.int IntKind.i64 0, Value.int IntKind.i64 (10 + (k : Int)), Value.slice none 0 0], u.oneCell' = true := by simp [Value.oneCell']
      have hsz := hbel.out.size
      replace hnew := hid hnew
      replace hone := hid hone
      go_wp2_with (at_builtin; (refine wpList_append_at _ rfl (.tmp 43) (.tmp 50) _ rfl w3.heap.size 34 i0 _ 6 64 Try.underlying29 hi0 hz0 hz1 hz2 rfl (by omega) u7 k (rowC (List.range k)) rfl (hown.out.alloc _) ⟨wr.heap.size, 0, none⟩ 1 1 _ rfl rfl hnew.out hone.out (by simp only [maxLen]; omega) (by omega) (by simp; omega) ?_); intro lv' w5 O5 hg5 hloc)
      go_roundg (M - (k + 1))
      case rel =>
        have e1 : rowC (List.range k) ++ [Value.int IntKind.i64 2, Value.int IntKind.i64 (11 + (k : Int)), Value.int IntKind.i64 0, Value.int IntKind.i64 0, Value.int IntKind.i64 (10 + (k : Int)), Value.slice none 0 0] = rowC (List.range (k + 1)) := by
          rw [List.range_succ, rowC, rowC, List.flatMap_append]
          simp [txCells, U]
          omega
        rw [e1] at O5
        exact ⟨k + 1, by omega, rfl, by go_num, O5, Below.grown (hbel.out.alloc hbel.out.size _) hg5 (by simp; omega) (fun r hr => (hown.out.lt r hr).1)⟩
      case measure => omega
    · obtain rfl : k = M := by omega
      obtain ⟨lg, lc, rfl, hlg, hlgl⟩ : ∃ lg lc, u7 = .slice (some ⟨lg, 0, none⟩) k lc ∧ w3.heap.size ≤ lg ∧ lg < wr.heap.size := by
        have hl := fun g hg => (hown.out.lt g hg).2
        rcases hown.out.2 with ⟨_, h0⟩ | ⟨g', cap', cur, rfl, hb', _⟩
        · omega
        · exact ⟨g', cap', rfl, hb', hl g' rfl⟩
      have hRd := Rd.of_own (S := fun _ => True) hown.out (fun _ _ _ => trivial)
      replace hRd := hid hRd
      have hone := hid (rowC_one (List.range k))
      go_wp2_with (at_builtin; (refine wpList_append_rd _ rfl (.tmp 53) (.tmp 54) _ rfl wr.heap.size 34 i0 _ 6 64 Try.underlying29 hi0 hz0 hz1 hz2 rfl (by omega) (.slice (some ⟨wr.heap.size, 0, none⟩) 0 0) 0 [] rfl (World.ownsRow_made wr #[] 0 (Nat.le_refl _) (by simp) (by simp)) (fun _ => True) (some ⟨lg, 0, none⟩) k lc (rowC (List.range k)) rfl (hRd.out.alloc _) hone.out (by simp only [maxLen]; omega) (by omega) (by simp) ?_); intro rv w5 O5 hg5)
      have K5 : Below wr.heap.size wr w5 := Below.grown ((Below.refl _ _).alloc (Nat.le_refl _) _) hg5 (by simp) (fun r hr => by simp [Value.ownBlock] at hr; omega)
      have OL5 := own_chg hown.out (Chg.of_below (F := fun _ => False) K5) (fun _ _ => id)
      have hbel5 : Below w3.heap.size w3 w5 := hbel.out.trans (K5.mono hbel.out.size)
      obtain ⟨B1, hB1⟩ : ∃ B1, B1 = wr.heap.size := ⟨_, rfl⟩
      simp only [Nat.zero_add, List.nil_append] at O5
      rw [← hB1] at O5 hlgl
      clear hRd hone hB1 K5 hg5 hown hbel
      have hst : Hid (∃ ps : List Nat, ps.Perm (List.range k) ∧ w5.ownsRow w3.heap.size 34 6 (.slice (some ⟨lg, 0, none⟩) k lc) k (rowC ps) ∧ w5.ownsRow B1 34 6 rv k (rowC (List.range k)) ∧ Below w3.heap.size w3 w5) := hid ⟨_, List.Perm.refl _, OL5, O5, hbel5⟩
      clear OL5 O5 hbel5
      go_loopg [10] xs.length (fun n ix wr => ∃ (j : Nat) (ps : List Nat), ix = .int .i64 ((j : Int) + 1) ∧ n = xs.length - j ∧ ps.Perm (List.range k) ∧ wr.ownsRow w3.heap.size 34 6 (.slice (some ⟨lg, 0, none⟩) k lc) k (rowC ps) ∧ wr.ownsRow B1 34 6 rv k (rowC (List.range k)) ∧ Below w3.heap.size w3 wr)
      case atStart =>
        obtain ⟨ps, h1, h2, h3, h4⟩ := hst.out
        exact ⟨0, ps, by go_num, by omega, h1, h2, h3, h4⟩
      case round =>
        clear hst
        obtain ⟨j, ps, rfl, rfl, hps, hl, hrow, hbel⟩ := hrel
        replace hrow := hid hrow
        replace hbel := hid hbel
        replace hl := hid hl
        replace hps := hid hps
        by_cases hlt : j + 1 < xs.length
        · obtain ⟨x0, hx0⟩ : ∃ x0, xs[j]? = some x0 := ⟨_, List.getElem?_eq_getElem (by omega)⟩
          obtain ⟨x1, hx1⟩ : ∃ x1, xs[j + 1]? = some x1 := ⟨_, List.getElem?_eq_getElem hlt⟩
          obtain ⟨b, o, rfl, hbl, c0⟩ := (hr.out.below (hbw3.out.next hbel.out)).byte hx0
          obtain ⟨b', o', e', _, c1⟩ := (hr.out.below (hbw3.out.next hbel.out)).byte hx1
          injection e' with e'
          injection e' with e1 e2
          subst e1 e2
          have q0 := hx.out x0 (List.mem_of_getElem? hx0)
          have q1 := hx.out x1 (List.mem_of_getElem? hx1)
          have q00 := q0.1
          have q01 := q0.2
          have q10 := q1.1
          have q11 := q1.2
          have g0 : (0 : Int) ≤ (j : Int) := by omega
          have g1 : (j : Int) < (xs.length : Int) := by omega
          have g2 : (0 : Int) ≤ (j : Int) + 1 := by omega
          have g3 : (j : Int) + 1 < (xs.length : Int) := by omega
          have g4 : (1 : Int) ≤ (k : Int) := by omega
          clear hx0 hx1 q0 q1
          go_wp2_with fail
          go_quiet (fail)
          go_wp2_with fail
          have ha0 : 0 ≤ x0 % (k : Int) := Int.emod_nonneg _ (by omega)
          have ha1 : x0 % (k : Int) < (k : Int) := Int.emod_lt_of_pos _ (by omega)
          have hc0 : 0 ≤ x1 % (k : Int) := Int.emod_nonneg _ (by omega)
          have hc1 : x1 % (k : Int) < (k : Int) := Int.emod_lt_of_pos _ (by omega)
          obtain ⟨a, ha⟩ : ∃ a : Nat, x0 % (k : Int) = (a : Int) := ⟨(x0 % (k : Int)).toNat, by omega⟩
          obtain ⟨c', hc'⟩ : ∃ c' : Nat, x1 % (k : Int) = (c' : Int) := ⟨(x1 % (k : Int)).toNat, by omega⟩
          rw [ha] at ha1
          rw [hc'] at hc1
          have wa : wrap64 (x0 % (k : Int)) = (a : Int) := by rw [ha]; exact IntWalk.wrap64_in _ (by omega)
          have wc : wrap64 (x1 % (k : Int)) = (c' : Int) := by rw [hc']; exact IntWalk.wrap64_in _ (by omega)
          rw [wa, wc]
          clear wa wc ha hc' ha0 hc0
          have hpl : ps.length = k := by rw [hps.out.length_eq, List.length_range]
          obtain ⟨ja, hja⟩ : ∃ ja, ps[a]? = some ja := ⟨_, List.getElem?_eq_getElem (by omega)⟩
          obtain ⟨jc, hjc⟩ : ∃ jc, ps[c']? = some jc := ⟨_, List.getElem?_eq_getElem (by omega)⟩
          obtain ⟨W, hW⟩ : ∃ W, W = wr.drewN nq := ⟨_, rfl⟩
          rw [← hW]
          have hlW : W.ownsRow w3.heap.size 34 6 (.slice (some ⟨lg, 0, none⟩) k lc) k (rowC ps) := by rw [hW]; exact hl.out
          have hrowW : W.ownsRow B1 34 6 rv k (rowC (List.range k)) := by rw [hW]; exact hrow.out
          have hbelW : Below w3.heap.size w3 W := by rw [hW]; exact hbel.out.drewN nq
          clear hW hl hrow hbel c0 c1
          have hcell : ∀ (p : Nat) (q : Nat), ps[p]? = some q → ∀ i u, i < 6 → (txCells (U (11 + (q : Int))) (.slice none 0 0))[i]? = some u → W.cell? ⟨lg, p * 6 + i, none⟩ = some u := by
            intro p q hpq i u hi hu
            have := World.ownsRow.cells (g := lg) hlW rfl (p * 6 + i) u (by rw [rowC_get hpq i hi]; exact hu)
            rw [Addr.add_lit, Nat.zero_add] at this
            exact this
          have a0 : W.cell? ⟨lg, a * 6, none⟩ = some (.int .i64 2) := hcell a ja hja 0 _ (by omega) rfl
          have a1 : W.cell? ⟨lg, a * 6 + 1, none⟩ = some (.int .i64 (11 + (ja : Int))) := hcell a ja hja 1 _ (by omega) rfl
          have a2 : W.cell? ⟨lg, a * 6 + 2, none⟩ = some (.int .i64 0) := hcell a ja hja 2 _ (by omega) rfl
          have a3 : W.cell? ⟨lg, a * 6 + 3, none⟩ = some (.int .i64 0) := hcell a ja hja 3 _ (by omega) rfl
          have a4 : W.cell? ⟨lg, a * 6 + 4, none⟩ = some (.int .i64 (11 + (ja : Int) - 1)) := hcell a ja hja 4 _ (by omega) rfl
          have a5 : W.cell? ⟨lg, a * 6 + 5, none⟩ = some (.slice none 0 0) := hcell a ja hja 5 _ (by omega) rfl
          have b0 : W.cell? ⟨lg, c' * 6, none⟩ = some (.int .i64 2) := hcell c' jc hjc 0 _ (by omega) rfl
          have b1 : W.cell? ⟨lg, c' * 6 + 1, none⟩ = some (.int .i64 (11 + (jc : Int))) := hcell c' jc hjc 1 _ (by omega) rfl
          have b2 : W.cell? ⟨lg, c' * 6 + 2, none⟩ = some (.int .i64 0) := hcell c' jc hjc 2 _ (by omega) rfl
          have b3 : W.cell? ⟨lg, c' * 6 + 3, none⟩ = some (.int .i64 0) := hcell c' jc hjc 3 _ (by omega) rfl
          have b4 : W.cell? ⟨lg, c' * 6 + 4, none⟩ = some (.int .i64 (11 + (jc : Int) - 1)) := hcell c' jc hjc 4 _ (by omega) rfl
          have b5 : W.cell? ⟨lg, c' * 6 + 5, none⟩ = some (.slice none 0 0) := hcell c' jc hjc 5 _ (by omega) rfl
          have fr : ∀ i, W.frozen? ⟨lg, i, none⟩ = false := fun i => hlW.frozenAt i
          have g5 : (0 : Int) ≤ (a : Int) := by omega
          have g6 : (0 : Int) ≤ (c' : Int) := by omega
          replace hlW := hid hlW
          replace hrowW := hid hrowW
          replace hbelW := hid hbelW
          replace hja := hid hja
          replace hjc := hid hjc
          replace hpl := hid hpl
          have K0 : CellsAt W lg c' (txCells (U (11 + (jc : Int))) (.slice none 0 0)) := fun i u hi hu => hcell _ jc hjc.out i u hi hu
          have K1 := K0.put a 0 (.int .i64 2) (by omega) rfl
          have K2 := K1.put a 1 (.int .i64 (11 + (jc : Int))) (by omega) rfl
          have K3 := K2.put a 2 (.int .i64 0) (by omega) rfl
          have K4 := K3.put a 3 (.int .i64 0) (by omega) rfl
          have K5 := K4.put a 4 (.int .i64 (11 + (jc : Int) - 1)) (by omega) rfl
          have K6 := K5.put a 5 (.slice none 0 0) (by omega) rfl
          have d0 := K1 0 _ (by omega) rfl
          have d1 := K2 1 _ (by omega) rfl
          have d2 := K3 2 _ (by omega) rfl
          have d3 := K4 3 _ (by omega) rfl
          have d4 := K5 4 _ (by omega) rfl
          have d5 := K6 5 _ (by omega) rfl
          simp only [Nat.add_zero, U] at d0 d1 d2 d3 d4 d5
          clear K0 K1 K2 K3 K4 K5 K6
          clear hcell
          have hst := swap_rel hlW.out hrowW.out hlgl hlg hbelW.out hps.out hja.out hjc.out
          simp only [txCells, U, World.setCells, Nat.add_assoc, Nat.reduceAdd] at hst
          replace hst := hid hst
          go_region
          go_wp2_with fail
          go_roundg (xs.length - (j + 2))
          case rel =>
            obtain ⟨h1, h2, h3, h4⟩ := hst.out
            exact ⟨j + 2, _, by go_num, rfl, h1, h2, h3, h4⟩
          case measure => omega
        · have hbel2 := hbel.out
          have hrow2 := hrow.out
          have hn : ps.Nodup := (hps.out.nodup_iff).2 List.nodup_range
          have hpl : ps.length = k := by rw [hps.out.length_eq, List.length_range]
          have hl8 : ∀ j ∈ ps, j < 8 := fun j hj => by have := List.mem_range.1 (hps.out.mem_iff.1 hj); omega
          obtain ⟨W2, rfl⟩ : ∃ W2 : World, W2 = wr := ⟨_, rfl⟩
          have hlR : Rd W2 (fun b => w3.heap.size ≤ b) 6 (some ⟨lg, 0, none⟩) k (rowC ps) := Rd.of_own hl.out (fun b hb _ => hb)
          have hB2 : Bufr (fun _ => False) W2 g mb 2 10 [] := hB3.out.next hbel2
          have hst : Hid (OutI W2 g mb ps k k (.slice (some ⟨W2.heap.size, 0, none⟩) 0 0) (.int .i64 0) (W2.alloc (.cells #[] 34))) :=
            hid ⟨0, [], [], Nat.zero_le _, by omega, rfl, World.ownsRow_made W2 #[] 0 (Nat.le_refl _) (by simp) (by simp), by simp, by simp, hB2.next ((Below.refl _ _).alloc (Nat.le_refl _) _), TurnM.start ps, (Chg.refl _ W2).new _⟩
          replace hlR := hid hlR
          replace hn := hid hn
          replace hl8 := hid hl8
          replace hpl := hid hpl
          have hg3' : ∀ b, w3.heap.size ≤ b → ¬ (b = g ∨ b = mb) := fun b hb e => by omega
          replace hg3' := hid hg3'
          clear hB2 hbel2 hl hrow2
          go_wp2_with fail
          go_loopg [13, 94] k (fun n ov ix wr => OutI W2 g mb ps k n ov ix wr)
          case atStart => exact hst.out
          case round =>
            clear hst
            obtain ⟨t, m, outs, ht, rfl, rfl, hown, hout, hws, hB, hI, hch⟩ := hrel
            by_cases htk : t < k
            · obtain ⟨jt, hjt⟩ : ∃ jt, ps[t]? = some jt := ⟨_, List.getElem?_eq_getElem (by rw [hpl.out]; exact htk)⟩
              have hj8 := hl8.out jt (List.mem_of_getElem? hjt)
              have hRw : Rd wr (fun b => w3.heap.size ≤ b) 6 (some ⟨lg, 0, none⟩) k (rowC ps) := hlR.out.chg hch (fun b hb => hg3'.out b hb)
              have hcell : ∀ i u, i < 6 → (txCells (U (11 + (jt : Int))) (.slice none 0 0))[i]? = some u → wr.cell? ⟨lg, t * 6 + i, none⟩ = some u := by
                intro i u hi hu
                obtain ⟨b, o, e, _, _, hc⟩ := hRw.at_ htk
                injection e with e
                injection e with e1 e2
                subst e1 e2
                have := hc i hi
                rw [rowC_get hjt i hi, hu, Nat.zero_add] at this
                exact this
              have x0 : wr.cell? ⟨lg, t * 6, none⟩ = some (.int .i64 2) := hcell 0 _ (by omega) rfl
              have x1 : wr.cell? ⟨lg, t * 6 + 1, none⟩ = some (.int .i64 (11 + (jt : Int))) := hcell 1 _ (by omega) rfl
              have x2 : wr.cell? ⟨lg, t * 6 + 2, none⟩ = some (.int .i64 0) := hcell 2 _ (by omega) rfl
              have x3 : wr.cell? ⟨lg, t * 6 + 3, none⟩ = some (.int .i64 0) := hcell 3 _ (by omega) rfl
              have x4 : wr.cell? ⟨lg, t * 6 + 4, none⟩ = some (.int .i64 (11 + (jt : Int) - 1)) := hcell 4 _ (by omega) rfl
              have x5 : wr.cell? ⟨lg, t * 6 + 5, none⟩ = some (.slice none 0 0) := hcell 5 _ (by omega) rfl
              have hP := fun o : Obj => turn_put g mb (wr.alloc o) (hB.next ((Below.refl _ _).alloc (Nat.le_refl _) o)) hI hn.out hjt hj8 (by omega)
              have hog : ov_ne u13 g := fun e => own_blk_ne hown hB.blk (by decide) e
              have hom : ov_ne u13 mb := fun e => hB.map.own_ne hown e
              replace hP := hid hP
              replace hown := hid hown
              replace hout := hid hout
              replace hws := hid hws
              replace hch := hid hch
              have hlen := hI.len
              clear hcell hRw hjt hj8 hB hI
              go_wp2_with fail
              refine (hP.out _).mono ?_
              rintro e w6 ⟨kind, out, m', oA, oc, rfl, hB6, I6, ho6, hT6, K6⟩
              have O6 := own_chg (hown.out.alloc _) K6 (fun h hh hF => by rcases hF with e | e; exact hog (e ▸ hh); exact hom (e ▸ hh))
              have hone := txs_one hT6
              obtain ⟨_, _, e', _, _, hRo, _⟩ := id hT6
              injection e' with e1 _ e2
              subst e1 e2
              have hI6 := I6.len
              have hW6 : W2.heap.size ≤ w6.heap.size := Nat.le_trans hch.out.size (Nat.le_trans (by simp) K6.size)
              replace hB6 := hid hB6
              replace I6 := hid I6
              replace ho6 := hid ho6
              replace hT6 := hid hT6
              replace K6 := hid K6
              replace O6 := hid O6
              replace hone := hid hone
              replace hRo := hid hRo
              clear x0 x1 x2 x3 x4 x5 hP
              go_wp2_with (at_builtin; (refine wpList_append_rd _ rfl (.tmp 104) (.tmp 105) _ rfl W2.heap.size 34 i0 _ 6 64 Try.underlying29 hi0 hz0 hz1 hz2 rfl (by omega) u13 outs.length (outs.flatMap (fun x => txCells x.1 x.2)) rfl O6.out (fun _ => True) oA out.length oc (out.flatMap (fun x => txCells x.1 x.2)) rfl hRo.out hone.out (by simp only [maxLen]; omega) (by omega) hW6 ?_); intro ov' w7 O7 hg7)
              have hfin := hid (out_step htk hown.out hout.out hws.out hch.out hB6.out I6.out ho6.out hT6.out K6.out O6.out O7 hg7)
              clear O7 hg7
              go_wp2_with fail
              go_roundg (k - (t + 1))
              case rel => exact hfin.out
              case measure => omega
            · obtain rfl : t = k := by omega
              obtain ⟨hh, rfl⟩ := hI.done hps.out
              have hbw : Below w.heap.size w wr := Chg.below_of (hbw3.out.trans (hbel.out.mono hbw3.out.size)) hch (Nat.le_trans hbw3.out.size hbel.out.size) (fun i hi => by rcases hi with rfl | rfl <;> assumption)
              have hB1 : w3.heap.size ≤ B1 := by omega
              have hrw := own_chg hrow.out hch (fun h hh' => hg3'.out h (Nat.le_trans hB1 (hrow.out.lt h hh').1))
              rw [rowC_map] at hrw
              obtain ⟨rA, rc, rfl, hrT⟩ := txs_of_own (out := (List.range t).map (fun j : Nat => (U (11 + (j : Int)), Value.slice none 0 0))) (w := wr) (base := B1) (v := rv) (by simpa using hrw)
                (fun x hx => by
                  obtain ⟨j, _, rfl⟩ := List.mem_map.1 hx
                  exact (ws_none wr _ rfl).more (fun _ _ h => h.elim))
              obtain ⟨oA, oc, rfl, hoT⟩ := txs_of_own hown hws
              have hsame : sameTxs outs ((List.range t).map (fun j : Nat => (U (11 + (j : Int)), Value.slice none 0 0))) = true := by
                apply sameTxs_of
                apply List.ext_getElem?
                intro i
                rw [List.getElem?_map, List.getElem?_map, List.getElem?_map]
                by_cases hi : i < t
                · obtain ⟨x, hx⟩ : ∃ x, outs[i]? = some x := ⟨_, List.getElem?_eq_getElem (by omega)⟩
                  rw [hx, List.getElem?_range hi]
                  simp [hout i x hx]
                · rw [List.getElem?_eq_none (by omega), List.getElem?_eq_none (by simp; omega)]; rfl
              have hTx := txns_any (fun _ => True) (fun _ => True) outs _ _ _ wr hoT hrT
              rw [hsame] at hTx
              rw [hh] at hB
              simp only [List.length_map, List.length_range] at hTx ⊢
              rw [hh] at hTx ⊢
              replace hTx := hid hTx
              replace hB := hid hB
              replace hh := hid hh
              replace hbw := hid hbw
              clear hrw hrT hoT hown hout hws hsame hch hI
              go_wp2_with fail
              refine hTx.out.mono ?_
              rintro e w8 ⟨rfl, hb8⟩
              have hH := have_any g mb 2 (10 + (t : Int)) [] w8 (hB.out.next hb8)
              replace hH := hid hH
              go_wp2_with fail
              refine hH.out.mono ?_
              rintro e _ ⟨rfl, rfl⟩
              have hN := numbers_any g mb 2 (10 + (t : Int)) [] w8 (hB.out.next hb8) (fun p hp => by simp at hp) (by simp)
              replace hN := hid hN
              replace hb8 := hid hb8
              go_wp2_with fail
              refine hN.out.mono ?_
              rintro e w9 ⟨v9, rfl, hI9, hb9⟩
              have e0 : sortI (([] : Held).map (·.1)) = [] := by simp [sortI]
              rw [e0] at hI9
              obtain ⟨A9, c9, rfl⟩ := hI9.empty
              clear hI9 e0
              replace hb9 := hid hb9
              go_wp2_with fail
              go_returns
              exact ⟨rfl, (hbw.out.next hb8.out).next hb9.out⟩
end Go.Proofs.Ytllkeifldfmbkaa
