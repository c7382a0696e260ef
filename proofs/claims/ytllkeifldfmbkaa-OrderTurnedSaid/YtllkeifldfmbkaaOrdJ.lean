/- Layer 14: the law OrderOnce. -/
import Derived.Test.YtllkeifldfmbkaaOrdI
namespace Go.Proofs.Ytllkeifldfmbkaa
open Go.RowKit

theorem Ints.form {w : World} {B : Nat} {v : Value} {xs : List Int} (h : Ints w B v xs) : ∃ A c, v = .slice A xs.length c ∧ Rd w (fun _ => True) 1 A xs.length (xs.map (Value.int .i64)) := by
  rcases h.2 with ⟨rfl, h0⟩ | ⟨g, cap, cur, rfl, _⟩
  · have : xs = [] := List.eq_nil_of_length_eq_zero h0
    subst this
    exact ⟨none, 0, rfl, Rd.nil⟩
  · exact ⟨_, cap, rfl, Rd.of_own h (fun _ _ _ => trivial)⟩
theorem Rd.int {w : World} {S : Nat → Prop} {A : Option Addr} {xs : List Int} (h : Rd w S 1 A xs.length (xs.map (Value.int .i64))) {k : Nat} {n : Int} (hk : xs[k]? = some n) : ∃ b o, A = some ⟨b, o, none⟩ ∧ b < w.heap.size ∧ w.cell? ⟨b, o + k, none⟩ = some (.int .i64 n) := by
  have hlt : k < xs.length := (List.getElem?_eq_some_iff.1 hk).1
  obtain ⟨b, o, e, hb, _, hc⟩ := h.2 (by omega)
  exact ⟨b, o, e, hb, hc k _ (by rw [List.getElem?_map, hk]; rfl)⟩
/-- What the law's loop keeps. -/
def OnceI (w : World) (S : Nat → Prop) (g mb : Nat) (l : List Act14) (n : Nat) (nx cv ix : Value) (wr : World) : Prop :=
  ∃ (k : Nat) (hv : Int) (m : Held) (came : List (Tx × Value)), k ≤ l.length ∧ ix = .int .i64 k ∧ n = l.length - k ∧ nx = .int .i64 (hv + 1) ∧ 0 ≤ hv ∧ hv ≤ 4611686018427387903 ∧
    Bufr (fun b => some b = cv.ownBlock) wr g mb 1 hv m ∧ HeldOk 1 (hv + 1) m ∧ m.length ≤ 8 ∧ (∀ p ∈ m, p.2.1 ∈ came.map (·.1)) ∧ came.length ≤ k ∧
    wr.ownsRow w.heap.size 34 6 cv came.length (came.flatMap (fun x => txCells x.1 x.2)) ∧ (∀ x ∈ came, Ws w S x.2 x.1.ws) ∧ Below w.heap.size w wr

set_option maxRecDepth 100000 in
set_option maxHeartbeats 8000000 in
theorem once_any (HA : ∀ w, Calls Try.prog 8 #[] w fun e w' => e = .returned (.bool true) ∧ Below w.heap.size w w') (hv0 : Int) (S : Nat → Prop) (v : Value) (l : List Act14) (w : World) (h : Acts w S v l) :
    Calls Try.prog 3 #[.int .i64 hv0, v] w fun e w' => e = .returned (.bool true) ∧ Below w.heap.size w w' := by
  obtain ⟨i0, hi0, hz0, hz1, hz2⟩ := info_parts info34
  obtain ⟨A, c, rfl, hc, hm, _⟩ := id h
  have hm1 := hm; unfold maxLen at hm1
  replace HA := hid HA
  replace h := hid h
  go_enter Try.func3, Try.ntmps3
  go_wp2_with fail
  refine (HA.out _).mono ?_
  rintro e w1 ⟨rfl, hb1⟩
  have hL := large14_any S (.slice A l.length c) l w1 (h.out.below hb1)
  replace hb1 := hid hb1
  go_wp2_with fail
  refine hL.mono ?_
  rintro e w2 ⟨lb, rfl, h100, hb2⟩
  have hb : Below w.heap.size w w2 := hb1.out.next hb2
  clear hL hb2 hb1
  replace hb := hid hb
  cases lb
  rotate_left
  · clear h100
    go_wp2
    go_returns
    exact ⟨rfl, hb.out⟩
  have h100' := h100 rfl
  clear h100
  by_cases hneg : hv0 < 0
  · go_wp2
    go_returns
    exact ⟨rfl, hb.out⟩
  by_cases hbig : 1099511627776 < hv0
  · go_wp2
    go_returns
    exact ⟨rfl, hb.out⟩
  have hn0 : 0 ≤ hv0 := by omega
  have hn1 : hv0 ≤ 1099511627776 := by omega
  have hN := fun W => new_ok (X := fun b => some b = (Value.slice none 0 0).ownBlock) 1 hv0 W (by omega) (by omega) hn0 (by omega)
  replace hN := hid hN
  go_wp2_with fail
  refine (hN.out _).mono ?_
  rintro e w3 ⟨rfl, hB3, hb3⟩
  go_wp2_with fail
  have hst : OnceI w S (w2.heap.size + 1) w2.heap.size l l.length (.int .i64 (hv0 + 1)) (.slice (some ⟨w3.heap.size, 0, none⟩) 0 0) (.int .i64 0) (w3.alloc (.cells #[] 34)) := by
    have hbw3 : Below w.heap.size w w3 := hb.out.next hb3
    refine ⟨0, hv0, [], [], Nat.zero_le _, rfl, by omega, rfl, hn0, by omega, ⟨(hB3.blk).alloc _, (hB3.map).alloc _, by simp⟩, fun p hp => by simp at hp, by simp, by simp, by simp, ?_, by simp, hbw3.alloc hbw3.size _⟩
    exact World.ownsRow_made w3 #[] 0 hbw3.size (by simp) (by simp)
  have hg1 : w.heap.size ≤ w2.heap.size := hb.out.size
  obtain ⟨g, hgg⟩ : ∃ g, g = w2.heap.size + 1 := ⟨_, rfl⟩
  obtain ⟨mb, hmb⟩ : ∃ mb, mb = w2.heap.size := ⟨_, rfl⟩
  rw [← hgg, ← hmb] at hst
  rw [← hgg]
  have hgb : w.heap.size ≤ g := by omega
  have hmbb : w.heap.size ≤ mb := by omega
  replace hst := hid hst
  replace h100' := hid h100'
  clear hgg hmb hB3 hb3 hb hN hn0 hn1 hneg hbig HA hg1
  go_loopg [7, 8, 44] l.length (fun n nx cv ix wr => OnceI w S g mb l n nx cv ix wr)
  case atStart => exact hst.out
  case round =>
    clear hst
    obtain ⟨k, hv, m, came, hk, rfl, rfl, rfl, h0, h1, hB, hok, hml, hcm, hcl, hown, hws, hbel⟩ := hrel
    by_cases hlt : k < l.length
    rotate_left
    · clear hB hok hcm hown hws h1
      go_wp2
      go_returns
      exact ⟨rfl, hbel⟩
    obtain ⟨x, hx⟩ : ∃ x, l[k]? = some x := ⟨_, List.getElem?_eq_getElem hlt⟩
    have hA := (h.out.below hbel)
    obtain ⟨A', c', hAe, _, _, hr, hwa⟩ := hA
    injection hAe with hAe1 _ hAe2
    subst hAe1 hAe2
    obtain ⟨ab, ao, rfl, hbl, hS, c0, c1, c2, c3, c4, c5, c6⟩ := hr.act hx
    have hwx : Ws w S x.2.2 x.2.1.ws := by
      obtain ⟨_, _, _, _, _, _, hq⟩ := h.out
      exact hq _ (List.mem_of_getElem? hx)
    obtain ⟨d, t, tv⟩ := x
    obtain ⟨tA, tc, htv, _⟩ := id hwx
    simp only [] at htv hwx c0 c1 c2 c3 c4 c5 c6
    subst htv
    clear hr hwa hx
    replace h1 := hid h1
    replace hB := hid hB
    replace hok := hid hok
    replace hcm := hid hcm
    replace hown := hid hown
    replace hws := hid hws
    replace hwx := hid hwx
    replace hml := hid hml
    replace hcl := hid hcl
    replace hbel := hid hbel
    by_cases hd : d = 0
    rotate_left
    · have hd1 : (d != 0) = true := by simpa using hd
      clear hd
      go_wp2_with fail
      go_roundg (l.length - (k + 1))
      case rel =>
        exact ⟨k + 1, hv, m, came, by omega, by go_num, rfl, rfl, h0, h1.out, hB.out.next ((Below.refl _ _).alloc (Nat.le_refl _) _), hok.out, hml.out, hcm.out, by have := hcl.out; omega, hown.out.alloc _, hws.out, hbel.out.alloc hbel.out.size _⟩
      case measure => omega
    subst hd
    have hnew : ∀ j u, (txCells t (.slice tA t.ws.length tc))[j]? = some u → ((wr.alloc (.cells #[.int .i64 0, .int .i64 t.o, .int .i64 t.s, .int .i64 t.d0, .int .i64 t.d1, .int .i64 t.d2, .slice tA t.ws.length tc] 36)).alloc (.cells #[.int .i64 t.o, .int .i64 t.s, .int .i64 t.d0, .int .i64 t.d1, .int .i64 t.d2, .slice tA t.ws.length tc] 34)).cell? ((⟨wr.heap.size + 1, 0, none⟩ : Addr).add j) = some u := by
      have := new_cells (wr.alloc (.cells #[.int .i64 0, .int .i64 t.o, .int .i64 t.s, .int .i64 t.d0, .int .i64 t.d1, .int .i64 t.d2, .slice tA t.ws.length tc] 36)) 34 (txCells t (.slice tA t.ws.length tc))
      rw [World.size_alloc] at this
      exact this
    replace hnew := hid hnew
    have hnum : came.length + 1 ≤ 101 := by have := hcl.out; have := h100'.out; omega
    replace hnum := hid hnum
    have hbs := hbel.out.size
    go_upto_region 15 with (at_builtin; (refine wpList_append_at _ rfl (.tmp 51) (.tmp 54) _ rfl w.heap.size 34 i0 _ 6 64 Try.underlying29 hi0 hz0 hz1 hz2 rfl (by omega) u8 came.length (came.flatMap (fun x => txCells x.1 x.2)) rfl ((hown.out.alloc _).alloc _) ⟨wr.heap.size + 1, 0, none⟩ 1 1 (txCells t (.slice tA t.ws.length tc)) rfl rfl hnew.out txCells_one (by have := hnum.out; simp only [maxLen]; omega) (by have := hnum.out; omega) (by simp; omega) ?_); intro cv' w5 O5 hg5 hloc)
    have K5 : Chg (fun i => some i = u8.ownBlock) wr w5 := (((Chg.refl _ wr).new _).new _).trans (Chg.grown hg5 (fun k hk => hk.symm))
    have hlt8 : ∀ i, some i = u8.ownBlock → w.heap.size ≤ i ∧ i < wr.heap.size := fun i hi => hown.out.lt i hi.symm
    have T5 : Blk w5 wr.heap.size 36 [.int .i64 0, .int .i64 t.o, .int .i64 t.s, .int .i64 t.d0, .int .i64 t.d1, .int .i64 t.d2, .slice tA t.ws.length tc] := by
      have h1 := ((Blk.new wr 36 [.int .i64 0, .int .i64 t.o, .int .i64 t.s, .int .i64 t.d0, .int .i64 t.d1, .int .i64 t.d2, .slice tA t.ws.length tc]).alloc (.cells #[.int .i64 t.o, .int .i64 t.s, .int .i64 t.d0, .int .i64 t.d1, .int .i64 t.d2, .slice tA t.ws.length tc] 34))
      exact h1.chg (Chg.grown (F := fun i => some i = u8.ownBlock) hg5 (fun k hk => hk.symm)) (fun e => by have := hlt8 _ e; omega)
    have hB5 : Bufr (fun b => some b = cv'.ownBlock) w5 g mb 1 hv m := by
      refine ⟨hB.out.blk.chg K5 (fun e => own_blk_ne hown.out hB.out.blk (by decide) e.symm), hB.out.map.chg K5 (fun e => hB.out.map.own_ne hown.out e.symm), fun p hp => ?_⟩
      refine Ws.chg (Ws.more (hB.out.ws p hp) (S' := fun b => b ≠ g ∧ b ≠ mb ∧ ¬ some b = u8.ownBlock ∧ ¬ some b = cv'.ownBlock) ?_) K5 (fun b hb => hb.2.2.1) |>.more (fun b _ hb => ⟨hb.1, hb.2.1, hb.2.2.2⟩)
      intro b hb hS
      refine ⟨hS.1, hS.2.1, hS.2.2, fun e => ?_⟩
      rcases hloc with e1 | e1
      · exact hS.2.2 (e.trans e1)
      · rw [e1] at e; injection e with e; simp at e; omega
    have hbel5 : Below w.heap.size w w5 := Chg.below_of hbel.out K5 hbs (fun i hi => (hlt8 i hi).1)
    have hPS := put_sum (X := fun b => some b = cv'.ownBlock) g mb 1 hv m t S (.slice tA t.ws.length tc) w5 (fun y => y ∈ (came ++ [(t, Value.slice tA t.ws.length tc)]).map (·.1)) hB5 (hwx.out.below hbel5) h0 h1.out hml.out (fun b hb => (O5.lt b hb.symm).2) hok.out
      (fun p hp => by have := hcm.out p hp; rw [List.map_append]; exact List.mem_append_left _ this) (by simp)
    have O5' : w5.ownsRow w.heap.size 34 6 cv' (came ++ [(t, Value.slice tA t.ws.length tc)]).length ((came ++ [(t, Value.slice tA t.ws.length tc)]).flatMap (fun x => txCells x.1 x.2)) := by
      simpa [List.flatMap_append] using O5
    have hws5 : ∀ x ∈ came ++ [(t, Value.slice tA t.ws.length tc)], Ws w S x.2 x.1.ws := by
      intro x hx
      rcases List.mem_append.1 hx with hx | hx
      · exact hws.out x hx
      · simp only [List.mem_singleton] at hx; subst hx; exact hwx.out
    have hcl5 : (came ++ [(t, Value.slice tA t.ws.length tc)]).length ≤ k + 1 := by have := hcl.out; simp; omega
    have ct5 := T5.cell
    obtain ⟨cm5, hcm5⟩ : ∃ cm5, cm5 = came ++ [(t, Value.slice tA t.ws.length tc)] := ⟨_, rfl⟩
    rw [← hcm5] at hPS O5' hws5 hcl5
    have hog : cv'.ownBlock ≠ some g := own_blk_ne O5' hB5.blk (by decide)
    have hom : cv'.ownBlock ≠ some mb := hB5.map.own_ne O5'
    replace hPS := hid hPS
    replace O5' := hid O5'
    replace hws5 := hid hws5
    replace hcl5 := hid hcl5
    replace hbel5 := hid hbel5
    clear hcm5 hB5 K5 hg5 hloc O5 hlt8 hnew hnum hB hok hcm hown hws hwx hml hcl hbel hbs c0 c1 c2 c3 c4 c5 c6 T5
    go_wp2_with fail
    refine hPS.out.mono ?_
    rintro e w6 ⟨kind, out, m6, oA, oc, rfl, hkind, hout, hmax, hB6, hok6, hml6, hcm6, hT6, K6, ho9⟩
    have hbel6 : Below w.heap.size w w6 := Chg.below_of hbel5.out K6 hbel5.out.size (fun i hi => by rcases hi with rfl | rfl <;> assumption)
    have O6 : w6.ownsRow w.heap.size 34 6 cv' cm5.length (cm5.flatMap (fun x => txCells x.1 x.2)) := own_chg O5'.out K6 (fun i hi hF => by rcases hF with rfl | rfl; exact hog hi; exact hom hi)
    obtain ⟨cA, cc, rfl, hTC⟩ := txs_of_own O6 (fun x hx => ((hws5.out x hx).below hbel6).more (fun _ _ _ => trivial))
    clear hog hom hPS K6 O5' hbel5
    replace hB6 := hid hB6
    replace hok6 := hid hok6
    replace hml6 := hid hml6
    replace hcm6 := hid hcm6
    replace hT6 := hid hT6
    replace hTC := hid hTC
    replace O6 := hid O6
    replace hbel6 := hid hbel6
    replace hout := hid hout
    replace hmax := hid hmax
    replace hkind := hid hkind
    have hcs : cm5.length ≤ 101 := by have := hcl5.out; have := h100'.out; omega
    have hk2 : (kind == 2) = decide (0 < out.length) := by
      rw [Bool.eq_iff_iff, hkind.out]; simp
    obtain ⟨q, hq⟩ : ∃ q : Bool, decide (0 < out.length) = q := ⟨_, rfl⟩
    rw [hq] at hk2
    go_wp2_with fail
    clear hq hk2
    go_loopg [7, 71] out.length (fun n nx ix wr2 => ∃ j : Nat, j ≤ out.length ∧ n = out.length - j ∧ ix = .int .i64 j ∧ nx = .int .i64 (hv + 1 + (j : Int)) ∧ Below w6.heap.size w6 wr2)
    case atStart => exact ⟨0, Nat.zero_le _, by omega, rfl, by simp, Below.refl _ _⟩
    case round =>
      obtain ⟨j, hj, rfl, rfl, rfl, hb7⟩ := hrel
      by_cases hjl : j < out.length
      · obtain ⟨x, hx⟩ : ∃ x, out[j]? = some x := ⟨_, List.getElem?_eq_getElem hjl⟩
        obtain ⟨hxs, hxo, hxc⟩ := hout.out j x hx
        obtain ⟨oA', oc', hoe, _, _, hro, hwo⟩ := hT6.out.below hb7
        injection hoe with hoe1 _ hoe2
        subst hoe1 hoe2
        obtain ⟨tx, vx⟩ := x
        simp only [] at hxs hxo hxc
        obtain ⟨ob, oo, rfl, hobl, _, hcx⟩ := hro.tx hx
        have hwx := hwo _ (List.mem_of_getElem? hx)
        obtain ⟨xA, xc, hvx, _⟩ := id hwx
        simp only [] at hvx hwx
        subst hvx
        have x0 : wr.cell? ⟨ob, oo + j * 6, none⟩ = some (.int .i64 tx.o) := hcx 0 (by omega)
        have x1 : wr.cell? ⟨ob, oo + j * 6 + 1, none⟩ = some (.int .i64 tx.s) := hcx 1 (by omega)
        have x2 : wr.cell? ⟨ob, oo + j * 6 + 2, none⟩ = some (.int .i64 tx.d0) := hcx 2 (by omega)
        have x3 : wr.cell? ⟨ob, oo + j * 6 + 3, none⟩ = some (.int .i64 tx.d1) := hcx 3 (by omega)
        have x4 : wr.cell? ⟨ob, oo + j * 6 + 4, none⟩ = some (.int .i64 tx.d2) := hcx 4 (by omega)
        have x5 : wr.cell? ⟨ob, oo + j * 6 + 5, none⟩ = some (.slice xA tx.ws.length xc) := hcx 5 (by omega)
        have hbx : Below w6.heap.size w6 (wr.alloc (.cells #[.int .i64 tx.o, .int .i64 tx.s, .int .i64 tx.d0, .int .i64 tx.d1, .int .i64 tx.d2, .slice xA tx.ws.length xc] 34)) := hb7.alloc hb7.size _
        have TX := Blk.new wr 34 [.int .i64 tx.o, .int .i64 tx.s, .int .i64 tx.d0, .int .i64 tx.d1, .int .i64 tx.d2, .slice xA tx.ws.length xc]
        have hxw := hwx.alloc (.cells #[.int .i64 tx.o, .int .i64 tx.s, .int .i64 tx.d0, .int .i64 tx.d1, .int .i64 tx.d2, .slice xA tx.ws.length xc] 34)
        obtain ⟨tag, htag⟩ : ∃ tag, tag = wr.heap.size := ⟨_, rfl⟩
        replace hxs := hid hxs
        replace hxo := hid hxo
        replace hxc := hid hxc
        replace hbx := hid hbx
        replace hxw := hid hxw
        replace TX := hid TX
        replace hb7 := hid hb7
        clear hro hwo hx hcx hwx
        go_wp2_with fail
        rw [← htag]
        go_loopg [15, 77] cm5.length (fun n is ix wr3 => ∃ i : Nat, i ≤ cm5.length ∧ n = cm5.length - i ∧ ix = .int .i64 i ∧ is = .bool ((cm5.take i).any (fun y => sameTx tx y.1)) ∧ Below (wr.alloc (.cells #[.int .i64 tx.o, .int .i64 tx.s, .int .i64 tx.d0, .int .i64 tx.d1, .int .i64 tx.d2, .slice xA tx.ws.length xc] 34)).heap.size (wr.alloc (.cells #[.int .i64 tx.o, .int .i64 tx.s, .int .i64 tx.d0, .int .i64 tx.d1, .int .i64 tx.d2, .slice xA tx.ws.length xc] 34)) wr3)
        case atStart => exact ⟨0, Nat.zero_le _, by omega, rfl, by simp, Below.refl _ _⟩
        case round =>
          obtain ⟨i, hi, rfl, rfl, rfl, hb8⟩ := hrel
          have TX8 : Blk wr tag 34 [.int .i64 tx.o, .int .i64 tx.s, .int .i64 tx.d0, .int .i64 tx.d1, .int .i64 tx.d2, .slice xA tx.ws.length xc] := by rw [htag]; exact TX.out.next hb8
          have hbx8 : Below w6.heap.size w6 wr := hbx.out.next hb8
          have hxw8 := hxw.out.below hb8
          clear htag TX hbx hxw
          have t0 : wr.cell? ⟨tag, 0, none⟩ = some (.int .i64 tx.o) := TX8.cell 0
          have t1 : wr.cell? ⟨tag, 1, none⟩ = some (.int .i64 tx.s) := TX8.cell 1
          have t2 : wr.cell? ⟨tag, 2, none⟩ = some (.int .i64 tx.d0) := TX8.cell 2
          have t3 : wr.cell? ⟨tag, 3, none⟩ = some (.int .i64 tx.d1) := TX8.cell 3
          have t4 : wr.cell? ⟨tag, 4, none⟩ = some (.int .i64 tx.d2) := TX8.cell 4
          have t5 : wr.cell? ⟨tag, 5, none⟩ = some (.slice xA tx.ws.length xc) := TX8.cell 5
          have htne := World.new_ne wr ⟨tag, 0, none⟩ t0
          have htlt : tag < wr.heap.size := TX8.lt
          replace hbx8 := hid hbx8
          replace hxw8 := hid hxw8
          replace hb8 := hid hb8
          replace TX8 := hid TX8
          by_cases hil : i < cm5.length
          · obtain ⟨y, hy⟩ : ∃ y, cm5[i]? = some y := ⟨_, List.getElem?_eq_getElem hil⟩
            obtain ⟨yA0, yc0, hye, _, _, hrc, hwc⟩ := hTC.out.below hbx8.out
            injection hye with hye1 _ hye2
            subst hye1 hye2
            have hst : (cm5.take (i + 1)).any (fun y => sameTx tx y.1) = ((cm5.take i).any (fun y => sameTx tx y.1) || sameTx tx y.1) := by
              rw [List.take_add_one, hy, List.any_append]; simp
            obtain ⟨ty, vy⟩ := y
            obtain ⟨cb, co, rfl, hcbl, _, hcy⟩ := hrc.tx hy
            have hwy := hwc _ (List.mem_of_getElem? hy)
            obtain ⟨zA, zc, hvy, _⟩ := id hwy
            simp only [] at hvy hwy hst
            subst hvy
            have y0 : wr.cell? ⟨cb, co + i * 6, none⟩ = some (.int .i64 ty.o) := hcy 0 (by omega)
            have y1 : wr.cell? ⟨cb, co + i * 6 + 1, none⟩ = some (.int .i64 ty.s) := hcy 1 (by omega)
            have y2 : wr.cell? ⟨cb, co + i * 6 + 2, none⟩ = some (.int .i64 ty.d0) := hcy 2 (by omega)
            have y3 : wr.cell? ⟨cb, co + i * 6 + 3, none⟩ = some (.int .i64 ty.d1) := hcy 3 (by omega)
            have y4 : wr.cell? ⟨cb, co + i * 6 + 4, none⟩ = some (.int .i64 ty.d2) := hcy 4 (by omega)
            have y5 : wr.cell? ⟨cb, co + i * 6 + 5, none⟩ = some (.slice zA ty.ws.length zc) := hcy 5 (by omega)
            have HS : ∀ W, Below wr.heap.size wr W → Calls Try.prog 12 #[txVal tx (.slice xA tx.ws.length xc), txVal ty (.slice zA ty.ws.length zc)] W fun e w' => e = .returned (.bool (sameTx tx ty)) ∧ Below W.heap.size W w' :=
              fun W hW => same_any _ _ tx ty _ _ W (hxw8.out.below hW) (hwy.below hW)
            replace HS := hid HS
            replace hst := hid hst
            clear hrc hwc hy hcy hwy
            obtain ⟨B, hB⟩ : ∃ B : Bool, B = (cm5.take i).any (fun y => sameTx tx y.1) := ⟨_, rfl⟩
            rw [← hB]
            replace hB := hid hB
            cases B
            · go_wp2_with fail
              refine (HS.out _ (by go_grown)).mono ?_
              rintro e w9 ⟨rfl, hb9⟩
              have hb10 := hb8.out.next (Below.next (Below.alloc (Below.refl _ wr) (Nat.le_refl _) _) hb9)
              go_wp2_with fail
              go_roundg (cm5.length - (i + 1))
              case rel => exact ⟨i + 1, by omega, rfl, by go_num, by rw [hst.out, ← hB.out]; simp, hb10⟩
              case measure => omega
            · go_wp2_with fail
              go_roundg (cm5.length - (i + 1))
              case rel => exact ⟨i + 1, by omega, rfl, by go_num, by rw [hst.out, ← hB.out]; simp, hb8.out.alloc hb8.out.size _⟩
              case measure => omega
          · have hall : (cm5.take i).any (fun y => sameTx tx y.1) = true := by
              rw [List.take_of_length_le (by omega), List.any_eq_true]
              obtain ⟨y, hy, e⟩ := List.mem_map.1 hxc.out
              exact ⟨y, hy, by rw [e]; exact sameTx_self _⟩
            rw [hall]
            have hq1 : (tx.s != hv + 1 + (j : Int)) = false := by rw [hxs.out]; simp
            have hq2 : (tx.o != 1) = false := by rw [hxo.out]; rfl
            have hw1 : IntKind.i64.wrap (hv + 1 + (j : Int) + 1) = hv + 1 + (j : Int) + 1 := IntWalk.i64_in _ (by have := hmax.out; omega)
            have hw2 : wrap64 (hv + 1 + (j : Int) + 1) = hv + 1 + (j : Int) + 1 := IntWalk.wrap64_in _ (by have := hmax.out; omega)
            clear hall
            go_wp2_with fail
            go_roundg (out.length - (j + 1))
            case rel => exact ⟨j + 1, by omega, rfl, by go_num, by go_num, hbx8.out⟩
            case measure => omega
      · obtain rfl : j = out.length := by omega
        have hB7 := hB6.out.next hb7
        have hbel7 : Below w.heap.size w wr := hbel6.out.next hb7
        replace hB7 := hid hB7
        replace hbel7 := hid hbel7
        replace hb7 := hid hb7
        have hnum := fun W (hW : Below wr.heap.size wr W) => numbers_any g mb 1 (hv + (out.length : Int)) m6 W (hB7.out.next hW) (fun p hp => by have := hok6.out p hp; have := hmax.out; omega) (by have := hml6.out; omega)
        have hhav := fun W (hW : Below wr.heap.size wr W) => have_any g mb 1 (hv + (out.length : Int)) m6 W (hB7.out.next hW)
        have hlenN : (sortI (m6.map (·.1))).length ≤ 8 := by rw [sortI, List.length_mergeSort, List.length_map]; exact hml6.out
        have hmemN : ∀ n ∈ sortI (m6.map (·.1)), hv + 1 + (out.length : Int) < n := by
          intro n hn
          have hn' := (List.mergeSort_perm _ _).mem_iff.1 hn
          obtain ⟨p, hp, rfl⟩ := List.mem_map.1 hn'
          have := (hok6.out p hp).2.2.1
          omega
        obtain ⟨NS, hNS⟩ : ∃ NS, NS = sortI (m6.map (·.1)) := ⟨_, rfl⟩
        rw [← hNS] at hnum hlenN hmemN
        replace hnum := hid hnum
        replace hhav := hid hhav
        replace hmemN := hid hmemN
        clear hNS
        have hw9 : wrap64 (hv + 1 + (out.length : Int) - 1) = hv + (out.length : Int) := by
          have e1 : hv + 1 + (out.length : Int) - 1 = hv + (out.length : Int) := by omega
          rw [e1]; exact IntWalk.wrap64_in _ (by have := hmax.out; omega)
        go_wp2_with fail
        refine (hhav.out _ (Below.refl _ _)).mono ?_
        rintro e w8 ⟨rfl, rfl⟩
        go_wp2_with fail
        refine (hnum.out _ (Below.refl _ _)).mono ?_
        rintro e w8 ⟨v8, rfl, hI8, hb8⟩
        obtain ⟨A8, c8, rfl, _⟩ := hI8.form
        clear hI8
        go_wp2_with fail
        refine (hnum.out _ hb8).mono ?_
        rintro e w9 ⟨v9, rfl, hI9, hb9⟩
        obtain ⟨A9, c9, rfl, hR9⟩ := hI9.form
        have hb10 := hb8.next hb9
        clear hI9 hnum hhav hb8 hb9
        replace hb10 := hid hb10
        replace hR9 := hid hR9
        go_wp2_with fail
        go_loopg [118] NS.length (fun n ix wr4 => ∃ i : Nat, i ≤ NS.length ∧ n = NS.length - i ∧ ix = .int .i64 i ∧ wr4 = w9)
        case atStart => exact ⟨0, Nat.zero_le _, by omega, rfl, rfl⟩
        case round =>
          obtain ⟨i, hi, rfl, rfl, rfl⟩ := hrel
          by_cases hil : i < NS.length
          · obtain ⟨n, hn⟩ : ∃ n, NS[i]? = some n := ⟨_, List.getElem?_eq_getElem hil⟩
            obtain ⟨nb, no, rfl, _, cn⟩ := hR9.out.int hn
            have hgt := hmemN.out n (List.mem_of_getElem? hn)
            have hgt1 : decide (n ≤ hv + 1 + (out.length : Int)) = false := by simp; omega
            replace hn := hid hn
            replace hgt := hid hgt
            go_wp2_with fail
            go_roundg (NS.length - (i + 1))
            case rel => exact ⟨i + 1, by omega, rfl, by go_num, rfl⟩
            case measure => omega
          · go_wp2_with fail
            go_roundg (l.length - (k + 1))
            case rel =>
              have e1 : hv + 1 + (out.length : Int) = hv + (out.length : Int) + 1 := by omega
              rw [e1]
              exact ⟨k + 1, hv + (out.length : Int), m6, cm5, by omega, by go_num, rfl, rfl, by omega, hmax.out, hB7.out.next hb10.out, hok6.out, hml6.out, hcm6.out, hcl5.out, (own_chg O6.out (Chg.of_below (F := fun _ => False) (hb7.out.next hb10.out)) (fun _ _ => id)), hws5.out, hbel7.out.next hb10.out⟩
            case measure => omega
end Go.Proofs.Ytllkeifldfmbkaa
